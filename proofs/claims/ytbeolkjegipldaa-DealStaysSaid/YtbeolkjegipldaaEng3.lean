/- The walk's rules: rows of elements, new slices, appends, a call's end, tests. -/
import Derived.Test.YtbeolkjegipldaaEng2
namespace Go.Proofs.Ytbeolkjegipldaa
open Go.RowKit

/-- The slice v owns the elements l, each laid by enc. -/
def rowsA {T : Type} (e K : Nat) (enc : T → List Value) (v : Value) (l : List T) : As := rowA e K v l.length (l.flatMap enc)

theorem flatMap_len' {T : Type} {K : Nat} {enc : T → List Value} (hK : ∀ x, (enc x).length = K) : ∀ l : List T, (l.flatMap enc).length = l.length * K
  | [] => by simp
  | a :: l => by rw [List.flatMap_cons, List.length_append, hK, flatMap_len' hK l, List.length_cons, Nat.add_mul, Nat.one_mul, Nat.add_comm]
theorem flatMap_get' {T : Type} {K : Nat} {enc : T → List Value} (hK : ∀ x, (enc x).length = K) : ∀ (l : List T) (i j : Nat) (x : T), l[i]? = some x → j < K → (l.flatMap enc)[i * K + j]? = (enc x)[j]?
  | [], i, j, x, h, _ => by simp at h
  | a :: l, 0, j, x, h, hj => by
    obtain rfl : a = x := by simpa using h
    rw [List.flatMap_cons, List.getElem?_append_left (by rw [hK]; omega)]; simp
  | a :: l, i + 1, j, x, h, hj => by
    rw [List.flatMap_cons, List.getElem?_append_right (by rw [hK, Nat.add_mul]; omega)]
    have e : (i + 1) * K + j - (enc a).length = i * K + j := by rw [hK, Nat.add_mul]; omega
    rw [e]
    exact flatMap_get' hK l i j x (by simpa using h) hj

theorem rows_cell {T : Type} {e K : Nat} {enc : T → List Value} (hK : ∀ x, (enc x).length = K) {w : World} {g len cap : Nat} {l : List T} (h : w.ownsRow 0 e K (.slice (some ⟨g, 0, none⟩) len cap) l.length (l.flatMap enc)) {k j : Nat} {x : T} (hx : l[k]? = some x) (hj : j < K) :
    w.cell? ⟨g, k * K + j, none⟩ = (enc x)[j]? := by
  rcases h.2 with ⟨hv, _⟩ | ⟨g', cap', cur, hv, _, hg, hle, hm, hs, ht⟩
  · simp at hv
  · obtain ⟨rfl, rfl, rfl⟩ : g = g' ∧ len = l.length ∧ cap = cap' := by simpa using hv
    rw [cell_of_row w g _ _ _ _ hg]
    rw [← flatMap_get' hK l k j x hx hj, ← ht, List.getElem?_take]
    have hk : k < l.length := (List.getElem?_eq_some_iff.1 hx).1
    have : k * K + j < l.length * K := by
      have : (k + 1) * K ≤ l.length * K := Nat.mul_le_mul_right K hk
      rw [Nat.add_mul] at this; omega
    rw [if_pos this]; simp

theorem St.rows {T : Type} {e K : Nat} {enc : T → List Value} {v : Value} {l : List T} {L : List As} {w : World} (h : St (rowsA e K enc v l :: L) w) : w.ownsRow 0 e K v l.length (l.flatMap enc) := h.row
theorem rowsA_eq {T : Type} (e K : Nat) (enc : T → List Value) (v : Value) (l : List T) : rowsA e K enc v l = rowA e K v l.length (l.flatMap enc) := rfl
theorem St.erase {L : List As} {w : World} (h : St L w) (i : Nat) : St (L.eraseIdx i) w := by
  cases hi : L[i]? with
  | none => rw [List.eraseIdx_of_length_le (by simpa using hi)]; exact h
  | some A => exact (h.pick i hi).tail

section
variable {P : Program} {n : Nat} {tab : List (Nat × TD)} (hT : checkTab P tab = true) {Q : Exit → Act → World → Prop} {s : Sl} {L : List As} {all rest : List Oper} {d : Option Tmp} {ty : TypeId} {pos : String} {af : Array Edge}
include hT

theorem Y_loadR {T : Type} {t e K g k j len cap : Nat} {enc : T → List Value} {td : TD} {x : Operand} {l : List T} {y : T} {v : Value} (i : Nat) (hx : ev s x = some (.pointer (some ⟨g, k * K + j, none⟩))) (hi : L[i]? = some (rowsA e K enc (.slice (some ⟨g, 0, none⟩) len cap) l)) (ht : tdOf tab t = some td) (h1 : isOne td = true)
    (hy : l[k]? = some y) (hK : ∀ x, (enc x).length = K) (hv : (enc y)[j]? = some v) : Yl P n s L ⟨d, .load t x, ty, pos, af, none⟩ v :=
  Yl_mk fun a w ha hw => by
    have hj : j < K := by rw [← hK y]; exact (List.getElem?_eq_some_iff.1 hv).1
    have hc : w.cell? ⟨g, k * K + j, none⟩ = some v := by rw [rows_cell hK (hw.row_at hi) hy hj]; exact hv
    simp [execOp, ha.ev hx, Instr.loadAt, Instr.sureAddr, loadVar, (one_agg (tab_ok hT ht) h1 w).1, hc]

theorem Y_loadRS {T : Type} {t e K g k j q len cap : Nat} {enc : T → List Value} {td : TD} {x : Operand} {l : List T} {y : T} {vs : List Value} (i : Nat) (hx : ev s x = some (.pointer (some ⟨g, k * K + j, none⟩))) (hi : L[i]? = some (rowsA e K enc (.slice (some ⟨g, 0, none⟩) len cap) l)) (ht : tdOf tab t = some td) (h1 : aggSize td = some q)
    (hy : l[k]? = some y) (hK : ∀ x, (enc x).length = K) (hv : takeL q ((enc y).drop j) = some vs) : Yl P n s L ⟨d, .load t x, ty, pos, af, none⟩ (.agg vs.toArray) :=
  Yl_mk fun a w ha hw => by
    have hh := agg_agg (tab_ok hT ht) h1 w
    obtain ⟨g1, g2⟩ := takeL_get hv
    have hl : (loadCells ⟨g, k * K + j, none⟩ q).run P w = .ok vs.toArray w := by
      rw [← g1]
      refine run_loadCells_list w _ vs (fun u v hu => ?_)
      have := g2 u v hu
      rw [List.getElem?_drop] at this
      rw [add_any, Nat.add_assoc, rows_cell hK (hw.row_at hi) hy (by rw [← hK y]; exact (List.getElem?_eq_some_iff.1 this).1)]
      exact this
    simp [execOp, ha.ev hx, Instr.loadAt, Instr.sureAddr, loadVar, hh.1, hh.2, hl]

omit hT in
/-- A new slice of some elements' cells. -/
theorem E_buildSlice {t e K bytes len : Nat} {parts : Array (Nat × Operand)} (ht : tdOf tab t = some (.sl e K bytes)) (cs : List Value) (hb : ∀ a w, Rp n s a → (Instr.buildSlice t len (parts.map fun (i, x) => (i, a.eval x))).run P w = .ok (.slice (some ⟨w.heap.size, 0, none⟩) len len) (w.alloc (.cells cs.toArray e))) : Ef P n s L ⟨d, .buildSlice t len parts, ty, pos, af, none⟩ (fun g : Nat => .slice (some ⟨g, 0, none⟩) len len) (fun g => blkA g cs e :: L) :=
  Ef_run (fun a w ha hw => by
    refine ⟨w.heap.size, _, ?_, hw.alloc cs e⟩
    simp only [execOp, Sem.run_bind, hb a w ha]
    rfl)

/-- One element more. -/
theorem E_append1 {T : Type} {t e K bytes b m : Nat} {enc : T → List Value} {x y : Operand} {v : Value} {l : List T} {cs : List Value} {z : T} (i j : Nat) (ht : tdOf tab t = some (.sl e K bytes)) (hx : ev s x = some v) (hy : ev s y = some (.slice (some ⟨b, 0, none⟩) 1 m)) (hi : L[i]? = some (rowsA e K enc v l)) (hj : L[j]? = some (blkA b cs e))
    (hz : cs = enc z) (hK : (enc z).length = K) (h1 : cs.all (·.oneCell') = true) (hb1 : l.length + 1 ≤ maxLen) (hb2 : (l.length + 1) * bytes ≤ 140737488355328) :
    Ef (ι := Nat × Nat) P n s L ⟨d, .call { callee := .builtin .append, args := #[x, y], argTypes := #[t, t] }, ty, pos, af, none⟩ (fun q => .slice (some ⟨q.1, 0, none⟩) (l.length + 1) q.2) (fun q => (L.set i (rowsA e K enc (.slice (some ⟨q.1, 0, none⟩) (l.length + 1) q.2) (l ++ [z]))).eraseIdx j) :=
  Ef_run (fun a w ha hw => by
    have hc := tab_ok hT ht
    simp only [checkT, Bool.and_eq_true, Bool.not_eq_true'] at hc
    obtain ⟨⟨⟨⟨⟨_, _⟩, hsz⟩, hby⟩, hze⟩, hk0⟩ := hc
    have hu := sl_und hT ht
    unfold sizeB at hsz
    unfold bytesB at hby
    unfold zeroB at hze
    cases hin : P.info? e with
    | none => rw [hin] at hsz; cases hsz
    | some info =>
      simp only [hin] at hsz hby hze
      cases hzz : info.zero with
      | none => simp only [hzz] at hze; cases hze
      | some zz =>
        simp only [hzz] at hze
        have hrow : w.ownsRow 0 e K v l.length (l.flatMap enc) := hw.row_at hi
        have hblk := hw.at_ hj
        have hkp : 0 < K := Nat.pos_of_ne_zero fun e0 => by rw [e0] at hk0; simp at hk0
        obtain ⟨g, cap, w', hr, h2, h3, h4, _⟩ := run_append_lies (P := P) (w := w) t ty 0 e info zz K bytes hu hin hzz (Nat.eq_of_beq_eq_true hsz) (Nat.eq_of_beq_eq_true hby) (Nat.eq_of_beq_eq_true hze) hkp v l.length (l.flatMap enc) hrow
          ⟨b, 0, none⟩ 1 m cs (by rw [hz, hK, Nat.one_mul]) (fun q u hq => by rw [add_any, Nat.zero_add, hblk.cell]; exact hq) (fun u hu => List.all_eq_true.1 h1 u hu) (by omega) hb1 hb2 (Nat.zero_le _) w.heap.size rfl
        refine ⟨(g, cap), w', ?_, ?_⟩
        · simp only [execOp, resolve, invoke, builtin, Sem.run_bind, Sem.run_pure, Result.andThen_ok]
          simp only [List.map_toArray, List.map_cons, List.map_nil, ha.ev hx, ha.ev hy]
          rw [hr]
          rfl
        · refine (hw.put hi fun M hM => ?_).erase j
          have e1 : (l ++ [z]).length = l.length + 1 := by simp
          have e2 : (l ++ [z]).flatMap enc = l.flatMap enc ++ cs := by simp [hz]
          show St (rowA e K _ (l ++ [z]).length ((l ++ [z]).flatMap enc) :: M) w'
          rw [e1, e2]
          exact St.grown hM h2 h3 (fun q hq => by
            have : g = q := by simpa [Value.ownBlock] using hq
            subst this
            rcases h4 with h4 | h4
            · exact .inl h4
            · exact .inr (by omega)))

omit hT in
theorem XL_guardD {op : Op} {j : Nat} {t : Tmp} {p : Prop} {ip : Decidable p} (hj : (all[j]?).bind (·.dst) = some t) (hb : gt s t = some (.bool (decide p))) (hd : okD n d = true)
    (h1 : p → XL P n Q all (⟨d, op, ty, pos, af, none⟩ :: rest) ((t, .bool true) :: s) L) (h2 : ¬ p → XL P n Q all rest (putS d undef ((t, .bool false) :: s)) L) :
    XL P n Q all (⟨d, op, ty, pos, af, some (j, true)⟩ :: rest) s L := XL_guard hj hb hd (fun h => h1 (of_decide_eq_true h)) (fun h => h2 (of_decide_eq_false h))
omit hT in
theorem XL_guardE {op : Op} {j : Nat} {t : Tmp} {p : Prop} {ip : Decidable p} (hj : (all[j]?).bind (·.dst) = some t) (hb : gt s t = some (.bool (decide p))) (hd : okD n d = true)
    (h1 : ¬ p → XL P n Q all (⟨d, op, ty, pos, af, none⟩ :: rest) ((t, .bool false) :: s) L) (h2 : p → XL P n Q all rest (putS d undef ((t, .bool true) :: s)) L) :
    XL P n Q all (⟨d, op, ty, pos, af, some (j, false)⟩ :: rest) s L := XL_guard hj hb hd (fun h => h1 (of_decide_eq_false h)) (fun h => h2 (of_decide_eq_true h))

omit hT in
theorem XN_ret0 {fn : Func} {R : Ending → World → Prop} {e : Exit} (he : e = .ret ∨ e = .normal) (hr : fn.results = #[]) (h : ∀ w, St L w → R (.returned (.tuple #[])) w) : XN n (den P [] (bodyPost P fn R)) e s L := XN_end fun a w ha hw => by
  rcases he with rfl | rfl <;> exact ⟨ha.defers, _, by simp [results, hr], h w hw⟩
omit hT in
theorem XN_ret1 {fn : Func} {R : Ending → World → Prop} {e : Exit} {t : Tmp} {v : Value} (he : e = .ret ∨ e = .normal) (hr : fn.results = #[.tmp t]) (hv : gt s t = some v) (h : ∀ w, St L w → R (.returned v) w) : XN n (den P [] (bodyPost P fn R)) e s L := XN_end fun a w ha hw => by
  have h1 := ha.at_ t v hv
  rcases he with rfl | rfl <;> exact ⟨ha.defers, _, by simp [results, hr, h1], h w hw⟩
omit hT in
theorem XN_ret2 {fn : Func} {R : Ending → World → Prop} {e : Exit} {t u : Tmp} {v x : Value} (he : e = .ret ∨ e = .normal) (hr : fn.results = #[.tmp t, .tmp u]) (hv : gt s t = some v) (hx : gt s u = some x) (h : ∀ w, St L w → R (.returned (.tuple #[v, x])) w) : XN n (den P [] (bodyPost P fn R)) e s L := XN_end fun a w ha hw => by
  have h1 := ha.at_ t v hv
  have h2 := ha.at_ u x hx
  rcases he with rfl | rfl <;> exact ⟨ha.defers, _, by simp [results, hr, h1, h2], h w hw⟩

end
attribute [irreducible] rowsA
end Go.Proofs.Ytbeolkjegipldaa
