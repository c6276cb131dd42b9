/- The walk's rules: rows appended whole, elements stored. -/
import Derived.Test.YtbeolkjegipldaaTab
namespace Go.Proofs.Ytbeolkjegipldaa
open Go.RowKit

theorem ownsRow_empty {w : World} {b : Nat} {e : TypeId} (K : Nat) (h : Has w b [] e) : w.ownsRow 0 e K (.slice (some ⟨b, 0, none⟩) 0 0) 0 [] :=
  ⟨by simp, .inr ⟨b, 0, #[], rfl, Nat.zero_le _, h, Nat.le_refl _, Nat.zero_le _, by simp, by simp⟩⟩

theorem St.mkRows {T : Type} {e K : Nat} {enc : T → List Value} {v : Value} {l : List T} {L : List As} {w : World} (h : St (rowA e K v l.length (l.flatMap enc) :: L) w) : St (rowsA e K enc v l :: L) w := by rw [rowsA_eq]; exact h
theorem St.unRows {T : Type} {e K : Nat} {enc : T → List Value} {v : Value} {l : List T} {L : List As} {w : World} (h : St (rowsA e K enc v l :: L) w) : St (rowA e K v l.length (l.flatMap enc) :: L) w := by rw [rowsA_eq] at h; exact h

/-- An empty block is a row of nothing. -/
theorem St.emptyRow {T : Type} {e : TypeId} {b : Nat} {L : List As} {w : World} (K : Nat) (enc : T → List Value) (h : St (blkA b [] e :: L) w) : St (rowsA e K enc (.slice (some ⟨b, 0, none⟩) 0 0) [] :: L) w := by
  refine St.mkRows ?_
  obtain ⟨F, hF, hst⟩ := h.open
  have hh := h.has
  exact hst (G := fun k => b = k) ⟨ownsRow_empty K hh, fun k => by simp [Value.ownBlock]⟩ (Keeps.refl _ _) (fun k hk => by
    subst hk
    left
    have := blkA_fp hF
    exact (this b).2 rfl)

theorem row_cell {e : TypeId} {K g len cap m : Nat} {xs : List Value} {w : World} (h : w.ownsRow 0 e K (.slice (some ⟨g, 0, none⟩) len cap) m xs) {i : Nat} {u : Value} (hi : xs[i]? = some u) : w.cell? ⟨g, i, none⟩ = some u ∧ w.frozen? ⟨g, i, none⟩ = false := by
  rcases h.2 with ⟨hv, _⟩ | ⟨g', cap', cur, hv, _, hg, hle, hm, hs, ht⟩
  · simp at hv
  · obtain ⟨rfl, rfl, rfl⟩ : g = g' ∧ len = m ∧ cap = cap' := by simpa using hv
    refine ⟨?_, by simp [World.frozen?, hg]⟩
    rw [cell_of_row w g i _ _ _ hg, ← hi, ← ht, List.getElem?_take]
    have : i < len * K := by
      have := (List.getElem?_eq_some_iff.1 hi).1
      rw [h.1] at this; exact this
    rw [if_pos this]; simp

theorem run_storeCells_row {P : Program} {e : TypeId} {K g len cap m : Nat} : ∀ (vs : List Value) (o i : Nat) (xs : List Value) (L : List As) (w : World), St (rowA e K (.slice (some ⟨g, 0, none⟩) len cap) m xs :: L) w → o + i + vs.length ≤ xs.length → vs.all (·.oneCell') = true →
    ∃ w', (storeCells ⟨g, o, none⟩ vs i).run P w = .ok () w' ∧ St (rowA e K (.slice (some ⟨g, 0, none⟩) len cap) m (putL xs (o + i) vs) :: L) w'
  | [], o, i, xs, L, w, h, _, _ => ⟨w, by simp [storeCells], by rw [putL_nil]; exact h⟩
  | v :: r, o, i, xs, L, w, h, hl, h1 => by
    simp only [List.length_cons] at hl
    simp only [List.all_cons, Bool.and_eq_true] at h1
    have hs := h.rowSet (o + i) v (by omega)
    obtain ⟨hc, hf⟩ := row_cell h.row (i := o + i) (List.getElem?_eq_getElem (by omega))
    obtain ⟨w', hr, hst⟩ := run_storeCells_row (P := P) r o (i + 1) (xs.set (o + i) v) L _ hs (by rw [List.length_set]; omega) h1.2
    refine ⟨w', ?_, ?_⟩
    · simp only [storeCells, Sem.run_bind, add_any]
      rw [run_store P w _ v _ h1.1, hc, hf]
      exact hr
    · rw [putL_set]; exact hst

theorem putL_app_right : ∀ (a c : List Value) (o : Nat) (r : List Value), putL (a ++ c) (a.length + o) r = a ++ putL c o r
  | [], c, o, r => by simp
  | x :: a, c, o, r => by
    rw [List.cons_append, List.length_cons, show a.length + 1 + o = (a.length + o) + 1 by omega, putL, putL_app_right a c o r, List.cons_append]
theorem putL_app_left : ∀ (a c r : List Value), r.length = a.length → putL (a ++ c) 0 r = r ++ c
  | [], c, [], _ => by simp [putL_nil]
  | [], c, _ :: _, h => by simp at h
  | _ :: _, c, [], h => by simp at h
  | x :: a, c, y :: r, h => by rw [List.cons_append, putL, putL_app_left a c r (by simpa using h)]; rfl

theorem putL_rows {T : Type} {K : Nat} {enc : T → List Value} (hK : ∀ z, (enc z).length = K) (y : T) : ∀ (l : List T) (k : Nat), k < l.length → putL (l.flatMap enc) (k * K) (enc y) = (l.set k y).flatMap enc
  | [], k, h => by simp at h
  | a :: l, 0, _ => by simp only [Nat.zero_mul, List.flatMap_cons, List.set_cons_zero]; exact putL_app_left _ _ _ (by rw [hK, hK])
  | a :: l, k + 1, h => by
    simp only [List.flatMap_cons, List.set_cons_succ]
    rw [show (k + 1) * K = (enc a).length + k * K by rw [hK, Nat.add_mul]; omega, putL_app_right, putL_rows hK y l k (by simpa using h)]

theorem set_rows {T : Type} {K : Nat} {enc : T → List Value} (hK : ∀ z, (enc z).length = K) {x y : T} {j : Nat} {u : Value} (hy : enc y = (enc x).set j u) : ∀ (l : List T) (k : Nat), l[k]? = some x → j < K → (l.flatMap enc).set (k * K + j) u = (l.set k y).flatMap enc
  | [], k, h, _ => by simp at h
  | a :: l, 0, h, hj => by
    obtain rfl : a = x := by simpa using h
    simp only [Nat.zero_mul, Nat.zero_add, List.flatMap_cons, List.set_cons_zero]
    rw [List.set_append_left _ _ (by rw [hK]; exact hj), hy]
  | a :: l, k + 1, h, hj => by
    simp only [List.flatMap_cons, List.set_cons_succ]
    rw [List.set_append_right _ _ (by rw [hK, Nat.add_mul]; omega)]
    rw [show (k + 1) * K + j - (enc a).length = k * K + j by rw [hK, Nat.add_mul]; omega, set_rows hK hy l k (by simpa using h) hj]

section
variable {P : Program} {n : Nat} {tab : List (Nat × TD)} (hT : checkTab P tab = true) {Q : Exit → Act → World → Prop} {s : Sl} {L : List As} {d : Option Tmp} {ty : TypeId} {pos : String} {af : Array Edge}
include hT

/-- A whole row, appended to an empty slice. -/
theorem E_appendAll {T : Type} {t e K bytes b : Nat} {enc : T → List Value} {x y : Operand} {v : Value} {l : List T} (i j : Nat) (hx : ev s x = some (.slice (some ⟨b, 0, none⟩) 0 0)) (hi : L[i]? = some (blkA b [] e)) (hy : ev s y = some v) (hj : L[j]? = some (rowsA e K enc v l)) (ht : tdOf tab t = some (.sl e K bytes))
    (hK : ∀ z, (enc z).length = K) (h1 : ∀ z, (enc z).all (·.oneCell') = true) (hb1 : l.length ≤ maxLen) (hb2 : l.length * bytes ≤ 140737488355328) :
    Ef (ι := Nat × Nat) P n s L ⟨d, .call { callee := .builtin .append, args := #[x, y], argTypes := #[t, t] }, ty, pos, af, none⟩ (fun q => .slice (some ⟨q.1, 0, none⟩) l.length q.2) (fun q => L.set i (rowsA e K enc (.slice (some ⟨q.1, 0, none⟩) l.length q.2) l)) :=
  Ef_run (fun a w ha hw => by
    have hc := tab_ok hT ht
    simp only [checkT, Bool.and_eq_true, Bool.not_eq_true'] at hc
    obtain ⟨⟨⟨⟨⟨_, _⟩, hsz⟩, hby⟩, hze⟩, hk0⟩ := hc
    have hu := sl_und hT ht
    have hrow : w.ownsRow 0 e K v l.length (l.flatMap enc) := (hw.pick j hj).rows
    have hblk := hw.at_ hi
    have hsK := sizeB_run hsz w
    unfold sizeB at hsz
    unfold bytesB at hby
    unfold zeroB at hze
    cases hin : P.info? e with
    | none => simp only [hin] at hsz; cases hsz
    | some info =>
      simp only [hin] at hsz hby hze
      cases hzz : info.zero with
      | none => simp only [hzz] at hze; cases hze
      | some zz =>
        simp only [hzz] at hze
        have hkp : 0 < K := Nat.pos_of_ne_zero fun e0 => by rw [e0] at hk0; simp at hk0
        have hargs : ∀ u, (Builtin.append_ #[t, t] ty #[.slice (some ⟨b, 0, none⟩) 0 0, v]).run P w = u → (execOp a.eval ⟨d, .call { callee := .builtin .append, args := #[x, y], argTypes := #[t, t] }, ty, pos, af, none⟩).run P w = (u.andThen fun v w => .ok (.value v) w) := fun u hr => by
          simp only [execOp, resolve, invoke, builtin, Sem.run_bind, Sem.run_pure, Result.andThen_ok]
          simp only [List.map_toArray, List.map_cons, List.map_nil, ha.ev hx, ha.ev hy]
          rw [hr]
        have hset : ∀ (w' : World) (q : Nat × Nat), (∀ M, St (blkA b [] e :: M) w → St (rowsA e K enc (.slice (some ⟨q.1, 0, none⟩) l.length q.2) l :: M) w') → St (L.set i (rowsA e K enc (.slice (some ⟨q.1, 0, none⟩) l.length q.2) l)) w' := fun w' q hM => hw.put hi hM
        rcases hrow.2 with ⟨rfl, h0⟩ | ⟨g', cap', cur, rfl, _, hg, hle, hm, hs, htk⟩
        · have hl0 : l = [] := List.length_eq_zero_iff.1 h0
          subst hl0
          refine ⟨(b, 0), w, ?_, hset w (b, 0) fun M hM => hM.emptyRow K enc⟩
          rw [hargs (.ok (.slice (some ⟨b, 0, none⟩) 0 0) w) (by
            simp [Builtin.append_, run_underlying hu, hsK, Builtin.lenOf, Builtin.firstCells, storeCells])]
          rfl
        · by_cases hl0 : l = []
          · subst hl0
            refine ⟨(b, 0), w, ?_, hset w (b, 0) fun M hM => hM.emptyRow K enc⟩
            rw [hargs (.ok (.slice (some ⟨b, 0, none⟩) 0 0) w) (by
              simp [Builtin.append_, run_underlying hu, hsK, Builtin.lenOf, Builtin.firstCells, storeCells, loadCells, loadCellsFrom])]
            rfl
          · have hlp : 0 < l.length := List.length_pos_iff.2 hl0
            have hcell : ∀ q u, (l.flatMap enc)[q]? = some u → w.cell? ((⟨g', 0, none⟩ : Addr).add q) = some u := fun q u hq => by
              rw [add_any, Nat.zero_add, cell_of_row w g' q _ _ _ hg, ← hq, ← htk, List.getElem?_take]
              have : q < l.length * K := by
                have := (List.getElem?_eq_some_iff.1 hq).1
                rw [flatMap_len' hK] at this; exact this
              rw [if_pos this]; simp
            have hone : ∀ u ∈ l.flatMap enc, u.oneCell' = true := fun u hu => by
              obtain ⟨z, _, hz⟩ := List.mem_flatMap.1 hu
              exact List.all_eq_true.1 (h1 z) u hz
            obtain ⟨g, cap, w', hr, h2, h3, h4, _⟩ := run_append_lies (P := P) (w := w) t ty 0 e info zz K bytes hu hin hzz (Nat.eq_of_beq_eq_true hsz) (Nat.eq_of_beq_eq_true hby) (Nat.eq_of_beq_eq_true hze) hkp (.slice (some ⟨b, 0, none⟩) 0 0) 0 [] (ownsRow_empty K hblk)
              ⟨g', 0, none⟩ l.length cap' (l.flatMap enc) (flatMap_len' hK l) hcell hone hlp (by omega) (by rw [Nat.zero_add]; exact hb2) (Nat.zero_le _) w.heap.size rfl
            rw [Nat.zero_add] at hr h2
            refine ⟨(g, cap), w', ?_, hset w' (g, cap) fun M hM => ?_⟩
            · rw [hargs _ hr]; rfl
            · refine St.mkRows ?_
              have hM' := (hM.emptyRow K enc).unRows
              exact St.grown hM' (by simpa using h2) h3 (fun q hq => by
                have : g = q := by simpa [Value.ownBlock] using hq
                subst this
                rcases h4 with h4 | h4
                · exact .inl h4
                · exact .inr (by omega)))


theorem ptr_und {t : Nat} (ht : tdOf tab t = some .ptr) : ∃ e, P.underlying t = some (.pointer e) := by
  have hc := tab_ok hT ht
  simp only [checkT, Bool.and_eq_true] at hc
  have h1 := hc.1
  split at h1
  · rename_i e he; exact ⟨e, he⟩
  · cases h1

omit hT in
theorem eqIn_PN {t e : TypeId} (hu : P.underlying t = some (.pointer e)) (a : Addr) (D : Nat) (w : World) : (Op.equalIn (D + 1) t (.pointer (some a)) (.pointer none)).run P w = .ok false w := by
  simp [Op.equalIn, underlying, hu]
omit hT in
theorem eqIn_NN {t e : TypeId} (hu : P.underlying t = some (.pointer e)) (D : Nat) (w : World) : (Op.equalIn (D + 1) t (.pointer none) (.pointer none)).run P w = .ok true w := by
  simp [Op.equalIn, underlying, hu]

theorem Y_eqPN {x y : Operand} {t t' : TypeId} {a : Addr} (ht : tdOf tab t = some .ptr) (hx : ev s x = some (.pointer (some a))) (hy : ev s y = some (.pointer none)) : Yl P n s L ⟨d, .binOp .eql t x y t', ty, pos, af, none⟩ (.bool false) :=
  Yl_mk fun act w ha _ => by
    obtain ⟨e, hu⟩ := ptr_und hT ht
    simp only [execOp, ha.ev hx, ha.ev hy]
    rw [show binOp .eql t (.pointer (some a)) (.pointer none) = (do pure (Value.bool (← Op.equalIn (9999 + 1) t (.pointer (some a)) (.pointer none)))) from rfl]
    have hq := eqIn_PN hu a 9999 w
    generalize Op.equalIn (9999 + 1) t _ _ = q at hq ⊢
    simp [eqGuard, hq]
theorem Y_eqNN {x y : Operand} {t t' : TypeId} (ht : tdOf tab t = some .ptr) (hx : ev s x = some (.pointer none)) (hy : ev s y = some (.pointer none)) : Yl P n s L ⟨d, .binOp .eql t x y t', ty, pos, af, none⟩ (.bool true) :=
  Yl_mk fun act w ha _ => by
    obtain ⟨e, hu⟩ := ptr_und hT ht
    simp only [execOp, ha.ev hx, ha.ev hy]
    rw [show binOp .eql t (.pointer none) (.pointer none) = (do pure (Value.bool (← Op.equalIn (9999 + 1) t (.pointer none) (.pointer none)))) from rfl]
    have hq := eqIn_NN hu 9999 w
    generalize Op.equalIn (9999 + 1) t _ _ = q at hq ⊢
    simp [eqGuard, hq]
theorem Y_nePN {x y : Operand} {t t' : TypeId} {a : Addr} (ht : tdOf tab t = some .ptr) (hx : ev s x = some (.pointer (some a))) (hy : ev s y = some (.pointer none)) : Yl P n s L ⟨d, .binOp .neq t x y t', ty, pos, af, none⟩ (.bool true) :=
  Yl_mk fun act w ha _ => by
    obtain ⟨e, hu⟩ := ptr_und hT ht
    simp only [execOp, ha.ev hx, ha.ev hy]
    rw [show binOp .neq t (.pointer (some a)) (.pointer none) = (do pure (Value.bool (!(← Op.equalIn (9999 + 1) t (.pointer (some a)) (.pointer none))))) from rfl]
    have hq := eqIn_PN hu a 9999 w
    generalize Op.equalIn (9999 + 1) t _ _ = q at hq ⊢
    simp [eqGuard, hq]
theorem Y_neNN {x y : Operand} {t t' : TypeId} (ht : tdOf tab t = some .ptr) (hx : ev s x = some (.pointer none)) (hy : ev s y = some (.pointer none)) : Yl P n s L ⟨d, .binOp .neq t x y t', ty, pos, af, none⟩ (.bool false) :=
  Yl_mk fun act w ha _ => by
    obtain ⟨e, hu⟩ := ptr_und hT ht
    simp only [execOp, ha.ev hx, ha.ev hy]
    rw [show binOp .neq t (.pointer none) (.pointer none) = (do pure (Value.bool (!(← Op.equalIn (9999 + 1) t (.pointer none) (.pointer none))))) from rfl]
    have hq := eqIn_NN hu 9999 w
    generalize Op.equalIn (9999 + 1) t _ _ = q at hq ⊢
    simp [eqGuard, hq]

/-- A whole element, stored. -/
theorem E_storeRS {T : Type} {t e K g k q len cap : Nat} {enc : T → List Value} {td : TD} {x y : Operand} {l : List T} {z : T} (i : Nat) (hx : ev s x = some (.pointer (some ⟨g, k * K + 0, none⟩))) (hi : L[i]? = some (rowsA e K enc (.slice (some ⟨g, 0, none⟩) len cap) l)) (ht : tdOf tab t = some td) (h1 : aggSize td = some q)
    (hy : ev s y = some (.agg (enc z).toArray)) (hq : q = K) (hk : k < l.length) (hK : ∀ z, (enc z).length = K) (h1c : (enc z).all (·.oneCell') = true) :
    Ef P n s L ⟨none, .store t x y, ty, pos, af, none⟩ (fun _ : Unit => undef) (fun _ => L.set i (rowsA e K enc (.slice (some ⟨g, 0, none⟩) len cap) (l.set k z))) :=
  Ef_skip rfl (fun a w ha hw => by
    subst hq
    have hM := (hw.pick i hi).unRows
    have hlen : k * q + 0 + (enc z).length ≤ (l.flatMap enc).length := by
      rw [flatMap_len' hK, hK]
      have : (k + 1) * q ≤ l.length * q := Nat.mul_le_mul_right q hk
      rw [Nat.add_mul] at this; omega
    obtain ⟨w', hr, hst⟩ := run_storeCells_row (P := P) (enc z) (k * q + 0) 0 (l.flatMap enc) _ w hM hlen h1c
    refine ⟨w', ?_, ?_⟩
    · have hsz := (agg_agg (tab_ok hT ht) h1 w).2
      simp only [execOp, ha.ev hx, ha.ev hy, Instr.storeAt, Instr.sureAddr, storeVar, Sem.run_bind, Sem.run_pure, hsz, Result.andThen_ok, Value.cells, List.size_toArray, hK]
      simp only [ne_eq, not_true_eq_false, if_false, Sem.run_bind, Sem.run_pure]
      rw [Nat.add_zero] at hr
      simp [hr]
    · have e1 : (l.set k z).length = l.length := by simp
      have hst' : St (rowsA e q enc (.slice (some ⟨g, 0, none⟩) len cap) (l.set k z) :: L.eraseIdx i) w' := by
        refine St.mkRows ?_
        rw [e1, ← putL_rows hK z l k hk]
        simpa using hst
      exact hst'.perm (perm_set L i _ hi))

/-- A field of an element, stored. -/
theorem E_storeR {T : Type} {t e K g k j len cap : Nat} {enc : T → List Value} {td : TD} {x y : Operand} {l : List T} {z z' : T} {u : Value} (i : Nat) (hx : ev s x = some (.pointer (some ⟨g, k * K + j, none⟩))) (hi : L[i]? = some (rowsA e K enc (.slice (some ⟨g, 0, none⟩) len cap) l)) (ht : tdOf tab t = some td) (h1 : isOne td = true)
    (hy : ev s y = some u) (hz : l[k]? = some z) (hj : Nat.blt j K = true) (hK : ∀ z, (enc z).length = K) (hu : u.oneCell' = true) (hz' : enc z' = (enc z).set j u) :
    Ef P n s L ⟨none, .store t x y, ty, pos, af, none⟩ (fun _ : Unit => undef) (fun _ => L.set i (rowsA e K enc (.slice (some ⟨g, 0, none⟩) len cap) (l.set k z'))) :=
  Ef_skip rfl (fun a w ha hw => by
    have hj : j < K := by rw [← Nat.blt_eq]; exact hj
    have hM := (hw.pick i hi).unRows
    have hk : k < l.length := (List.getElem?_eq_some_iff.1 hz).1
    have hlen : k * K + j < (l.flatMap enc).length := by
      rw [flatMap_len' hK]
      have : (k + 1) * K ≤ l.length * K := Nat.mul_le_mul_right K hk
      rw [Nat.add_mul] at this; omega
    obtain ⟨hc, hf⟩ := row_cell hM.row (i := k * K + j) (List.getElem?_eq_getElem hlen)
    have hs := hM.rowSet (k * K + j) u hlen
    refine ⟨w.setCell ⟨g, k * K + j, none⟩ u, ?_, ?_⟩
    rotate_left
    · have e1 : (l.set k z').length = l.length := by simp
      have hst' : St (rowsA e K enc (.slice (some ⟨g, 0, none⟩) len cap) (l.set k z') :: L.eraseIdx i) (w.setCell ⟨g, k * K + j, none⟩ u) := by
        refine St.mkRows ?_
        rw [e1, ← set_rows hK hz' l k hz hj]
        exact hs
      exact hst'.perm (perm_set L i _ hi)
    · have hcs : u.cells = #[u] := by cases u <;> first | rfl | cases hu
      have hsz := (one_agg (tab_ok hT ht) h1 w).2
      simp only [execOp, ha.ev hx, ha.ev hy, Instr.storeAt, Instr.sureAddr, storeVar, Sem.run_bind, Sem.run_pure, hsz, hcs, Result.andThen_ok]
      simp [storeCells, add_any, run_store P w _ u _ hu, hc, hf])

end
theorem XL_app {P : Program} {n : Nat} {Q : Exit → Act → World → Prop} {all xs ys : List Oper} {o : Oper} {s : Sl} {L : List As} (h : XL P n Q all (o :: xs.append ys) s L) : XL P n Q all ((o :: xs).append ys) s L := h
theorem XL_app0 {P : Program} {n : Nat} {Q : Exit → Act → World → Prop} {all ys : List Oper} {s : Sl} {L : List As} (h : XL P n Q all ys s L) : XL P n Q all (List.append [] ys) s L := h
theorem XL_known {P : Program} {n : Nat} {Q : Exit → Act → World → Prop} {all os : List Oper} {s : Sl} {L : List As} {Φ : Prop} (hk : ∀ w, St L w → Φ) (h : Φ → XL P n Q all os s L) : XL P n Q all os s L := fun a w ha hw => h (hk w hw) a w ha hw
end Go.Proofs.Ytbeolkjegipldaa
