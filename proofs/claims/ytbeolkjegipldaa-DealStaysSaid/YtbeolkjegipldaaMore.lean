/- More rules: what is known to hold of a comparison, text compared, rows that an argument brings. -/
import Derived.Test.YtbeolkjegipldaaMapN
import Derived.Test.YtbeolkjegipldaaOpen
namespace Go.Proofs.Ytbeolkjegipldaa
open Go.RowKit

section
variable {P : Program} {n : Nat} {s : Sl} {L : List As} {d : Option Tmp} {ty : TypeId} {pos : String} {af : Array Edge} {o : Oper}

theorem Y_yes {p : Prop} {ip : Decidable p} (h : Yl P n s L o (.bool (decide p))) (hp : p) : Yl P n s L o (.bool true) := by rwa [decide_eq_true hp] at h
theorem Y_no {p : Prop} {ip : Decidable p} (h : Yl P n s L o (.bool (decide p))) (hp : ¬ p) : Yl P n s L o (.bool false) := by rwa [decide_eq_false hp] at h

theorem Y_pickP {c x y : Operand} {v : Value} {p : Prop} {ip : Decidable p} (hc : ev s c = some (.bool (decide p))) (hp : p) (hv : ev s x = some v) : Yl P n s L ⟨d, .pick c x y, ty, pos, af, none⟩ v := Y_pickT (by rw [hc, decide_eq_true hp]) hv
theorem Y_pickN {c x y : Operand} {v : Value} {p : Prop} {ip : Decidable p} (hc : ev s c = some (.bool (decide p))) (hp : ¬ p) (hv : ev s y = some v) : Yl P n s L ⟨d, .pick c x y, ty, pos, af, none⟩ v := Y_pickF (by rw [hc, decide_eq_false hp]) hv
theorem Y_notP {x : Operand} {p : Prop} {ip : Decidable p} {t : TypeId} (hx : ev s x = some (.bool (decide p))) (hp : p) : Yl P n s L ⟨d, .unOp .not t x, ty, pos, af, none⟩ (.bool false) := by have := Y_not (P := P) (n := n) (L := L) (d := d) (ty := ty) (pos := pos) (af := af) (t := t) hx; rwa [decide_eq_true hp] at this
theorem Y_notN {x : Operand} {p : Prop} {ip : Decidable p} {t : TypeId} (hx : ev s x = some (.bool (decide p))) (hp : ¬ p) : Yl P n s L ⟨d, .unOp .not t x, ty, pos, af, none⟩ (.bool true) := by have := Y_not (P := P) (n := n) (L := L) (d := d) (ty := ty) (pos := pos) (af := af) (t := t) hx; rwa [decide_eq_false hp] at this

section
variable {Q : Exit → Act → World → Prop} {all rest : List Oper} {op : Op} {j : Nat} {t : Tmp} {p : Prop} {ip : Decidable p}
theorem XL_guardYT (hj : (all[j]?).bind (·.dst) = some t) (hb : gt s t = some (.bool (decide p))) (hp : p) (hd : okD n d = true) (h1 : XL P n Q all (⟨d, op, ty, pos, af, none⟩ :: rest) s L) : XL P n Q all (⟨d, op, ty, pos, af, some (j, true)⟩ :: rest) s L := XL_guardY hj (by rw [hb, decide_eq_true hp]) hd h1
theorem XL_guardYF (hj : (all[j]?).bind (·.dst) = some t) (hb : gt s t = some (.bool (decide p))) (hp : ¬ p) (hd : okD n d = true) (h1 : XL P n Q all (⟨d, op, ty, pos, af, none⟩ :: rest) s L) : XL P n Q all (⟨d, op, ty, pos, af, some (j, false)⟩ :: rest) s L := XL_guardY hj (by rw [hb, decide_eq_false hp]) hd h1
theorem XL_guardNT (hj : (all[j]?).bind (·.dst) = some t) (hb : gt s t = some (.bool (decide p))) (hp : ¬ p) (hd : okD n d = true) (h1 : XL P n Q all rest (putS d undef s) L) : XL P n Q all (⟨d, op, ty, pos, af, some (j, true)⟩ :: rest) s L := XL_guardN hj (b := false) (by rw [hb, decide_eq_false hp]) rfl hd h1
theorem XL_guardNF (hj : (all[j]?).bind (·.dst) = some t) (hb : gt s t = some (.bool (decide p))) (hp : p) (hd : okD n d = true) (h1 : XL P n Q all rest (putS d undef s) L) : XL P n Q all (⟨d, op, ty, pos, af, some (j, false)⟩ :: rest) s L := XL_guardN hj (b := true) (by rw [hb, decide_eq_true hp]) rfl hd h1
theorem XL_from {os : List Oper} {ι : Type} {Φ : ι → Prop} {L' : ι → List As} (hk : ∀ w, St L w → ∃ x, Φ x ∧ St (L' x) w) (h : ∀ x, Φ x → XL P n Q all os s (L' x)) : XL P n Q all os s L := fun a w ha hw => by
  obtain ⟨x, hx, hw'⟩ := hk w hw
  exact h x hx a w ha hw'
end

theorem Y_eqStr {t t' : TypeId} {x y : Operand} {b c : ByteArray} (hx : ev s x = some (.string b)) (hy : ev s y = some (.string c)) (ht : P.underlying t = some .string) (hbc : b = c) : Yl P n s L ⟨d, .binOp .eql t x y t', ty, pos, af, none⟩ (.bool true) := by
  subst hbc
  exact Y_bin hx hy (fun w => by simp [binOp, underlying, ht, Op.stringOp, eqGuard]) 
theorem Y_neStr {t t' : TypeId} {x y : Operand} {b c : ByteArray} (hx : ev s x = some (.string b)) (hy : ev s y = some (.string c)) (ht : P.underlying t = some .string) (hbc : b = c) : Yl P n s L ⟨d, .binOp .neq t x y t', ty, pos, af, none⟩ (.bool false) := by
  subst hbc
  exact Y_bin hx hy (fun w => by simp [binOp, underlying, ht, Op.stringOp, eqGuard])

/-- A row that an argument brings, read. -/
theorem RowsR.get {T : Type} {W : World} {g o cap len K : Nat} {enc : T → List Value} {l : List T} (h : RowsR W (.slice (some ⟨g, o, none⟩) len cap) K enc l) {k : Nat} {y : T} (hy : l[k]? = some y) {j : Nat} (hj : j < K) :
    g < W.heap.size ∧ W.cell? ⟨g, o + k * K + j, none⟩ = (enc y)[j]? := by
  obtain ⟨a, cap', hv, _, _, h⟩ := h
  rcases h with ⟨rfl, _⟩ | ⟨g', o', ha, hg, h⟩
  · simp at hy
  · obtain ⟨rfl, rfl⟩ : g = g' ∧ o = o' := by simp [ha] at hv; exact hv.1
    exact ⟨hg, h k y hy j hj⟩
theorem RowsR.addr {T : Type} {W : World} {v : Value} {K : Nat} {enc : T → List Value} {l : List T} (h : RowsR W v K enc l) {k : Nat} {y : T} (hy : l[k]? = some y) : ∃ g o cap, v = .slice (some ⟨g, o, none⟩) l.length cap := by
  obtain ⟨a, cap, hv, _, _, h⟩ := h
  rcases h with ⟨rfl, _⟩ | ⟨g, o, rfl, _⟩
  · simp at hy
  · exact ⟨g, o, cap, hv⟩

variable {tab : List (Nat × TD)} (hT : checkTab P tab = true)
include hT
theorem Y_indexO {t e K bytes g o k len cap : Nat} {x y : Operand} {ki : IntKind} {i : Int} (ht : tdOf tab t = some (.sl e K bytes)) (hx : ev s x = some (.slice (some ⟨g, o, none⟩) len cap)) (hy : ev s y = some (.int ki i)) (hk : i = (k : Int)) (hlt : k < len) : Yl P n s L ⟨d, .indexAddr t x y, ty, pos, af, none⟩ (.pointer (some ⟨g, o + k * K, none⟩)) :=
  Yl_mk fun a w ha _ => by
    have hc := tab_ok hT ht
    simp only [checkT, Bool.and_eq_true] at hc
    have hu : P.underlying t = some (.slice e) := by
      have h1 := hc.1.1.1.1.1
      split at h1
      · rename_i e' he; rw [he, Nat.eq_of_beq_eq_true h1]
      · cases h1
    have hs := sizeB_run hc.1.1.1.2 w
    subst hk
    simp [execOp, ha.ev hx, ha.ev hy, Instr.indexAt, asIntOf, underlying, hu, hlt, hs, add_any]

theorem Y_loadO {T : Type} {t K g o k q len cap : Nat} {W : World} {enc : T → List Value} {td : TD} {x : Operand} {l : List T} {y : T} {vs : List Value} (i : Nat) (hx : ev s x = some (.pointer (some ⟨g, o + k * K, none⟩))) (hi : L[i]? = some (oldA W)) (ht : tdOf tab t = some td) (h1 : aggSize td = some q)
    (hR : RowsR W (.slice (some ⟨g, o, none⟩) len cap) K enc l) (hy : l[k]? = some y) (hv : takeL q (enc y) = some vs) (hq : q ≤ K) : Yl P n s L ⟨d, .load t x, ty, pos, af, none⟩ (.agg vs.toArray) :=
  Yl_mk fun a w ha hw => by
    have hh := agg_agg (tab_ok hT ht) h1 w
    obtain ⟨g1, g2⟩ := takeL_get hv
    have hb := St.old_below (hw.pick i hi)
    have hl : (loadCells ⟨g, o + k * K, none⟩ q).run P w = .ok vs.toArray w := by
      rw [← g1]
      refine run_loadCells_list w _ vs (fun u v hu => ?_)
      have h3 := g2 u v hu
      have hu' : u < q := by rw [← g1]; exact (List.getElem?_eq_some_iff.1 hu).1
      obtain ⟨h4, h5⟩ := hR.get hy (j := u) (by omega)
      rw [add_any, hb.cell (p := ⟨g, o + k * K + u, none⟩) h4, h5]
      exact h3
    simp [execOp, ha.ev hx, Instr.loadAt, Instr.sureAddr, loadVar, hh.1, hh.2, hl]
end
end Go.Proofs.Ytbeolkjegipldaa
