/- What the model's book makes of an instruction and its mirror. -/
import Derived.Test.YtbeolkjegipldaaDeal0
namespace Go.Proofs.Ytbeolkjegipldaa
open DL

theorem mirr_mirr (d : Dl) : mirr (mirr d) = d := rfl
theorem may_mirr (m c : Int) (d : Dl) : mayB m c (mirr d) = mayB m c d := by
  unfold mayB twoB mirr
  rw [Bool.eq_iff_iff]
  simp
  omega

section
variable {d : Dl}

theorem two_not (h : mayB 16 8 d = false) : (⟨16, 8, [], 0⟩ : Bk).submit d = (⟨16, 8, [], 0⟩, false, 1) := by simp [Bk.submit, h]
theorem two_submit1 (h : mayB 16 8 d = true) : (⟨16, 8, [], 0⟩ : Bk).submit d = (⟨16, 8, [⟨d, 1, 0, 0⟩], 0⟩, false, 0) := by simp [Bk.submit, h, idx]
theorem two_ne (h : mayB 16 8 d = true) : d.a ≠ d.b := by simp [mayB, twoB] at h; omega
theorem idx_one (x : En) : idx [x] x.d.id = some 0 := by simp [idx]
theorem idx_one' (d : Dl) (a b c : Int) : idx [⟨d, a, b, c⟩] d.id = some 0 := by simp [idx]
theorem nth_one (x : En) : nth [x] 0 = x := rfl
theorem two_submit2 (h : mayB 16 8 d = true) : (⟨16, 8, [⟨d, 1, 0, 0⟩], 0⟩ : Bk).submit (mirr d) = (⟨16, 8, [⟨d, 2, 0, 1⟩], 1⟩, true, 0) := by
  have hn := two_ne h
  have hm := (may_mirr 16 8 d).trans h
  have hi : idx [⟨d, 1, 0, 0⟩] (mirr d).id = some 0 := idx_one' d 1 0 0
  have ha : ¬ d.a = (mirr d).a := hn
  simp [Bk.submit, hm, hi, nth_one, ha, mirr_mirr]
theorem two_submit3 (h : mayB 16 8 d = true) : (⟨16, 8, [⟨d, 2, 0, 1⟩], 1⟩ : Bk).submit (mirr d) = (⟨16, 8, [⟨d, 2, 0, 1⟩], 1⟩, false, 6) := by
  have hm := (may_mirr 16 8 d).trans h
  have hi : idx [⟨d, 2, 0, 1⟩] (mirr d).id = some 0 := idx_one' d 2 0 1
  simp [Bk.submit, hm, hi, nth_one]
theorem two_rescind1 (h : mayB 16 8 d = true) : (⟨16, 8, [⟨d, 2, 0, 1⟩], 1⟩ : Bk).rescind d.b d.id = (⟨16, 8, [⟨d, 2, 2, 1⟩], 1⟩, 2, 0) := by
  have hn := two_ne h
  have hb : ¬ d.b = d.a := fun e => hn e.symm
  simp [Bk.rescind, idx_one', nth_one, En.who, hb, En.asks]
theorem two_rescind2 (h : mayB 16 8 d = true) : (⟨16, 8, [⟨d, 2, 2, 1⟩], 1⟩ : Bk).rescind d.b d.id = (⟨16, 8, [⟨d, 2, 2, 1⟩], 1⟩, 0, 6) := by
  have hn := two_ne h
  have hb : ¬ d.b = d.a := fun e => hn e.symm
  simp [Bk.rescind, idx_one', nth_one, En.who, hb, En.asks]
theorem two_rescind3 : (⟨16, 8, [⟨d, 2, 2, 1⟩], 1⟩ : Bk).rescind d.a d.id = (⟨16, 8, [⟨d, 4, 3, 1⟩], 1⟩, 4, 0) := by
  simp [Bk.rescind, idx_one', nth_one, En.who, En.asks]
theorem two_settle : (⟨16, 8, [⟨d, 4, 3, 1⟩], 1⟩ : Bk).settle d.id = (⟨16, 8, [⟨d, 4, 3, 1⟩], 1⟩, 7) := by
  simp [Bk.settle, idx_one', nth_one]
theorem two_deal : (⟨16, 8, [⟨d, 4, 3, 1⟩], 1⟩ : Bk).deal d.id = (d, true) := by simp [Bk.deal, idx_one', nth_one]
theorem two_state : (⟨16, 8, [], 0⟩ : Bk).state d.id = 0 := by simp [Bk.state, idx]
end
end Go.Proofs.Ytbeolkjegipldaa
