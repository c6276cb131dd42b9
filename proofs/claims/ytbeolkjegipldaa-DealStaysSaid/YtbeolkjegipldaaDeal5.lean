/- State, Settle, Deal, Rescind. -/
import Derived.Test.YtbeolkjegipldaaDeal4
namespace Go.Proofs.Ytbeolkjegipldaa
open Go.RowKit DL

section
variable {w : World} {p : Nat} {B : Bk} {v : Value} {mp : Nat} (h : BookRep w p B v mp)
include h

set_option maxHeartbeats 1000000 in
theorem state_any (id : Int) :
    Calls Try.prog 19 #[.pointer (some ⟨p, 0, none⟩), .int .i64 id] w fun e w' => e = .returned (.int .i64 (B.state id)) ∧ w' = w := by
  cases hn : idx B.l id with
  | none =>
    have hs : B.state id = 0 := by simp [Bk.state, hn]
    rw [hs]
    have HN := Lib.hid hn
    clear hn hs
    go_enter Try.func19, Try.ntmps19
    go_wp2_with fail
    refine (find_none h id HN.out).mono ?_
    rintro e w2 ⟨rfl, hw2⟩
    obtain rfl := hw2.symm
    go_wp2_with fail
    go_ret
    exact ⟨rfl, rfl⟩
  | some n =>
    have hs : B.state id = (nth B.l n).st := by simp [Bk.state, hn]
    rw [hs]
    obtain ⟨g, cap, hv, hil, hle, hg, hcells, hfree⟩ := h.find hn
    subst hv
    have HN := Lib.hid hn
    have e7 : w.cell? ⟨g, n * 10 + 7, none⟩ = some (.int .i64 (nth B.l n).st) := hcells 7 (by omega)
    clear hn hs hcells hfree
    go_enter Try.func19, Try.ntmps19
    go_wp2_with fail
    refine (find_some h id HN.out hil).mono ?_
    rintro e w2 ⟨rfl, hw2⟩
    obtain rfl := hw2.symm
    go_wp2_with fail
    go_ret
    exact ⟨rfl, rfl⟩

def SetPost (w : World) (p mp : Nat) (v : Value) (r : Bk × Int) (e : Ending) (w' : World) : Prop :=
  e = .returned (.int .i64 r.2) ∧ BookTo w p mp v r.1 w'

set_option maxHeartbeats 1000000 in
theorem settle_any (id : Int) :
    Calls Try.prog 21 #[.pointer (some ⟨p, 0, none⟩), .int .i64 id] w (SetPost w p mp v (B.settle id)) := by
  cases hn : idx B.l id with
  | none =>
    have hs : B.settle id = (B, 5) := by simp [Bk.settle, hn]
    rw [hs]
    have HN := Lib.hid hn
    clear hn hs
    go_enter Try.func21, Try.ntmps21
    go_wp2_with fail
    refine (find_none h id HN.out).mono ?_
    rintro e w2 ⟨rfl, hw2⟩
    obtain rfl := hw2.symm
    go_wp2_with fail
    go_ret
    exact ⟨rfl, BookTo.same h (Below.refl _ _)⟩
  | some n =>
    obtain ⟨g, cap, hv, hil, hle, hg, hcells, hfree⟩ := h.find hn
    subst hv
    have e7 : w.cell? ⟨g, n * 10 + 7, none⟩ = some (.int .i64 (nth B.l n).st) := hcells 7 (by omega)
    by_cases hst : (nth B.l n).st = 2
    · have hs : B.settle id = ({ B with l := B.l.set n { nth B.l n with st := 3 } }, 0) := by simp [Bk.settle, hn, hst]
      rw [hs]
      have HN := Lib.hid hn
      have f7 := hfree (n * 10 + 7)
      have s1 := h.store (n := n) (j := 7) (e := { nth B.l n with st := 3 }) (u := .int .i64 3) hil (by omega) rfl rfl
      have hst2 : (((nth B.l n).st : Int) != 2) = false := by simp [hst]
      clear hn hs hcells hfree hst
      go_enter Try.func21, Try.ntmps21
      go_wp2_with fail
      refine (find_some h id HN.out hil).mono ?_
      rintro e w2 ⟨rfl, hw2⟩
      obtain rfl := hw2.symm
      go_wp2_with fail
      go_ret
      exact ⟨rfl, _, s1, (Keeps.refl _ _).setCell _ _ (.inr (.inr rfl)), fun _ hg => .inl hg⟩
    · have hs : B.settle id = (B, 7) := by simp [Bk.settle, hn, hst]
      rw [hs]
      have HN := Lib.hid hn
      have hst2 : (((nth B.l n).st : Int) != 2) = true := by simp [hst]
      clear hn hs hcells hfree hst
      go_enter Try.func21, Try.ntmps21
      go_wp2_with fail
      refine (find_some h id HN.out hil).mono ?_
      rintro e w2 ⟨rfl, hw2⟩
      obtain rfl := hw2.symm
      go_wp2_with fail
      go_ret
      exact ⟨rfl, BookTo.same h (Below.refl _ _)⟩

def DealPost (w : World) (r : Dl × Bool) (e : Ending) (w' : World) : Prop :=
  e = .returned (.tuple #[.agg #[.int .i64 r.1.id, .int .i64 r.1.a, .int .i64 r.1.b, .int .i64 r.1.sc, .int .i64 r.1.bc, .int .i64 r.1.sell, .int .i64 r.1.buy], .bool r.2]) ∧ Below w.heap.size w w'

set_option maxHeartbeats 1000000 in
theorem deal_any (id : Int) :
    Calls Try.prog 22 #[.pointer (some ⟨p, 0, none⟩), .int .i64 id] w (DealPost w (B.deal id)) := by
  cases hn : idx B.l id with
  | none =>
    have hs : B.deal id = (⟨0,0,0,0,0,0,0⟩, false) := by simp [Bk.deal, hn]
    rw [hs]
    have HN := Lib.hid hn
    clear hn hs
    have h0 := h.lt p (.inl rfl)
    go_enter Try.func22, Try.ntmps22
    go_wp2_with fail
    refine (find_none (h.below ((Below.refl _ _).alloc (Nat.le_refl _) _)) id HN.out).mono ?_
    rintro e w2 ⟨rfl, hw2⟩
    obtain rfl := hw2.symm
    go_wp2_with fail
    refine bodyPost_ret (v := .tuple #[.agg #[.int .i64 0, .int .i64 0, .int .i64 0, .int .i64 0, .int .i64 0, .int .i64 0, .int .i64 0], .bool false]) (by simp [results, Try.results22, go_sem]) rfl ⟨rfl, ?_⟩
    (repeat (first | exact Below.refl _ _ | assumption | refine below_drewN ?_ _ | refine Below.drew ?_ | refine Below.alloc ?_ (by simp) _ | refine Below.setCell ?_ (by simp) _))
  | some n =>
    have hs : B.deal id = ((nth B.l n).d, true) := by simp [Bk.deal, hn]
    rw [hs]
    obtain ⟨g, cap, hv, hil, hle, hg, hcells, hfree⟩ := h.find hn
    subst hv
    have HN := Lib.hid hn
    have e0 := hcells 0 (by omega)
    have e1 := hcells 1 (by omega)
    have e2 := hcells 2 (by omega)
    have e3 := hcells 3 (by omega)
    have e4 := hcells 4 (by omega)
    have e5 := hcells 5 (by omega)
    have e6 := hcells 6 (by omega)
    simp only [DL.En.cs, List.getElem?_cons_succ, List.getElem?_cons_zero, Nat.add_zero] at e0 e1 e2 e3 e4 e5 e6
    clear hn hs hcells hfree
    go_enter Try.func22, Try.ntmps22
    go_wp2_with fail
    refine (find_some (h.below ((Below.refl _ _).alloc (Nat.le_refl _) _)) id HN.out hil).mono ?_
    rintro e w2 ⟨rfl, hw2⟩
    obtain rfl := hw2.symm
    go_wp2_with fail
    refine bodyPost_ret (v := .tuple #[.agg #[.int .i64 (nth B.l n).d.id, .int .i64 (nth B.l n).d.a, .int .i64 (nth B.l n).d.b, .int .i64 (nth B.l n).d.sc, .int .i64 (nth B.l n).d.bc, .int .i64 (nth B.l n).d.sell, .int .i64 (nth B.l n).d.buy], .bool true]) (by simp [results, Try.results22, go_sem]) rfl ⟨rfl, ?_⟩
    (repeat (first | exact Below.refl _ _ | assumption | refine below_drewN ?_ _ | refine Below.drew ?_ | refine Below.alloc ?_ (by simp) _ | refine Below.setCell ?_ (by simp) _))

end
end Go.Proofs.Ytbeolkjegipldaa
