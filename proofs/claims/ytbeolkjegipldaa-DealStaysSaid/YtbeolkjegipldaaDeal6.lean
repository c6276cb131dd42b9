/- Rescind. -/
import Derived.Test.YtbeolkjegipldaaDeal5
namespace Go.Proofs.Ytbeolkjegipldaa
open Go.RowKit DL

theorem or01 : bits .or .i64 0 1 = 1 := by decide
theorem or02 : bits .or .i64 0 2 = 2 := by decide
theorem or12 : bits .or .i64 1 2 = 3 := by decide
theorem or21 : bits .or .i64 2 1 = 3 := by decide
theorem and01 : bits .and .i64 0 1 = 0 := by decide
theorem and02 : bits .and .i64 0 2 = 0 := by decide
theorem and12 : bits .and .i64 1 2 = 0 := by decide
theorem and21 : bits .and .i64 2 1 = 0 := by decide

section
variable {w : World} {p : Nat} {B : Bk} {v : Value} {mp : Nat} (h : BookRep w p B v mp)
include h

def ResPost (w : World) (p mp : Nat) (v : Value) (r : Bk × Int × Int) (e : Ending) (w' : World) : Prop :=
  e = .returned (.tuple #[.int .i64 r.2.1, .int .i64 r.2.2]) ∧ BookTo w p mp v r.1 w'

set_option maxHeartbeats 1000000 in
theorem rescind_none (mem id : Int) (hn : idx B.l id = none) :
    Calls Try.prog 20 #[.pointer (some ⟨p, 0, none⟩), .int .i64 mem, .int .i64 id] w (ResPost w p mp v (B, 0, 5)) := by
  have HN := Lib.hid hn
  clear hn
  go_enter Try.func20, Try.ntmps20
  go_wp2_with fail
  refine (find_none h id HN.out).mono ?_
  rintro e w2 ⟨rfl, hw2⟩
  obtain rfl := hw2.symm
  go_wp2_with fail
  go_ret2
  exact ⟨rfl, BookTo.same h (Below.refl _ _)⟩

set_option maxHeartbeats 1000000 in
/-- Refused: no business of who asks, or it is too late. -/
theorem rescind_not (mem id : Int) {n : Nat} (hn : idx B.l id = some n) {er : Int} (hw : ((nth B.l n).who mem = 0 ∧ er = 5) ∨ (((nth B.l n).who mem = 1 ∨ (nth B.l n).who mem = 2) ∧ 3 ≤ (nth B.l n).st ∧ er = 7)) :
    Calls Try.prog 20 #[.pointer (some ⟨p, 0, none⟩), .int .i64 mem, .int .i64 id] w (ResPost w p mp v (B, 0, er)) := by
  obtain ⟨g, cap, hv, hil, hle, hg, hcells, hfree⟩ := h.find hn
  subst hv
  have HN := Lib.hid hn
  have e1 : w.cell? ⟨g, n * 10 + 1, none⟩ = some (.int .i64 (nth B.l n).d.a) := hcells 1 (by omega)
  have e2 : w.cell? ⟨g, n * 10 + 2, none⟩ = some (.int .i64 (nth B.l n).d.b) := hcells 2 (by omega)
  have e7 : w.cell? ⟨g, n * 10 + 7, none⟩ = some (.int .i64 (nth B.l n).st) := hcells 7 (by omega)
  have hwho : whoI (nth B.l n).d.a (nth B.l n).d.b (nth B.l n).st mem = (nth B.l n).who mem := rfl
  generalize (nth B.l n).who mem = wh at *
  generalize (nth B.l n).d.a = a at *
  generalize (nth B.l n).d.b = b at *
  generalize (nth B.l n).st = st at *
  have HW := Lib.hid hwho
  clear hn hcells hfree hwho
  rcases hw with ⟨rfl, rfl⟩ | ⟨rfl | rfl, hst, rfl⟩
  all_goals
    go_enter Try.func20, Try.ntmps20
    go_wp2_with fail
    refine (find_some h id HN.out hil).mono ?_
    rintro e w2 ⟨rfl, hw2⟩
    obtain rfl := hw2.symm
    go_wp2_with fail
    refine (who_any g (n * 10) a b st mem _ e1 e2 e7).mono ?_
    rw [HW.out]
    rintro e w2 ⟨rfl, hw2⟩
    obtain rfl := hw2.symm
    go_wp2_with fail
    go_ret2
    exact ⟨rfl, BookTo.same h (Below.refl _ _)⟩

set_option maxHeartbeats 1000000 in
/-- One that is alone is gone. -/
theorem rescind_alone (mem id : Int) {n : Nat} (hn : idx B.l id = some n) (hw : (nth B.l n).who mem = 1 ∨ (nth B.l n).who mem = 2) (hs : (nth B.l n).st = 1) :
    Calls Try.prog 20 #[.pointer (some ⟨p, 0, none⟩), .int .i64 mem, .int .i64 id] w (ResPost w p mp v ({ B with l := B.l.set n { nth B.l n with st := 4 } }, 4, 0)) := by
  obtain ⟨g, cap, hv, hil, hle, hg, hcells, hfree⟩ := h.find hn
  subst hv
  have HN := Lib.hid hn
  have e1 : w.cell? ⟨g, n * 10 + 1, none⟩ = some (.int .i64 (nth B.l n).d.a) := hcells 1 (by omega)
  have e2 : w.cell? ⟨g, n * 10 + 2, none⟩ = some (.int .i64 (nth B.l n).d.b) := hcells 2 (by omega)
  have e7 : w.cell? ⟨g, n * 10 + 7, none⟩ = some (.int .i64 1) := by rw [← hs]; exact hcells 7 (by omega)
  have f7 := hfree (n * 10 + 7)
  have hwho : whoI (nth B.l n).d.a (nth B.l n).d.b 1 mem = (nth B.l n).who mem := by rw [← hs]; rfl
  have s1 := h.store (n := n) (j := 7) (e := { nth B.l n with st := 4 }) (u := .int .i64 4) hil (by omega) rfl rfl
  generalize { nth B.l n with st := 4 } = E at *
  generalize (nth B.l n).who mem = wh at *
  generalize (nth B.l n).d.a = a at *
  generalize (nth B.l n).d.b = b at *
  have HW := Lib.hid hwho
  clear hn hcells hfree hwho hs
  rcases hw with rfl | rfl
  all_goals
    go_enter Try.func20, Try.ntmps20
    go_wp2_with fail
    refine (find_some h id HN.out hil).mono ?_
    rintro e w2 ⟨rfl, hw2⟩
    obtain rfl := hw2.symm
    go_wp2_with fail
    refine (who_any g (n * 10) a b 1 mem _ e1 e2 e7).mono ?_
    rw [HW.out]
    rintro e w2 ⟨rfl, hw2⟩
    obtain rfl := hw2.symm
    go_wp2_with fail
    go_ret2
    exact ⟨rfl, _, s1, (Keeps.refl _ _).setCell _ _ (.inr (.inr rfl)), fun _ hg => .inl hg⟩

set_option maxHeartbeats 2000000 in
set_option maxRecDepth 100000 in
/-- Asked for once more. -/
theorem rescind_twice (mem id : Int) {n : Nat} (hn : idx B.l id = some n) (hs : (nth B.l n).st = 2)
    (hw : ((nth B.l n).who mem = 1 ∧ (nth B.l n).ak = 1) ∨ ((nth B.l n).who mem = 2 ∧ (nth B.l n).ak = 2)) :
    Calls Try.prog 20 #[.pointer (some ⟨p, 0, none⟩), .int .i64 mem, .int .i64 id] w (ResPost w p mp v (B, 0, 6)) := by
  obtain ⟨g, cap, hv, hil, hle, hg, hcells, hfree⟩ := h.find hn
  subst hv
  have HN := Lib.hid hn
  have e1 : w.cell? ⟨g, n * 10 + 1, none⟩ = some (.int .i64 (nth B.l n).d.a) := hcells 1 (by omega)
  have e2 : w.cell? ⟨g, n * 10 + 2, none⟩ = some (.int .i64 (nth B.l n).d.b) := hcells 2 (by omega)
  have e7 : w.cell? ⟨g, n * 10 + 7, none⟩ = some (.int .i64 2) := by rw [← hs]; exact hcells 7 (by omega)
  have e8 : w.cell? ⟨g, n * 10 + 8, none⟩ = some (.int .i64 (nth B.l n).ak) := hcells 8 (by omega)
  have hwho : whoI (nth B.l n).d.a (nth B.l n).d.b 2 mem = (nth B.l n).who mem := by rw [← hs]; rfl
  generalize (nth B.l n).who mem = wh at *
  generalize (nth B.l n).d.a = a at *
  generalize (nth B.l n).d.b = b at *
  generalize (nth B.l n).ak = ak at *
  have HW := Lib.hid hwho
  clear hn hcells hfree hwho hs
  rcases hw with ⟨rfl, rfl⟩ | ⟨rfl, rfl⟩
  all_goals
    go_enter Try.func20, Try.ntmps20
    go_wp2_with fail
    refine (find_some h id HN.out hil).mono ?_
    rintro e w2 ⟨rfl, hw2⟩
    obtain rfl := hw2.symm
    go_wp2_with fail
    refine (who_any g (n * 10) a b 2 mem _ e1 e2 e7).mono ?_
    rw [HW.out]
    rintro e w2 ⟨rfl, hw2⟩
    obtain rfl := hw2.symm
    go_wp2_with fail
    have hwq := fun nq => who_any g (n * 10) a b 2 mem (w.drewN nq) e1 e2 e7
    rw [HW.out] at hwq
    refine wp_region_quiet_lit (by kernel_rfl) (by kernel_rfl) ?_
    repeat (any_goals (first | go_big_quiet_step (((go_at_call 46; exact Calls.quiet_of_same (hwq _)))) | quiet_step (((go_at_call 46; exact Calls.quiet_of_same (hwq _)))) | (refine wpQuiet_step (fun K hK => ?_); go_simp; split <;> (refine hK _ ?_; clear hK K))))
    all_goals (refine wpQuiet_nil ?_; intro _ hw'; obtain ⟨nq, hw''⟩ := hw'; subst hw'')
    clear hwq
    go_wp2_with fail
    go_ret2
    exact ⟨rfl, BookTo.same h (below_drewN (Below.refl _ _) _)⟩

set_option maxHeartbeats 4000000 in
set_option maxRecDepth 100000 in
/-- One of both has asked now. -/
theorem rescind_one (mem id : Int) {n : Nat} (hn : idx B.l id = some n) (hs : (nth B.l n).st = 2) (hw : (nth B.l n).who mem = 1 ∨ (nth B.l n).who mem = 2) (ha : (nth B.l n).ak = 0) :
    Calls Try.prog 20 #[.pointer (some ⟨p, 0, none⟩), .int .i64 mem, .int .i64 id] w (ResPost w p mp v ({ B with l := B.l.set n { nth B.l n with ak := (nth B.l n).who mem } }, 2, 0)) := by
  obtain ⟨g, cap, hv, hil, hle, hg, hcells, hfree⟩ := h.find hn
  subst hv
  have HN := Lib.hid hn
  have e1 : w.cell? ⟨g, n * 10 + 1, none⟩ = some (.int .i64 (nth B.l n).d.a) := hcells 1 (by omega)
  have e2 : w.cell? ⟨g, n * 10 + 2, none⟩ = some (.int .i64 (nth B.l n).d.b) := hcells 2 (by omega)
  have e7 : w.cell? ⟨g, n * 10 + 7, none⟩ = some (.int .i64 2) := by rw [← hs]; exact hcells 7 (by omega)
  have e8 : w.cell? ⟨g, n * 10 + 8, none⟩ = some (.int .i64 0) := by rw [← ha]; exact hcells 8 (by omega)
  have f7 : ∀ j, w.frozen? ⟨g, j, none⟩ = false := hfree
  have hwho : whoI (nth B.l n).d.a (nth B.l n).d.b 2 mem = (nth B.l n).who mem := by rw [← hs]; rfl
  have s1 : ∀ q, BookRep ((w.drewN q).setCell ⟨g, n * 10 + 8, none⟩ (.int .i64 ((nth B.l n).who mem))) p { B with l := B.l.set n { nth B.l n with ak := (nth B.l n).who mem } } (.slice (some ⟨g, 0, none⟩) B.l.length cap) mp := fun q =>
    (h.below (below_drewN (Below.refl _ _) q)).store (n := n) (j := 8) (e := { nth B.l n with ak := (nth B.l n).who mem }) (u := .int .i64 ((nth B.l n).who mem)) hil (by omega) rfl rfl
  generalize hE : ({ nth B.l n with ak := (nth B.l n).who mem } : En) = E at *
  clear hE
  generalize (nth B.l n).who mem = wh at *
  generalize (nth B.l n).d.a = a at *
  generalize (nth B.l n).d.b = b at *
  have HW := Lib.hid hwho
  have S1 := Lib.hid s1
  clear hn hcells hfree hwho hs ha s1
  have o1 := or01
  have o2 := or02
  have n1 := and01
  have n2 := and02
  rcases hw with rfl | rfl
  all_goals
    go_enter Try.func20, Try.ntmps20
    go_wp2_with fail
    refine (find_some h id HN.out hil).mono ?_
    rintro e w2 ⟨rfl, hw2⟩
    obtain rfl := hw2.symm
    go_wp2_with fail
    refine (who_any g (n * 10) a b 2 mem _ e1 e2 e7).mono ?_
    rw [HW.out]
    rintro e w2 ⟨rfl, hw2⟩
    obtain rfl := hw2.symm
    go_wp2_with fail
    have hwq := fun nq => who_any g (n * 10) a b 2 mem (w.drewN nq) e1 e2 e7
    rw [HW.out] at hwq
    refine wp_region_quiet_lit (by kernel_rfl) (by kernel_rfl) ?_
    repeat (any_goals (first | go_big_quiet_step (((go_at_call 46; exact Calls.quiet_of_same (hwq _)))) | quiet_step (((go_at_call 46; exact Calls.quiet_of_same (hwq _)))) | (refine wpQuiet_step (fun K hK => ?_); go_simp; split <;> (refine hK _ ?_; clear hK K))))
    all_goals (refine wpQuiet_nil ?_; intro _ hw'; obtain ⟨nq, hw''⟩ := hw'; subst hw'')
    clear hwq
    go_wp2_with fail
    obtain ⟨S, Sd⟩ : ∃ S : World → Prop, ∀ w', S w' ↔ Below w.heap.size w w' := ⟨_, fun _ => Iff.rfl⟩
    haveI : Nonempty (Met S) := ⟨⟨w, (Sd _).2 (Below.refl _ _)⟩⟩
    have Sc : ∀ (z : Met S) (b o : Nat), b < w.heap.size → z.w.cell? ⟨b, o, none⟩ = w.cell? ⟨b, o, none⟩ := fun z b o hb => ((Sd _).1 z.ok).cell (p := ⟨b, o, none⟩) hb
    have hS : S (w.drewN nq).drew := (Sd _).2 ((below_drewN (Below.refl _ _) _).drew)
    refine wp_region_sched (S) [10] ([0, 1, 2, 3, 4, 5].map (fun i => (i, 1)) ++ ((6, 2) :: ([7, 8, 9].map (fun i => (i, 1)) ++ [(10, 2)]))) (by kernel_rfl) (by kernel_rfl) (fun dst _ _ _ _ h => by cases dst <;> exact h) ?_
    refine wpS_take [0, 1, 2, 3, 4, 5] (hS) (by kernel_rfl) (by kernel_rfl) ?_
    simp only [List.filterMap_cons, List.filterMap_nil, List.getElem?_toArray, List.getElem?_cons_zero, List.getElem?_cons_succ]
    show wpQuiet _ _ _ _ [_, _, _, _, _, _] _
    repeat (any_goals (first | go_big_quiet_step ((fail)) | quiet_step ((fail)) | (refine wpQuiet_step (fun K hK => ?_); go_simp; split <;> (refine hK _ ?_; clear hK K))))
    all_goals (refine wpQuiet_nil ?_)
    refine wpS_do rfl (fun K hK => ?_)
    go_simp
    refine (who_any g (n * 10) a b 2 mem (w.drewN (nq + 1)) e1 e2 e7).mono ?_
    rw [HW.out]
    rintro e w2 ⟨rfl, rfl⟩
    refine hK _ _ (fun _ _ => (Sd _).2 (below_drewN (Below.refl _ _) _)) ?_
    clear hK K
    refine wpS_take [7, 8, 9] ((Sd _).2 (below_drewN (Below.refl _ _) _)) (by kernel_rfl) (by kernel_rfl) ?_
    simp only [List.filterMap_cons, List.filterMap_nil, List.getElem?_toArray, List.getElem?_cons_zero, List.getElem?_cons_succ]
    show wpQuiet _ _ _ _ [_, _, _] _
    repeat (any_goals (first | go_big_quiet_step ((fail)) | quiet_step ((fail)) | (refine wpQuiet_step (fun K hK => ?_); go_simp; split <;> (refine hK _ ?_; clear hK K))))
    all_goals (refine wpQuiet_nil ?_)
    refine wpS_do rfl (fun K hK => ?_)
    go_simp
    refine hK _ _ (fun hh _ => by simp at hh) ?_
    clear hK K
    refine wpS_nil ?_
    go_wp2_with fail
    go_ret2
    exact ⟨rfl, _, S1.out _, (Keeps.of_below (below_drewN (Below.refl _ _) _)).setCell _ _ (.inr (.inr rfl)), fun _ hg => .inl hg⟩


set_option maxHeartbeats 4000000 in
set_option maxRecDepth 100000 in
/-- Both have asked now: it is gone. -/
theorem rescind_both (mem id : Int) {n : Nat} (hn : idx B.l id = some n) (hs : (nth B.l n).st = 2) (hw : ((nth B.l n).who mem = 1 ∧ (nth B.l n).ak = 2) ∨ ((nth B.l n).who mem = 2 ∧ (nth B.l n).ak = 1)) :
    Calls Try.prog 20 #[.pointer (some ⟨p, 0, none⟩), .int .i64 mem, .int .i64 id] w (ResPost w p mp v ({ B with l := B.l.set n { nth B.l n with ak := 3, st := 4 } }, 4, 0)) := by
  obtain ⟨g, cap, hv, hil, hle, hg, hcells, hfree⟩ := h.find hn
  subst hv
  have HN := Lib.hid hn
  have e1 : w.cell? ⟨g, n * 10 + 1, none⟩ = some (.int .i64 (nth B.l n).d.a) := hcells 1 (by omega)
  have e2 : w.cell? ⟨g, n * 10 + 2, none⟩ = some (.int .i64 (nth B.l n).d.b) := hcells 2 (by omega)
  have e7 : w.cell? ⟨g, n * 10 + 7, none⟩ = some (.int .i64 2) := by rw [← hs]; exact hcells 7 (by omega)
  have e8 : w.cell? ⟨g, n * 10 + 8, none⟩ = some (.int .i64 (nth B.l n).ak) := hcells 8 (by omega)
  have f7 : ∀ j, w.frozen? ⟨g, j, none⟩ = false := hfree
  have hwho : whoI (nth B.l n).d.a (nth B.l n).d.b 2 mem = (nth B.l n).who mem := by rw [← hs]; rfl
  have s1 : ∀ q, BookRep (((w.drewN q).setCell ⟨g, n * 10 + 8, none⟩ (.int .i64 3)).setCell ⟨g, n * 10 + 7, none⟩ (.int .i64 4)) p { B with l := B.l.set n { nth B.l n with ak := 3, st := 4 } } (.slice (some ⟨g, 0, none⟩) B.l.length cap) mp := fun q => by
    have s1 := (h.below (below_drewN (Below.refl _ _) q)).store (n := n) (j := 8) (e := { nth B.l n with ak := 3 }) (u := .int .i64 3) hil (by omega) rfl rfl
    have s2 := s1.store (n := n) (j := 7) (e := { nth B.l n with ak := 3, st := 4 }) (u := .int .i64 4) (by simpa using hil) (by omega) (by rw [nth_set_same hil]; rfl) (by rw [nth_set_same hil])
    simp only [List.set_set] at s2
    exact s2
  generalize hE : ({ nth B.l n with ak := 3, st := 4 } : En) = E at *
  clear hE
  generalize (nth B.l n).ak = ak at *
  generalize (nth B.l n).who mem = wh at *
  generalize (nth B.l n).d.a = a at *
  generalize (nth B.l n).d.b = b at *
  have HW := Lib.hid hwho
  have S1 := Lib.hid s1
  clear hn hcells hfree hwho hs s1
  have o1 := or12
  have o2 := or21
  have n1 := and12
  have n2 := and21
  rcases hw with ⟨rfl, rfl⟩ | ⟨rfl, rfl⟩
  all_goals
    go_enter Try.func20, Try.ntmps20
    go_wp2_with fail
    refine (find_some h id HN.out hil).mono ?_
    rintro e w2 ⟨rfl, hw2⟩
    obtain rfl := hw2.symm
    go_wp2_with fail
    refine (who_any g (n * 10) a b 2 mem _ e1 e2 e7).mono ?_
    rw [HW.out]
    rintro e w2 ⟨rfl, hw2⟩
    obtain rfl := hw2.symm
    go_wp2_with fail
    have hwq := fun nq => who_any g (n * 10) a b 2 mem (w.drewN nq) e1 e2 e7
    rw [HW.out] at hwq
    refine wp_region_quiet_lit (by kernel_rfl) (by kernel_rfl) ?_
    repeat (any_goals (first | go_big_quiet_step (((go_at_call 46; exact Calls.quiet_of_same (hwq _)))) | quiet_step (((go_at_call 46; exact Calls.quiet_of_same (hwq _)))) | (refine wpQuiet_step (fun K hK => ?_); go_simp; split <;> (refine hK _ ?_; clear hK K))))
    all_goals (refine wpQuiet_nil ?_; intro _ hw'; obtain ⟨nq, hw''⟩ := hw'; subst hw'')
    clear hwq
    go_wp2_with fail
    obtain ⟨S, Sd⟩ : ∃ S : World → Prop, ∀ w', S w' ↔ Below w.heap.size w w' := ⟨_, fun _ => Iff.rfl⟩
    haveI : Nonempty (Met S) := ⟨⟨w, (Sd _).2 (Below.refl _ _)⟩⟩
    have Sc : ∀ (z : Met S) (b o : Nat), b < w.heap.size → z.w.cell? ⟨b, o, none⟩ = w.cell? ⟨b, o, none⟩ := fun z b o hb => ((Sd _).1 z.ok).cell (p := ⟨b, o, none⟩) hb
    have hS : S (w.drewN nq).drew := (Sd _).2 ((below_drewN (Below.refl _ _) _).drew)
    refine wp_region_sched (S) [10] ([0, 1, 2, 3, 4, 5].map (fun i => (i, 1)) ++ ((6, 2) :: ([7, 8, 9].map (fun i => (i, 1)) ++ [(10, 2)]))) (by kernel_rfl) (by kernel_rfl) (fun dst _ _ _ _ h => by cases dst <;> exact h) ?_
    refine wpS_take [0, 1, 2, 3, 4, 5] (hS) (by kernel_rfl) (by kernel_rfl) ?_
    simp only [List.filterMap_cons, List.filterMap_nil, List.getElem?_toArray, List.getElem?_cons_zero, List.getElem?_cons_succ]
    show wpQuiet _ _ _ _ [_, _, _, _, _, _] _
    repeat (any_goals (first | go_big_quiet_step ((fail)) | quiet_step ((fail)) | (refine wpQuiet_step (fun K hK => ?_); go_simp; split <;> (refine hK _ ?_; clear hK K))))
    all_goals (refine wpQuiet_nil ?_)
    refine wpS_do rfl (fun K hK => ?_)
    go_simp
    refine (who_any g (n * 10) a b 2 mem (w.drewN (nq + 1)) e1 e2 e7).mono ?_
    rw [HW.out]
    rintro e w2 ⟨rfl, rfl⟩
    refine hK _ _ (fun _ _ => (Sd _).2 (below_drewN (Below.refl _ _) _)) ?_
    clear hK K
    refine wpS_take [7, 8, 9] ((Sd _).2 (below_drewN (Below.refl _ _) _)) (by kernel_rfl) (by kernel_rfl) ?_
    simp only [List.filterMap_cons, List.filterMap_nil, List.getElem?_toArray, List.getElem?_cons_zero, List.getElem?_cons_succ]
    show wpQuiet _ _ _ _ [_, _, _] _
    repeat (any_goals (first | go_big_quiet_step ((fail)) | quiet_step ((fail)) | (refine wpQuiet_step (fun K hK => ?_); go_simp; split <;> (refine hK _ ?_; clear hK K))))
    all_goals (refine wpQuiet_nil ?_)
    refine wpS_do rfl (fun K hK => ?_)
    go_simp
    refine hK _ _ (fun hh _ => by simp at hh) ?_
    clear hK K
    refine wpS_nil ?_
    go_wp2_with fail
    go_ret2
    exact ⟨rfl, _, S1.out _, ((Keeps.of_below (below_drewN (Below.refl _ _) _)).setCell _ _ (.inr (.inr rfl))).setCell _ _ (.inr (.inr rfl)), fun _ hg => .inl hg⟩


theorem rescind_any (mem id : Int) (hI : B.Inv) :
    Calls Try.prog 20 #[.pointer (some ⟨p, 0, none⟩), .int .i64 mem, .int .i64 id] w (ResPost w p mp v (B.rescind mem id)) := by
  unfold Bk.rescind
  cases hn : idx B.l id with
  | none => simp only [hn]; exact rescind_none h mem id hn
  | some n =>
    simp only [hn]
    have hi := (idx_some hn).1
    have hc := hI.could _ (nth_mem hi)
    have ha0 := hI.ak0 _ (nth_mem hi)
    have hst := could_st hc
    have hw := who_cases (nth B.l n) mem
    by_cases h0 : (nth B.l n).who mem = 0
    · rw [if_pos h0]; exact rescind_not h mem id hn (.inl ⟨h0, rfl⟩)
    · rw [if_neg h0]
      have hw12 : (nth B.l n).who mem = 1 ∨ (nth B.l n).who mem = 2 := by rcases hw with h | h | h; exact absurd h h0; exact .inl h; exact .inr h.1
      by_cases h3 : 3 ≤ (nth B.l n).st
      · rw [if_pos h3]; exact rescind_not h mem id hn (.inr ⟨hw12, h3, rfl⟩)
      · rw [if_neg h3]
        by_cases h1 : (nth B.l n).st = 1
        · rw [if_pos h1]; exact rescind_alone h mem id hn hw12 h1
        · rw [if_neg h1]
          have h2 : (nth B.l n).st = 2 := by omega
          have hak : (nth B.l n).ak < 3 := by
            rcases hc with ⟨e, _⟩ | ⟨_, e, _⟩ | ⟨e, _⟩
            · omega
            · exact e
            · omega
          by_cases hq : (nth B.l n).asks ((nth B.l n).who mem) = true
          · rw [if_pos hq]
            refine rescind_twice h mem id hn h2 ?_
            unfold En.asks at hq
            rcases hw12 with e | e
            · left; refine ⟨e, ?_⟩; rw [e] at hq; simp at hq; omega
            · right; refine ⟨e, ?_⟩; rw [e] at hq; simp at hq; omega
          · rw [if_neg hq]
            unfold En.asks at hq
            by_cases hs3 : (nth B.l n).ak + (nth B.l n).who mem = 3
            · rw [if_pos hs3]
              refine rescind_both h mem id hn h2 ?_
              rcases hw12 with e | e
              · left; exact ⟨e, by omega⟩
              · right; exact ⟨e, by omega⟩
            · rw [if_neg hs3]
              have h00 : (nth B.l n).ak = 0 := by
                rcases hw12 with e | e
                · rw [e] at hq; simp at hq; omega
                · rw [e] at hq; simp at hq; omega
              have := rescind_one h mem id hn h2 hw12 h00
              rw [h00]
              simp only [Int.zero_add]
              refine this.mono ?_
              rintro e w' ⟨rfl, hb⟩
              exact ⟨by simp [h2], hb⟩

end
end Go.Proofs.Ytbeolkjegipldaa
