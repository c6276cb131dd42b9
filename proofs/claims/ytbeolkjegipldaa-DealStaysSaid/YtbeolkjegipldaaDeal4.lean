/- Submit, of an Id that is known. -/
import Derived.Test.YtbeolkjegipldaaDeal3
namespace Go.Proofs.Ytbeolkjegipldaa
open Go.RowKit DL

section
variable {w : World} {p : Nat} {B : Bk} {v : Value} {mp : Nat} (h : BookRep w p B v mp) (i a b s c x y : Int)
include h

set_option maxHeartbeats 1000000 in
set_option maxRecDepth 100000 in
theorem submit_twice {n : Nat} (hm : mayB B.m B.c ⟨i,a,b,s,c,x,y⟩ = true) (hn : idx B.l i = some n) (hs : (nth B.l n).st ≠ 1 ∨ (nth B.l n).d.a = a) :
    Calls Try.prog 18 #[.pointer (some ⟨p, 0, none⟩), .agg #[.int .i64 i, .int .i64 a, .int .i64 b, .int .i64 s, .int .i64 c, .int .i64 x, .int .i64 y]] w (SubPost w p mp v (B, false, 6)) := by
  have hp := h.hdr.lt
  obtain ⟨g, cap, hv, hil, hle, hg, hcells, hfree⟩ := h.find hn
  subst hv
  have h0 : w.cell? ⟨p, 0, none⟩ = some (.int .i64 B.m) := h.hdr.cell 0
  have h1 : w.cell? ⟨p, 1, none⟩ = some (.int .i64 B.c) := h.hdr.cell 1
  have HM := Lib.hid hm
  have HN := Lib.hid hn
  have HC := Lib.hid hcells
  clear hm hn hcells hfree hle
  go_enter Try.func18, Try.ntmps18
  go_wp2_with fail
  refine (may_any i a b s c x y B.m B.c p _ (by simp [World.cell?_alloc_lt, hp, h0]) (by simp [World.cell?_alloc_lt, hp, h1])).mono ?_
  rw [HM.out]
  rintro e w1 ⟨rfl, hb⟩
  have hb1 : Below w.heap.size w w1 := ((Below.refl _ _).alloc (Nat.le_refl _) _).trans (hb.mono (by simp))
  have hr := h.below hb1
  have hd : Has w1 w.heap.size [.int .i64 i, .int .i64 a, .int .i64 b, .int .i64 s, .int .i64 c, .int .i64 x, .int .i64 y] 33 := (Has.new w _ _).of_block (hb.block _ (by simp))
  have hd0 : w1.cell? ⟨w.heap.size, 0, none⟩ = some (.int .i64 i) := hd.cell 0
  have hd1 : w1.cell? ⟨w.heap.size, 1, none⟩ = some (.int .i64 a) := hd.cell 1
  have e1 : w1.cell? ⟨g, n * 10 + 1, none⟩ = some (.int .i64 (nth B.l n).d.a) := (hb1.cell (p := ⟨g, n * 10 + 1, none⟩) hg).trans (HC.out 1 (by omega))
  have e7 : w1.cell? ⟨g, n * 10 + 7, none⟩ = some (.int .i64 (nth B.l n).st) := (hb1.cell (p := ⟨g, n * 10 + 7, none⟩) hg).trans (HC.out 7 (by omega))
  go_wp2_with fail
  refine (find_some hr i HN.out hil).mono ?_
  rintro e w2 ⟨rfl, hw2⟩
  obtain rfl := hw2.symm
  generalize (nth B.l n).d.a = a' at *
  generalize (nth B.l n).st = st at *
  have hcase : ((st != 1) = true) ∨ ((st != 1) = false ∧ (a' == a) = true) := by
    by_cases h1 : st = 1
    · rcases hs with hs | hs
      · exact absurd h1 hs
      · exact .inr ⟨by simp [h1], by simp [hs]⟩
    · exact .inl (by simp [h1])
  have HS := Lib.hid hs
  clear hs
  rcases hcase with hc | ⟨hc, ha⟩
  all_goals
    go_wp2_with fail
    refine wp_region_quiet_lit (by kernel_rfl) (by kernel_rfl) ?_
    repeat (any_goals (first | go_big_quiet_step ((fail)) | quiet_step ((fail)) | (refine wpQuiet_step (fun K hK => ?_); go_simp; split <;> (refine hK _ ?_; clear hK K))))
    all_goals (refine wpQuiet_nil ?_; intro _ hw'; obtain ⟨nq, hw''⟩ := hw'; subst hw'')
    go_wp2_with fail
    go_ret2
    exact ⟨rfl, BookTo.same h (below_drewN hb1 _)⟩

set_option maxHeartbeats 2000000 in
set_option maxRecDepth 100000 in
theorem submit_unfit {n : Nat} (hm : mayB B.m B.c ⟨i,a,b,s,c,x,y⟩ = true) (hn : idx B.l i = some n) (hs : (nth B.l n).st = 1) (ha : (nth B.l n).d.a ≠ a) (hu : (nth B.l n).d ≠ mirr ⟨i,a,b,s,c,x,y⟩) :
    Calls Try.prog 18 #[.pointer (some ⟨p, 0, none⟩), .agg #[.int .i64 i, .int .i64 a, .int .i64 b, .int .i64 s, .int .i64 c, .int .i64 x, .int .i64 y]] w (SubPost w p mp v (B, false, 12)) := by
  have hp := h.hdr.lt
  obtain ⟨g, cap, hv, hil, hle, hg, hcells, hfree⟩ := h.find hn
  subst hv
  have h0 : w.cell? ⟨p, 0, none⟩ = some (.int .i64 B.m) := h.hdr.cell 0
  have h1 : w.cell? ⟨p, 1, none⟩ = some (.int .i64 B.c) := h.hdr.cell 1
  have HM := Lib.hid hm
  have HN := Lib.hid hn
  have HC := Lib.hid hcells
  clear hm hn hcells hfree hle
  go_enter Try.func18, Try.ntmps18
  go_wp2_with fail
  refine (may_any i a b s c x y B.m B.c p _ (by simp [World.cell?_alloc_lt, hp, h0]) (by simp [World.cell?_alloc_lt, hp, h1])).mono ?_
  rw [HM.out]
  rintro e w1 ⟨rfl, hb⟩
  have hb1 : Below w.heap.size w w1 := ((Below.refl _ _).alloc (Nat.le_refl _) _).trans (hb.mono (by simp))
  have hr := h.below hb1
  have hd : Has w1 w.heap.size [.int .i64 i, .int .i64 a, .int .i64 b, .int .i64 s, .int .i64 c, .int .i64 x, .int .i64 y] 33 := (Has.new w _ _).of_block (hb.block _ (by simp))
  have hd0 : w1.cell? ⟨w.heap.size, 0, none⟩ = some (.int .i64 i) := hd.cell 0
  have hd1 : w1.cell? ⟨w.heap.size, 1, none⟩ = some (.int .i64 a) := hd.cell 1
  have e1 : w1.cell? ⟨g, n * 10 + 1, none⟩ = some (.int .i64 (nth B.l n).d.a) := (hb1.cell (p := ⟨g, n * 10 + 1, none⟩) hg).trans (HC.out 1 (by omega))
  have hdj : ∀ j, j < 7 → w1.cell? ⟨g, n * 10 + j, none⟩ = (DL.En.cs (nth B.l n))[j]? := fun j hj => (hb1.cell (p := ⟨g, n * 10 + j, none⟩) hg).trans (HC.out j (by omega))
  have e7 : w1.cell? ⟨g, n * 10 + 7, none⟩ = some (.int .i64 (nth B.l n).st) := (hb1.cell (p := ⟨g, n * 10 + 7, none⟩) hg).trans (HC.out 7 (by omega))
  go_wp2_with fail
  refine (find_some hr i HN.out hil).mono ?_
  rintro e w2 ⟨rfl, hw2⟩
  obtain rfl := hw2.symm
  have d0 := hdj 0 (by omega)
  have d2 := hdj 2 (by omega)
  have d3 := hdj 3 (by omega)
  have d4 := hdj 4 (by omega)
  have d5 := hdj 5 (by omega)
  have d6 := hdj 6 (by omega)
  clear hdj
  simp only [DL.En.cs, List.getElem?_cons_succ, List.getElem?_cons_zero, Nat.add_zero] at d0 d2 d3 d4 d5 d6
  rcases hE : nth B.l n with ⟨⟨i', a', b', s', c', x', y'⟩, st, ak, od⟩
  simp only [hE] at hs ha hu e1 e7 d0 d2 d3 d4 d5 d6
  have hst : (st != 1) = false := by simp [hs]
  have hab : (a' == a) = false := by simpa using ha
  have HS := Lib.hid hs
  have HU := Lib.hid hu
  have HE := Lib.hid hE
  clear hs hu hE
  go_wp2_with fail
  refine wp_region_quiet_lit (by kernel_rfl) (by kernel_rfl) ?_
  repeat (any_goals (first | go_big_quiet_step ((fail)) | quiet_step ((fail)) | (refine wpQuiet_step (fun K hK => ?_); go_simp; split <;> (refine hK _ ?_; clear hK K))))
  all_goals (refine wpQuiet_nil ?_; intro _ hw'; obtain ⟨nq, hw''⟩ := hw'; subst hw'')
  go_wp2_with fail
  have hd2 : w1.cell? ⟨w.heap.size, 2, none⟩ = some (.int .i64 b) := hd.cell 2
  have hd3 : w1.cell? ⟨w.heap.size, 3, none⟩ = some (.int .i64 s) := hd.cell 3
  have hd4 : w1.cell? ⟨w.heap.size, 4, none⟩ = some (.int .i64 c) := hd.cell 4
  have hd5 : w1.cell? ⟨w.heap.size, 5, none⟩ = some (.int .i64 x) := hd.cell 5
  have hd6 : w1.cell? ⟨w.heap.size, 6, none⟩ = some (.int .i64 y) := hd.cell 6
  have hg1 : g < w1.heap.size := Nat.lt_of_lt_of_le hg hb1.size
  have hw1 : w.heap.size < w1.heap.size := hd.lt
  obtain ⟨S, Sd⟩ : ∃ S : World → Prop, ∀ w', S w' ↔ Below w1.heap.size w1 w' := ⟨_, fun _ => Iff.rfl⟩
  haveI : Nonempty (Met S) := ⟨⟨w1, (Sd _).2 (Below.refl _ _)⟩⟩
  have Sc : ∀ (z : Met S) (b o : Nat), b < w1.heap.size → z.w.cell? ⟨b, o, none⟩ = w1.cell? ⟨b, o, none⟩ := fun z b o hb => ((Sd _).1 z.ok).cell (p := ⟨b, o, none⟩) hb
  have hS : S (w1.drewN nq).drew := (Sd _).2 ((below_drewN (Below.refl _ _) _).drew)
  refine wp_region_sched (S) [] ([0, 1, 2, 3, 4].map (fun i => (i, 1)) ++ ((5, 2) :: ([6, 7].map (fun i => (i, 1))))) (by kernel_rfl) (by kernel_rfl) (fun dst _ _ _ _ h => by cases dst <;> exact h) ?_
  refine wpS_take [0, 1, 2, 3, 4] (hS) (by kernel_rfl) (by kernel_rfl) ?_
  simp only [List.filterMap_cons, List.filterMap_nil, List.getElem?_toArray, List.getElem?_cons_zero, List.getElem?_cons_succ]
  show wpQuiet _ _ _ _ [_, _, _, _, _] _
  repeat (any_goals (first | go_big_quiet_step ((fail)) | quiet_step ((fail)) | (refine wpQuiet_step (fun K hK => ?_); go_simp; split <;> (refine hK _ ?_; clear hK K))))
  all_goals (refine wpQuiet_nil ?_)
  refine wpS_do rfl (fun K hK => ?_)
  go_simp
  refine (mirror_any i a b s c x y _).mono ?_
  rintro e w3 ⟨rfl, hb3⟩
  have hb3' : Below w1.heap.size w1 w3 := (below_drewN (Below.refl _ _) _).trans (hb3.mono (by simp))
  have hS3 : S w3 := (Sd _).2 hb3'
  refine hK _ _ (fun _ _ => hS3) ?_
  clear hK K
  have hq : ∀ wx, (binOp .neq 33 (.agg #[.int .i64 i', .int .i64 a', .int .i64 b', .int .i64 s', .int .i64 c', .int .i64 x', .int .i64 y']) (.agg #[.int .i64 i, .int .i64 b, .int .i64 a, .int .i64 c, .int .i64 s, .int .i64 y, .int .i64 x])).run Try.prog wx = .ok (.bool true) wx := fun wx => by
    rw [neq_deal]; have := HU.out; simp only [mirr] at this; rw [decide_eq_false this]; rfl
  have hq2 := eqg_deal
  refine wpS_take [6, 7] (hS3) (by kernel_rfl) (by kernel_rfl) ?_
  simp only [List.filterMap_cons, List.filterMap_nil, List.getElem?_toArray, List.getElem?_cons_zero, List.getElem?_cons_succ]
  show wpQuiet _ _ _ _ [_, _] _
  repeat (any_goals (first | go_big_quiet_step ((fail)) | quiet_step ((fail)) | (refine wpQuiet_step (fun K hK => ?_); go_simp; split <;> (refine hK _ ?_; clear hK K))))
  all_goals (refine wpQuiet_nil ?_)
  refine wpS_nil ?_
  go_wp2_with fail
  go_ret2
  exact ⟨rfl, BookTo.same h (hb1.trans (hb3'.mono hb1.size))⟩

set_option maxHeartbeats 2000000 in
set_option maxRecDepth 100000 in
theorem submit_match {n : Nat} (hm : mayB B.m B.c ⟨i,a,b,s,c,x,y⟩ = true) (hn : idx B.l i = some n) (hs : (nth B.l n).st = 1) (ha : (nth B.l n).d.a ≠ a) (hu : (nth B.l n).d = mirr ⟨i,a,b,s,c,x,y⟩) (hk0 : 0 ≤ B.k) (hk1 : B.k ≤ 1000) :
    Calls Try.prog 18 #[.pointer (some ⟨p, 0, none⟩), .agg #[.int .i64 i, .int .i64 a, .int .i64 b, .int .i64 s, .int .i64 c, .int .i64 x, .int .i64 y]] w (SubPost w p mp v ({ B with l := B.l.set n { nth B.l n with st := 2, od := B.k + 1 }, k := B.k + 1 }, true, 0)) := by
  have hp := h.hdr.lt
  obtain ⟨g, cap, hv, hil, hle, hg, hcells, hfree⟩ := h.find hn
  subst hv
  have h0 : w.cell? ⟨p, 0, none⟩ = some (.int .i64 B.m) := h.hdr.cell 0
  have h1 : w.cell? ⟨p, 1, none⟩ = some (.int .i64 B.c) := h.hdr.cell 1
  have HM := Lib.hid hm
  have HN := Lib.hid hn
  have HC := Lib.hid hcells
  clear hm hn hcells hfree hle
  go_enter Try.func18, Try.ntmps18
  go_wp2_with fail
  refine (may_any i a b s c x y B.m B.c p _ (by simp [World.cell?_alloc_lt, hp, h0]) (by simp [World.cell?_alloc_lt, hp, h1])).mono ?_
  rw [HM.out]
  rintro e w1 ⟨rfl, hb⟩
  have hb1 : Below w.heap.size w w1 := ((Below.refl _ _).alloc (Nat.le_refl _) _).trans (hb.mono (by simp))
  have hr := h.below hb1
  have hd : Has w1 w.heap.size [.int .i64 i, .int .i64 a, .int .i64 b, .int .i64 s, .int .i64 c, .int .i64 x, .int .i64 y] 33 := (Has.new w _ _).of_block (hb.block _ (by simp))
  have hd0 : w1.cell? ⟨w.heap.size, 0, none⟩ = some (.int .i64 i) := hd.cell 0
  have hd1 : w1.cell? ⟨w.heap.size, 1, none⟩ = some (.int .i64 a) := hd.cell 1
  have e1 : w1.cell? ⟨g, n * 10 + 1, none⟩ = some (.int .i64 (nth B.l n).d.a) := (hb1.cell (p := ⟨g, n * 10 + 1, none⟩) hg).trans (HC.out 1 (by omega))
  have hdj : ∀ j, j < 7 → w1.cell? ⟨g, n * 10 + j, none⟩ = (DL.En.cs (nth B.l n))[j]? := fun j hj => (hb1.cell (p := ⟨g, n * 10 + j, none⟩) hg).trans (HC.out j (by omega))
  have e7 : w1.cell? ⟨g, n * 10 + 7, none⟩ = some (.int .i64 (nth B.l n).st) := (hb1.cell (p := ⟨g, n * 10 + 7, none⟩) hg).trans (HC.out 7 (by omega))
  go_wp2_with fail
  refine (find_some hr i HN.out hil).mono ?_
  rintro e w2 ⟨rfl, hw2⟩
  obtain rfl := hw2.symm
  have d0 := hdj 0 (by omega)
  have d2 := hdj 2 (by omega)
  have d3 := hdj 3 (by omega)
  have d4 := hdj 4 (by omega)
  have d5 := hdj 5 (by omega)
  have d6 := hdj 6 (by omega)
  have d9 : w1.cell? ⟨g, n * 10 + 9, none⟩ = some (.int .i64 (nth B.l n).od) := (hb1.cell (p := ⟨g, n * 10 + 9, none⟩) hg).trans (HC.out 9 (by omega))
  clear hdj
  simp only [DL.En.cs, List.getElem?_cons_succ, List.getElem?_cons_zero, Nat.add_zero] at d0 d2 d3 d4 d5 d6
  rcases hE : nth B.l n with ⟨⟨i', a', b', s', c', x', y'⟩, st, ak, od⟩
  simp only [hE] at hs ha hu e1 e7 d0 d2 d3 d4 d5 d6 d9 ⊢
  have hst : (st != 1) = false := by simp [hs]
  have hab : (a' == a) = false := by simpa using ha
  have HS := Lib.hid hs
  have HU := Lib.hid hu
  have HE := Lib.hid hE
  clear hs hu hE
  go_wp2_with fail
  refine wp_region_quiet_lit (by kernel_rfl) (by kernel_rfl) ?_
  repeat (any_goals (first | go_big_quiet_step ((fail)) | quiet_step ((fail)) | (refine wpQuiet_step (fun K hK => ?_); go_simp; split <;> (refine hK _ ?_; clear hK K))))
  all_goals (refine wpQuiet_nil ?_; intro _ hw'; obtain ⟨nq, hw''⟩ := hw'; subst hw'')
  go_wp2_with fail
  have hd2 : w1.cell? ⟨w.heap.size, 2, none⟩ = some (.int .i64 b) := hd.cell 2
  have hd3 : w1.cell? ⟨w.heap.size, 3, none⟩ = some (.int .i64 s) := hd.cell 3
  have hd4 : w1.cell? ⟨w.heap.size, 4, none⟩ = some (.int .i64 c) := hd.cell 4
  have hd5 : w1.cell? ⟨w.heap.size, 5, none⟩ = some (.int .i64 x) := hd.cell 5
  have hd6 : w1.cell? ⟨w.heap.size, 6, none⟩ = some (.int .i64 y) := hd.cell 6
  have hg1 : g < w1.heap.size := Nat.lt_of_lt_of_le hg hb1.size
  have hw1 : w.heap.size < w1.heap.size := hd.lt
  obtain ⟨S, Sd⟩ : ∃ S : World → Prop, ∀ w', S w' ↔ Below w1.heap.size w1 w' := ⟨_, fun _ => Iff.rfl⟩
  haveI : Nonempty (Met S) := ⟨⟨w1, (Sd _).2 (Below.refl _ _)⟩⟩
  have Sc : ∀ (z : Met S) (b o : Nat), b < w1.heap.size → z.w.cell? ⟨b, o, none⟩ = w1.cell? ⟨b, o, none⟩ := fun z b o hb => ((Sd _).1 z.ok).cell (p := ⟨b, o, none⟩) hb
  have hS : S (w1.drewN nq).drew := (Sd _).2 ((below_drewN (Below.refl _ _) _).drew)
  refine wp_region_sched (S) [] ([0, 1, 2, 3, 4].map (fun i => (i, 1)) ++ ((5, 2) :: ([6, 7].map (fun i => (i, 1))))) (by kernel_rfl) (by kernel_rfl) (fun dst _ _ _ _ h => by cases dst <;> exact h) ?_
  refine wpS_take [0, 1, 2, 3, 4] (hS) (by kernel_rfl) (by kernel_rfl) ?_
  simp only [List.filterMap_cons, List.filterMap_nil, List.getElem?_toArray, List.getElem?_cons_zero, List.getElem?_cons_succ]
  show wpQuiet _ _ _ _ [_, _, _, _, _] _
  repeat (any_goals (first | go_big_quiet_step ((fail)) | quiet_step ((fail)) | (refine wpQuiet_step (fun K hK => ?_); go_simp; split <;> (refine hK _ ?_; clear hK K))))
  all_goals (refine wpQuiet_nil ?_)
  refine wpS_do rfl (fun K hK => ?_)
  go_simp
  refine (mirror_any i a b s c x y _).mono ?_
  rintro e w3 ⟨rfl, hb3⟩
  have hb3' : Below w1.heap.size w1 w3 := (below_drewN (Below.refl _ _) _).trans (hb3.mono (by simp))
  have hS3 : S w3 := (Sd _).2 hb3'
  refine hK _ _ (fun _ _ => hS3) ?_
  clear hK K
  have hq : ∀ wx, (binOp .neq 33 (.agg #[.int .i64 i', .int .i64 a', .int .i64 b', .int .i64 s', .int .i64 c', .int .i64 x', .int .i64 y']) (.agg #[.int .i64 i, .int .i64 b, .int .i64 a, .int .i64 c, .int .i64 s, .int .i64 y, .int .i64 x])).run Try.prog wx = .ok (.bool false) wx := fun wx => by
    rw [neq_deal]; have := HU.out; simp only [mirr] at this; rw [decide_eq_true this]; rfl
  have hq2 := eqg_deal
  refine wpS_take [6, 7] (hS3) (by kernel_rfl) (by kernel_rfl) ?_
  simp only [List.filterMap_cons, List.filterMap_nil, List.getElem?_toArray, List.getElem?_cons_zero, List.getElem?_cons_succ]
  show wpQuiet _ _ _ _ [_, _] _
  repeat (any_goals (first | go_big_quiet_step ((fail)) | quiet_step ((fail)) | (refine wpQuiet_step (fun K hK => ?_); go_simp; split <;> (refine hK _ ?_; clear hK K))))
  all_goals (refine wpQuiet_nil ?_)
  refine wpS_nil ?_
  have hr3 := hr.below hb3'
  have t4 : w3.cell? ⟨p, 4, none⟩ = some (.int .i64 B.k) := hr3.hdr.cell 4
  have t7 : w3.cell? ⟨g, n * 10 + 7, none⟩ = some (.int .i64 st) := (Sc ⟨w3, hS3⟩ _ _ hg1).trans e7
  have t9 : w3.cell? ⟨g, n * 10 + 9, none⟩ = some (.int .i64 od) := (Sc ⟨w3, hS3⟩ _ _ hg1).trans d9
  have f4 : ∀ k, w3.frozen? ⟨p, k, none⟩ = false := fun k => hr3.hdr.free k
  have f7 : ∀ k, w3.frozen? ⟨g, k, none⟩ = false := hr3.frozen
  have hgp : g ≠ p := fun e => h.a2 (by simp [Value.ownBlock, e])
  clear hq hq2
  go_wp2_with fail
  have hn' := hr3.count (B.k + 1)
  have hE1 := HE.out
  have s1 := hn'.store (n := n) (j := 7) (e := ⟨⟨i', a', b', s', c', x', y'⟩, 2, ak, od⟩) (u := .int .i64 2) hil (by omega) (by rw [hE1]; rfl) (by rw [hE1])
  have s2 := s1.store (n := n) (j := 9) (e := ⟨⟨i', a', b', s', c', x', y'⟩, 2, ak, B.k + 1⟩) (u := .int .i64 (B.k + 1)) (by simpa using hil) (by omega) (by rw [nth_set_same hil]; rfl) (by rw [nth_set_same hil])
  simp only [List.set_set] at s2
  have hkp : Keeps (bookF p mp (.slice (some ⟨g, 0, none⟩) B.l.length cap)) w w3 := Keeps.of_below (hb1.trans (hb3'.mono hb1.size))
  have hkk := ((hkp.setCell 4 (.int .i64 (B.k + 1)) (.inl rfl)).setCell (n * 10 + 7) (.int .i64 2) (.inr (.inr rfl))).setCell (n * 10 + 9) (.int .i64 (B.k + 1)) (.inr (.inr rfl))
  go_ret2
  rw [hE1]
  exact ⟨rfl, _, s2, hkk, fun _ hg => .inl hg⟩

theorem submit_any (d : Dl) (hI : B.Inv) (hk1 : B.k ≤ 1000) :
    Calls Try.prog 18 #[.pointer (some ⟨p, 0, none⟩), .agg #[.int .i64 d.id, .int .i64 d.a, .int .i64 d.b, .int .i64 d.sc, .int .i64 d.bc, .int .i64 d.sell, .int .i64 d.buy]] w (SubPost w p mp v (B.submit d)) := by
  obtain ⟨i, a, b, s, c, x, y⟩ := d
  unfold Bk.submit
  by_cases hm : mayB B.m B.c ⟨i,a,b,s,c,x,y⟩ = false
  · rw [if_pos hm]; exact submit_not h i a b s c x y hm
  · rw [if_neg hm]
    have hm : mayB B.m B.c ⟨i,a,b,s,c,x,y⟩ = true := by simpa using hm
    cases hn : idx B.l i with
    | none =>
      simp only [hn]
      by_cases hl : B.l.length = 200
      · rw [if_pos hl]; exact submit_many h i a b s c x y hm hn hl
      · rw [if_neg hl]; exact submit_new h i a b s c x y hm hn hl hI.len
    | some n =>
      simp only [hn]
      by_cases hs : (nth B.l n).st ≠ 1 ∨ (nth B.l n).d.a = a
      · rw [if_pos hs]; exact submit_twice h i a b s c x y hm hn hs
      · rw [if_neg hs]
        have h1 : (nth B.l n).st = 1 := Classical.not_not.1 fun e => hs (.inl e)
        have h2 : (nth B.l n).d.a ≠ a := fun e => hs (.inr e)
        by_cases hu : (nth B.l n).d ≠ mirr ⟨i,a,b,s,c,x,y⟩
        · rw [if_pos hu]; exact submit_unfit h i a b s c x y hm hn h1 h2 hu
        · rw [if_neg hu]; exact submit_match h i a b s c x y hm hn h1 h2 (Classical.not_not.1 hu) hI.k0 hk1

end
end Go.Proofs.Ytbeolkjegipldaa
