/- Submit. -/
import Derived.Test.YtbeolkjegipldaaDeal2
namespace Go.Proofs.Ytbeolkjegipldaa
open Go.RowKit DL

theorem BookRep.lt {w : World} {p : Nat} {B : Bk} {v : Value} {mp : Nat} (h : BookRep w p B v mp) : ∀ k, bookF p mp v k → k < w.heap.size := by
  rintro k (rfl | rfl | hk)
  · exact h.hdr.lt
  · exact h.map.lt
  · exact (h.row.lt k hk).2

/-- A book stays where its blocks stay. -/
theorem BookRep.of_blocks {w w' : World} {p : Nat} {B : Bk} {v : Value} {mp : Nat} (h : BookRep w p B v mp) (e : ∀ k, bookF p mp v k → w'.heap[k]? = w.heap[k]?) : BookRep w' p B v mp := by
  refine ⟨h.hdr.of_block (e p (.inl rfl)), ?_, h.map.of_block (e mp (.inr (.inl rfl))), h.a1, h.a2, h.a3⟩
  obtain ⟨hl, hr⟩ := h.row
  refine ⟨hl, ?_⟩
  rcases hr with hr | ⟨g, cap, cur, hv, hb, hg, r⟩
  · exact .inl hr
  · exact .inr ⟨g, cap, cur, hv, hb, (e g (.inr (.inr (by rw [hv]; rfl)))).trans hg, r⟩

theorem BookRep.below {w w' : World} {p : Nat} {B : Bk} {v : Value} {mp : Nat} (h : BookRep w p B v mp) (hb : Below w.heap.size w w') : BookRep w' p B v mp :=
  h.of_blocks fun k hk => hb.block k (h.lt k hk)

theorem BookRep.keeps {w w' : World} {p : Nat} {B : Bk} {v : Value} {mp : Nat} (h : BookRep w p B v mp) {F : Nat → Prop} (hb : Keeps F w w') (hF : ∀ k, bookF p mp v k → ¬ F k) : BookRep w' p B v mp :=
  h.of_blocks fun k hk => hb.block k (h.lt k hk) (hF k hk)

theorem ownsRow_of_block {w w' : World} {base : Nat} {e : TypeId} {size : Nat} {v : Value} {n : Nat} {xs : List Value} (h : w.ownsRow base e size v n xs) (hk : ∀ g, v.ownBlock = some g → w'.heap[g]? = w.heap[g]?) : w'.ownsRow base e size v n xs := by
  obtain ⟨hl, hr⟩ := h
  refine ⟨hl, ?_⟩
  rcases hr with hr | ⟨g, cap, cur, hv, hb, hg, r⟩
  · exact .inl hr
  · exact .inr ⟨g, cap, cur, hv, hb, (hk g (by rw [hv]; rfl)).trans hg, r⟩

/-- Behind a call the book at p is B', and only its blocks may have turned. -/
def BookTo (w : World) (p mp : Nat) (v : Value) (B' : Bk) (w' : World) : Prop :=
  ∃ v', BookRep w' p B' v' mp ∧ Keeps (bookF p mp v) w w' ∧ (∀ g, v'.ownBlock = some g → v.ownBlock = some g ∨ w.heap.size ≤ g)

theorem BookTo.same {w w' : World} {p mp : Nat} {v : Value} {B : Bk} (h : BookRep w p B v mp) (hb : Below w.heap.size w w') : BookTo w p mp v B w' :=
  ⟨v, h.below hb, Keeps.of_below hb, fun _ hg => .inl hg⟩

theorem flatE_set {l : List En} {n : Nat} {e : En} {j : Nat} {v : Value} (hn : n < l.length) (hj : j < 10) (he : e.cs = (nth l n).cs.set j v) : flatE (l.set n e) = (flatE l).set (n * 10 + j) v := by
  induction l generalizing n with
  | nil => simp at hn
  | cons a l ih =>
    cases n with
    | zero =>
      simp only [List.set_cons_zero, flatE, List.flatMap_cons]
      rw [List.set_append_left _ _ (by simp [DL.En.cs]; omega), he]
      simp [nth]
    | succ n =>
      simp only [List.set_cons_succ, flatE, List.flatMap_cons]
      rw [List.set_append_right _ _ (by simp [DL.En.cs]; omega)]
      have e1 : (n + 1) * 10 + j - a.cs.length = n * 10 + j := by simp [DL.En.cs]; omega
      rw [e1]
      have := ih (n := n) (by simpa using hn) (by rw [he]; simp [nth])
      simp only [flatE] at this
      rw [this]

/-- A field of an entry is another one. -/
theorem BookRep.store {w : World} {p : Nat} {B : Bk} {g len cap mp : Nat} (h : BookRep w p B (.slice (some ⟨g, 0, none⟩) len cap) mp) {n j : Nat} {e : En} {u : Value} (hn : n < B.l.length) (hj : j < 10)
    (he : e.cs = (nth B.l n).cs.set j u) (hid : e.d.id = (nth B.l n).d.id) : BookRep (w.setCell ⟨g, n * 10 + j, none⟩ u) p { B with l := B.l.set n e } (.slice (some ⟨g, 0, none⟩) len cap) mp := by
  have hgp : g ≠ p := fun e => h.a2 (by simp [Value.ownBlock, e])
  have hgm : g ≠ mp := fun e => h.a3 (by simp [Value.ownBlock, e])
  have hlen : len = B.l.length := by
    rcases h.row.2 with ⟨hv, _⟩ | ⟨g', cap', cur, hv, _⟩
    · simp at hv
    · simp at hv; exact hv.2.1
  refine ⟨h.hdr.of_block (heap_setCell_far _ _ _ hgp), ?_, ?_, h.a1, h.a2, h.a3⟩
  · have := h.row
    subst hlen
    show World.ownsRow _ 0 _ 10 _ (B.l.set n e).length (flatE (B.l.set n e))
    rw [flatE_set hn hj he, List.length_set]
    exact (this.stored _ _).1
  · have := h.map.of_block (w' := w.setCell ⟨g, n * 10 + j, none⟩ u) (heap_setCell_far _ _ _ hgm)
    have ef : (fun id => (idx (B.l.set n e) id).map (fun i => Value.int .i64 (i : Nat))) = fun id => (idx B.l id).map (fun i => Value.int .i64 (i : Nat)) := by
      funext id; rw [idx_set hn hid]
    show MapI _ mp (fun id => (idx (B.l.set n e) id).map _)
    rw [ef]; exact this

/-- The number of matched ones is another one. -/
theorem BookRep.count {w : World} {p : Nat} {B : Bk} {v : Value} {mp : Nat} (h : BookRep w p B v mp) (k : Int) : BookRep (w.setCell ⟨p, 4, none⟩ (.int .i64 k)) p { B with k := k } v mp :=
  ⟨h.hdr.set 4 _, ownsRow_of_block h.row (fun g hg => heap_setCell_far _ _ _ (fun e => h.a2 (by rw [hg, e]))), h.map.of_block (heap_setCell_far _ _ _ h.a1), h.a1, h.a2, h.a3⟩

def SubPost (w : World) (p mp : Nat) (v : Value) (r : Bk × Bool × Int) (e : Ending) (w' : World) : Prop :=
  e = .returned (.tuple #[.bool r.2.1, .int .i64 r.2.2]) ∧ BookTo w p mp v r.1 w'

theorem BookRep.slice {w : World} {p : Nat} {B : Bk} {v : Value} {mp : Nat} (h : BookRep w p B v mp) : ∃ a cap, v = .slice a B.l.length cap := by
  rcases h.row.2 with ⟨hv, h0⟩ | ⟨g, cap, cur, hv, _⟩
  · exact ⟨none, 0, by rw [hv, h0]⟩
  · exact ⟨_, cap, hv⟩

section
variable {w : World} {p : Nat} {B : Bk} {v : Value} {mp : Nat} (h : BookRep w p B v mp) (i a b s c x y : Int)
include h

set_option maxHeartbeats 1000000 in
theorem submit_not (hm : mayB B.m B.c ⟨i,a,b,s,c,x,y⟩ = false) :
    Calls Try.prog 18 #[.pointer (some ⟨p, 0, none⟩), .agg #[.int .i64 i, .int .i64 a, .int .i64 b, .int .i64 s, .int .i64 c, .int .i64 x, .int .i64 y]] w (SubPost w p mp v (B, false, 1)) := by
  have hp := h.hdr.lt
  have h0 : w.cell? ⟨p, 0, none⟩ = some (.int .i64 B.m) := h.hdr.cell 0
  have h1 : w.cell? ⟨p, 1, none⟩ = some (.int .i64 B.c) := h.hdr.cell 1
  have HM := Lib.hid hm
  clear hm
  go_enter Try.func18, Try.ntmps18
  go_wp2_with fail
  refine (may_any i a b s c x y B.m B.c p _ (by simp [World.cell?_alloc_lt, hp, h0]) (by simp [World.cell?_alloc_lt, hp, h1])).mono ?_
  rw [HM.out]
  rintro e w1 ⟨rfl, hb⟩
  go_wp2_with fail
  go_ret2
  refine ⟨rfl, BookTo.same h ?_⟩
  exact ((Below.refl _ _).alloc (Nat.le_refl _) _).trans (hb.mono (by simp))

set_option maxHeartbeats 1000000 in
theorem submit_many (hm : mayB B.m B.c ⟨i,a,b,s,c,x,y⟩ = true) (hn : idx B.l i = none) (hl : B.l.length = 200) :
    Calls Try.prog 18 #[.pointer (some ⟨p, 0, none⟩), .agg #[.int .i64 i, .int .i64 a, .int .i64 b, .int .i64 s, .int .i64 c, .int .i64 x, .int .i64 y]] w (SubPost w p mp v (B, false, 4)) := by
  have hp := h.hdr.lt
  obtain ⟨ao, cap, hv⟩ := h.slice
  have h0 : w.cell? ⟨p, 0, none⟩ = some (.int .i64 B.m) := h.hdr.cell 0
  have h1 : w.cell? ⟨p, 1, none⟩ = some (.int .i64 B.c) := h.hdr.cell 1
  have HM := Lib.hid hm
  have HL := Lib.hid hl
  have HV := Lib.hid hv
  have HN := Lib.hid hn
  clear hm hl hv hn
  go_enter Try.func18, Try.ntmps18
  go_wp2_with fail
  refine (may_any i a b s c x y B.m B.c p _ (by simp [World.cell?_alloc_lt, hp, h0]) (by simp [World.cell?_alloc_lt, hp, h1])).mono ?_
  rw [HM.out]
  rintro e w1 ⟨rfl, hb⟩
  have hb1 : Below w.heap.size w w1 := ((Below.refl _ _).alloc (Nat.le_refl _) _).trans (hb.mono (by simp))
  have hr := h.below hb1
  have hd : w1.cell? ⟨w.heap.size, 0, none⟩ = some (.int .i64 i) := (hb.cell (p := ⟨w.heap.size, 0, none⟩) (by simp)).trans (by simp)
  have h2 : w1.cell? ⟨p, 2, none⟩ = some (.slice ao 200 cap) := by rw [← HL.out, ← HV.out]; exact hr.hdr.cell 2
  go_wp2_with fail
  refine (find_none hr i HN.out).mono ?_
  rintro e w2 ⟨rfl, hw2⟩
  obtain rfl := hw2.symm
  go_wp2_with fail
  go_ret2
  exact ⟨rfl, BookTo.same h hb1⟩

set_option maxHeartbeats 1000000 in
set_option maxRecDepth 100000 in
theorem submit_new (hm : mayB B.m B.c ⟨i,a,b,s,c,x,y⟩ = true) (hn : idx B.l i = none) (hl : B.l.length ≠ 200) (hle : B.l.length ≤ 200) :
    Calls Try.prog 18 #[.pointer (some ⟨p, 0, none⟩), .agg #[.int .i64 i, .int .i64 a, .int .i64 b, .int .i64 s, .int .i64 c, .int .i64 x, .int .i64 y]] w (SubPost w p mp v ({ B with l := B.l ++ [⟨⟨i,a,b,s,c,x,y⟩, 1, 0, 0⟩] }, false, 0)) := by
  have hp := h.hdr.lt
  obtain ⟨ao, cap, hv⟩ := h.slice
  have h0 : w.cell? ⟨p, 0, none⟩ = some (.int .i64 B.m) := h.hdr.cell 0
  have h1 : w.cell? ⟨p, 1, none⟩ = some (.int .i64 B.c) := h.hdr.cell 1
  have hl2 : (((B.l.length : Nat) : Int) == 200) = false := by simp; omega
  have HM := Lib.hid hm
  have HL := Lib.hid hl
  have HV := Lib.hid hv
  have HN := Lib.hid hn
  clear hm hl hv hn
  go_enter Try.func18, Try.ntmps18
  go_wp2_with fail
  refine (may_any i a b s c x y B.m B.c p _ (by simp [World.cell?_alloc_lt, hp, h0]) (by simp [World.cell?_alloc_lt, hp, h1])).mono ?_
  rw [HM.out]
  rintro e w1 ⟨rfl, hb⟩
  have hb1 : Below w.heap.size w w1 := ((Below.refl _ _).alloc (Nat.le_refl _) _).trans (hb.mono (by simp))
  have hr := h.below hb1
  have hd : Has w1 w.heap.size [.int .i64 i, .int .i64 a, .int .i64 b, .int .i64 s, .int .i64 c, .int .i64 x, .int .i64 y] 33 := (Has.new w _ _).of_block (hb.block _ (by simp))
  have hd0 : w1.cell? ⟨w.heap.size, 0, none⟩ = some (.int .i64 i) := hd.cell 0
  have h2 : w1.cell? ⟨p, 2, none⟩ = some (.slice ao B.l.length cap) := by rw [← HV.out]; exact hr.hdr.cell 2
  have h3 : w1.cell? ⟨p, 3, none⟩ = some (.map (some mp)) := hr.hdr.cell 3
  go_wp2_with fail
  refine (find_none hr i HN.out).mono ?_
  rintro e w2 ⟨rfl, hw2⟩
  obtain rfl := hw2.symm
  go_wp2_with fail
  obtain ⟨w2, hmu, hmap, hk2, hz2, ho2, ht2, hu2⟩ := run_mapUpdate_any (P := Try.prog) (w := w1.drew) (T := 53) (K := 3) (E := 3) Try.underlying53 Try.underlying3 (hr.map.of_block (w' := w1.drew) rfl) i (.int .i64 B.l.length)
  go_still_tail 11, (by kernel_rfl)
  change wpList _ _ _ _ _ w1.drew
  go_wp2_with fail
  clear hmu
  have HZ := Lib.hid hz2
  clear hz2
  have hnd : w.heap.size ≠ mp := by have := h.map.lt; omega
  have hd2 : Has w2 w.heap.size [.int .i64 i, .int .i64 a, .int .i64 b, .int .i64 s, .int .i64 c, .int .i64 x, .int .i64 y] 33 := hd.of_block (hk2 _ hnd)
  have hh2 : Has w2 p [.int .i64 B.m, .int .i64 B.c, v, .map (some mp), .int .i64 B.k] 56 := hr.hdr.of_block (hk2 _ h.a1)
  obtain ⟨S, hSd⟩ : ∃ S : World → Prop, ∀ w', S w' ↔ w'.heap[p]? = w2.heap[p]? ∧ w'.heap[w.heap.size]? = w2.heap[w.heap.size]? := ⟨_, fun _ => Iff.rfl⟩
  have hS : S w2.drew := (hSd _).2 ⟨rfl, rfl⟩
  haveI : Nonempty (Met S) := ⟨⟨w2.drew, hS⟩⟩
  have h2 : ∀ z : Met S, z.w.cell? ⟨p, 2, none⟩ = some (.slice ao B.l.length cap) := fun z => by rw [← HV.out]; exact (hh2.of_block ((hSd _).1 z.ok).1).cell 2
  have q0 : ∀ z : Met S, z.w.cell? ⟨w.heap.size, 0, none⟩ = some (.int .i64 i) := fun z => (hd2.of_block ((hSd _).1 z.ok).2).cell 0
  have q1 : ∀ z : Met S, z.w.cell? ⟨w.heap.size, 1, none⟩ = some (.int .i64 a) := fun z => (hd2.of_block ((hSd _).1 z.ok).2).cell 1
  have q2 : ∀ z : Met S, z.w.cell? ⟨w.heap.size, 2, none⟩ = some (.int .i64 b) := fun z => (hd2.of_block ((hSd _).1 z.ok).2).cell 2
  have q3 : ∀ z : Met S, z.w.cell? ⟨w.heap.size, 3, none⟩ = some (.int .i64 s) := fun z => (hd2.of_block ((hSd _).1 z.ok).2).cell 3
  have q4 : ∀ z : Met S, z.w.cell? ⟨w.heap.size, 4, none⟩ = some (.int .i64 c) := fun z => (hd2.of_block ((hSd _).1 z.ok).2).cell 4
  have q5 : ∀ z : Met S, z.w.cell? ⟨w.heap.size, 5, none⟩ = some (.int .i64 x) := fun z => (hd2.of_block ((hSd _).1 z.ok).2).cell 5
  have q6 : ∀ z : Met S, z.w.cell? ⟨w.heap.size, 6, none⟩ = some (.int .i64 y) := fun z => (hd2.of_block ((hSd _).1 z.ok).2).cell 6
  refine wp_region_sched (S) [11] ([0, 1, 2, 3, 4, 5, 6].map (fun i => (i, 1)) ++ ((7, 2) :: (8, 2) :: ([9, 10].map (fun i => (i, 1)) ++ [(11, 2)]))) (by kernel_rfl) (by kernel_rfl) (fun dst _ _ _ _ h => by cases dst <;> exact h) ?_
  refine wpS_take [0, 1, 2, 3, 4, 5, 6] (hS) (by kernel_rfl) (by kernel_rfl) ?_
  simp only [List.filterMap_cons, List.filterMap_nil, List.getElem?_toArray, List.getElem?_cons_zero, List.getElem?_cons_succ]
  show wpQuiet _ _ _ _ [_, _, _, _, _, _, _] _
  repeat (any_goals (first | go_big_quiet_step ((fail)) | quiet_step ((fail)) | (refine wpQuiet_step (fun K hK => ?_); go_simp; split <;> (refine hK _ ?_; clear hK K))))
  all_goals (refine wpQuiet_nil ?_)
  refine wpS_do rfl (fun K hK => ?_)
  go_simp
  have hl2w : w.heap.size < w2.heap.size := by rw [HZ.out]; have := hd.lt; simpa using this
  have hpw : p < w2.heap.size := Nat.lt_trans hp hl2w
  refine hK _ _ (fun _ _ => (hSd _).2 ⟨heap_alloc_far _ _ hpw, heap_alloc_far _ _ hl2w⟩) ?_
  clear hK K
  have hrow2 : w2.ownsRow 0 65 10 (.slice ao B.l.length cap) B.l.length (flatE B.l) := by
    rw [← HV.out]
    exact ownsRow_of_block hr.row (fun g hg => hk2 g (fun e => hr.a3 (by rw [hg, e])))
  have hvp : (Value.slice ao B.l.length cap).ownBlock ≠ some p := by rw [← HV.out]; exact h.a2
  have hvd : (Value.slice ao B.l.length cap).ownBlock ≠ some w.heap.size := by
    rw [← HV.out]; intro e; have := (h.row.lt _ e).2; omega
  obtain ⟨i0, hi, hz0, hz1, hz2⟩ := info_parts info_entry
  refine wpS_do rfl (fun K hK => ?_)
  refine step_append_lies _ rfl (.tmp 44) (.tmp 47) 54 rfl 0 65 i0 _ 10 80 Try.underlying54 hi hz0 hz1 hz2 rfl (by decide) (.slice ao B.l.length cap) B.l.length (flatE B.l) rfl ((hrow2.alloc _).drew) ⟨w2.heap.size, 0, none⟩ 1 1 (DL.En.cs ⟨⟨i,a,b,s,c,x,y⟩, 1, 0, 0⟩) rfl rfl (World.news_of_block (cs := (DL.En.cs ⟨⟨i,a,b,s,c,x,y⟩, 1, 0, 0⟩).toArray) (t := 65) (fr := (0, 0)) (heap_alloc_new w2 _)) (by simp [DL.En.cs, Value.oneCell']) (by omega) (by unfold maxLen; omega) (by omega) (Nat.zero_le _) (w2.heap.size + 1) (by simp) ?_
  intro g cap' w3 hown3 hgrow hat hlt
  have hk3 : ∀ k, k < w2.heap.size → (Value.slice ao B.l.length cap).ownBlock ≠ some k → w3.heap[k]? = w2.heap[k]? := fun k hk hne =>
    (hgrow.block k (by simp; omega) (Ne.symm hne)).trans (heap_alloc_far _ _ hk)
  have hS3 : S w3 := (hSd _).2 ⟨hk3 p hpw hvp, hk3 _ hl2w hvd⟩
  refine hK _ _ (fun _ _ => hS3) ?_
  clear hK K
  have hh3 : Has w3 p [.int .i64 B.m, .int .i64 B.c, v, .map (some mp), .int .i64 B.k] 56 := hh2.of_block (hk3 p hpw hvp)
  have c2 : w3.cell? ⟨p, 2, none⟩ = some (.slice ao B.l.length cap) := by rw [← HV.out]; exact hh3.cell 2
  have f2 : w3.frozen? ⟨p, 2, none⟩ = false := hh3.free 2
  refine wpS_take [9, 10] (hS3) (by kernel_rfl) (by kernel_rfl) ?_
  simp only [List.filterMap_cons, List.filterMap_nil, List.getElem?_toArray, List.getElem?_cons_zero, List.getElem?_cons_succ]
  show wpQuiet _ _ _ _ [_, _] _
  repeat (any_goals (first | go_big_quiet_step ((fail)) | quiet_step ((fail)) | (refine wpQuiet_step (fun K hK => ?_); go_simp; split <;> (refine hK _ ?_; clear hK K))))
  all_goals (refine wpQuiet_nil ?_)
  refine wpS_do rfl (fun K hK => ?_)
  go_simp
  refine hK _ _ (fun hh _ => by simp at hh) ?_
  clear hK K
  refine wpS_nil ?_
  go_wp2_with fail
  have hgp : g ≠ p := by
    rintro rfl
    rcases hat with hat | hat
    · exact hvp hat
    · omega
  have hgm : g ≠ mp := by
    rintro rfl
    rcases hat with hat | hat
    · exact h.a3 (by rw [HV.out]; exact hat)
    · have := h.map.lt; omega
  go_ret2
  refine ⟨rfl, .slice (some ⟨g, 0, none⟩) (B.l.length + 1) cap', ?_, ?_, ?_⟩
  · refine ⟨hh3.set 2 _, ?_, ?_, h.a1, ?_, ?_⟩
    · have e1 : flatE (B.l ++ [⟨⟨i,a,b,s,c,x,y⟩, 1, 0, 0⟩]) = flatE B.l ++ (DL.En.cs ⟨⟨i,a,b,s,c,x,y⟩, 1, 0, 0⟩) := by simp [flatE]
      have e2 : (B.l ++ [(⟨⟨i,a,b,s,c,x,y⟩, 1, 0, 0⟩ : En)]).length = B.l.length + 1 := by simp
      show World.ownsRow _ 0 _ 10 _ (B.l ++ [_]).length (flatE (B.l ++ [_]))
      rw [e1, e2]
      exact ownsRow_of_block hown3 (fun k hk => heap_setCell_far _ _ _ (fun e => hgp (by simpa [Value.ownBlock, e] using hk)))
    · have hmp : mp < w2.heap.size := Nat.lt_trans h.map.lt hl2w
      have hm3 := (hmap.of_block (w' := w3) (hk3 mp hmp (by rw [← HV.out]; exact h.a3))).of_block (w' := w3.setCell ⟨p, 2, none⟩ (.slice (some ⟨g, 0, none⟩) (B.l.length + 1) cap')) (heap_setCell_far _ _ _ h.a1)
      have ef : (fun m => if m = i then some (Value.int .i64 (B.l.length : Nat)) else (idx B.l m).map (fun i => Value.int .i64 (i : Nat))) = fun id => (idx (B.l ++ [⟨⟨i,a,b,s,c,x,y⟩, 1, 0, 0⟩]) id).map (fun i => Value.int .i64 (i : Nat)) := by
        funext id
        rw [idx_push (e := ⟨⟨i,a,b,s,c,x,y⟩, 1, 0, 0⟩) HN.out]
        show _ = Option.map _ (if id = i then _ else _)
        split <;> rfl
      rw [ef] at hm3
      exact hm3
    · intro e; exact hgp (by simpa [Value.ownBlock] using e)
    · intro e; exact hgm (by simpa [Value.ownBlock] using e)
  · refine ⟨hgrow.os.trans (ho2.trans hb1.os), hgrow.tape.trans (ht2.trans hb1.tape), hgrow.output.trans (hu2.trans hb1.output), ?_, ?_⟩
    · have := hgrow.size; simp at this ⊢; omega
    · intro k hk hf
      have n1 : p ≠ k := fun e => hf (.inl e.symm)
      have n2 : k ≠ mp := fun e => hf (.inr (.inl e))
      have n3 : (Value.slice ao B.l.length cap).ownBlock ≠ some k := fun e => hf (.inr (.inr (by rw [HV.out]; exact e)))
      rw [heap_setCell_far _ _ _ n1, hk3 k (Nat.lt_trans hk hl2w) n3, hk2 k n2]
      exact hb1.block k hk
  · intro g' hg'
    have : g' = g := by simpa [Value.ownBlock] using hg'.symm
    subst this
    rcases hat with hat | hat
    · exact .inl (by rw [HV.out]; exact hat)
    · right; omega

end
end Go.Proofs.Ytbeolkjegipldaa
