/- New; are lists the same?; could an entry be so? -/
import Derived.Test.YtbeolkjegipldaaDeal9
namespace Go.Proofs.Ytbeolkjegipldaa
open Go.RowKit DL

/-- A slice that reads as ints. -/
def IntsR (w : World) (v : Value) (l : List Int) : Prop :=
  ∃ a cap, v = .slice a l.length cap ∧ (l = [] ∨ ∃ g o, a = some ⟨g, o, none⟩ ∧ g < w.heap.size ∧ ∀ i, i < l.length → w.cell? ⟨g, o + i, none⟩ = some (.int .i64 (l.getD i 0)))

theorem IntsR.of_row {w : World} {base : Nat} {v : Value} {l : List Int} (h : w.ownsRow base 3 1 v l.length (l.map (Value.int .i64))) : IntsR w v l := by
  rcases h.2 with ⟨hv, h0⟩ | ⟨g, cap, cur, hv, _, hg, hle, _, hs, ht⟩
  · exact ⟨none, 0, by rw [hv, h0], .inl (List.length_eq_zero_iff.1 h0)⟩
  · refine ⟨_, cap, hv, .inr ⟨g, 0, rfl, lt_of_block hg, fun i hi => ?_⟩⟩
    rw [cell_of_row w g _ _ _ _ hg]
    have h1 : (cur.toList.take (l.length * 1))[i]? = (l.map (Value.int .i64))[i]? := by rw [ht]
    rw [List.getElem?_take, if_pos (by omega)] at h1
    simp at h1
    simp [h1, List.getElem?_eq_getElem hi]

theorem IntsR.below {w w' : World} {v : Value} {l : List Int} (h : IntsR w v l) (hb : Below w.heap.size w w') : IntsR w' v l := by
  obtain ⟨a, cap, hv, h⟩ := h
  refine ⟨a, cap, hv, h.imp id ?_⟩
  rintro ⟨g, o, ha, hg, hc⟩
  exact ⟨g, o, ha, Nat.lt_of_lt_of_le hg hb.size, fun i hi => (hb.cell (p := ⟨g, o + i, none⟩) hg).trans (hc i hi)⟩

theorem getD_take_succ {l : List Int} {k : Nat} (h : k < l.length) : l.take (k + 1) = l.take k ++ [l.getD k 0] := by
  rw [List.take_succ_eq_append_getElem h]; simp [List.getD_eq_getElem?_getD, List.getElem?_eq_getElem h]

def SameRel (w : World) (l l' : List Int) (i : Value) (wr : World) : Prop :=
  ∃ k : Nat, k ≤ l.length ∧ i = .int .i64 k ∧ l.take k = l'.take k ∧ Below w.heap.size w wr

def SamePost (w : World) (r : Bool) (e : Ending) (w' : World) : Prop := e = .returned (.bool r) ∧ Below w.heap.size w w'

set_option maxHeartbeats 2000000 in
set_option maxRecDepth 100000 in
theorem same_any (w : World) (v u : Value) (l l' : List Int) (hv : IntsR w v l) (hu : IntsR w u l') (hl : l.length ≤ 1000000) (hl' : l'.length ≤ 1000000) :
    Calls Try.prog 13 #[v, u] w (SamePost w (decide (l = l'))) := by
  obtain ⟨a, cap, rfl, hv⟩ := hv
  obtain ⟨a', cap', rfl, hu⟩ := hu
  by_cases hlen : l.length = l'.length
  · obtain ⟨n, hn⟩ : ∃ n, l.length = n := ⟨_, rfl⟩
    have hn' := hlen
    rw [hn] at hn' hl hv
    rw [← hn'] at hu
    rw [hn, ← hn']
    have HN := Lib.hid hn
    have HN' := Lib.hid hn'
    have hne : (((n : Nat) : Int) != ((n : Nat) : Int)) = false := by simp
    clear hlen hn hn' hl'
    go_enter Try.func13, Try.ntmps13
    go_wp2_with fail
    go_loopw [5] (fun i wr => SameRel w l l' i wr) (fun i _ => n - (intOf i).toNat)
    case atStart => exact ⟨0, Nat.zero_le _, rfl, rfl, Below.refl _ _⟩
    case round =>
      obtain ⟨k, hk, rfl, ht, hb⟩ := hrel
      by_cases hlt : k < n
      · obtain ⟨g, o, rfl, hg, hc⟩ := hv.resolve_left (fun e => by have := HN.out; rw [e] at this; simp at this; omega)
        obtain ⟨g', o', rfl, hg', hc'⟩ := hu.resolve_left (fun e => by have := HN'.out; rw [e] at this; simp at this; omega)
        have c1 : wr.cell? ⟨g, o + k, none⟩ = some (.int .i64 (l.getD k 0)) := (hb.cell (p := ⟨g, o + k, none⟩) hg).trans (hc k hlt)
        have c2 : wr.cell? ⟨g', o' + k, none⟩ = some (.int .i64 (l'.getD k 0)) := (hb.cell (p := ⟨g', o' + k, none⟩) hg').trans (hc' k hlt)
        have t1 := getD_take_succ (l := l) (k := k) (by rw [HN.out]; exact hlt)
        have t2 := getD_take_succ (l := l') (k := k) (by rw [← HN'.out]; exact hlt)
        have T1 := Lib.hid t1
        have T2 := Lib.hid t2
        have hk0 : (0 : Int) ≤ (k : Int) := by omega
        have hkn : (k : Int) < (n : Int) := by omega
        clear hc hc' t1 t2
        generalize hx : l.getD k 0 = x at *
        generalize hy : l'.getD k 0 = y at *
        clear hx hy
        by_cases hxy : x = y
        · subst hxy
          have hxx : (x != x) = false := by simp
          go_wp2_with fail
          refine wp_region_quiet_lit (by kernel_rfl) (by kernel_rfl) ?_
          repeat (any_goals (first | go_big_quiet_step ((fail)) | quiet_step ((fail)) | (refine wpQuiet_step (fun K hK => ?_); go_simp; split <;> (refine hK _ ?_; clear hK K))))
          all_goals (refine wpQuiet_nil ?_; intro _ hw'; obtain ⟨nq, hw''⟩ := hw'; subst hw'')
          go_wp2_with fail
          go_roundw
          case rel => exact ⟨k + 1, by rw [HN.out]; omega, by go_num, by rw [T1.out, T2.out, ht], below_drewN hb _⟩
          case measure => simp [intOf]; omega
        · have hxx : (x != y) = true := by simp [hxy]
          have hne : decide (l = l') = false := by
            rw [decide_eq_false_iff_not]; intro e; subst e
            have := T1.out.symm.trans T2.out
            simp at this; exact hxy this
          have HNE := Lib.hid hne
          clear hne
          go_wp2_with fail
          refine wp_region_quiet_lit (by kernel_rfl) (by kernel_rfl) ?_
          repeat (any_goals (first | go_big_quiet_step ((fail)) | quiet_step ((fail)) | (refine wpQuiet_step (fun K hK => ?_); go_simp; split <;> (refine hK _ ?_; clear hK K))))
          all_goals (refine wpQuiet_nil ?_; intro _ hw'; obtain ⟨nq, hw''⟩ := hw'; subst hw'')
          go_wp2_with fail
          go_ret
          exact ⟨by rw [HNE.out]; rfl, below_drewN hb _⟩
      · obtain rfl : k = n := by have := HN.out; omega
        have he : decide (l = l') = true := by
          rw [decide_eq_true_iff]
          rwa [List.take_of_length_le (by rw [HN.out]; exact Nat.le_refl _), List.take_of_length_le (by rw [← HN'.out]; exact Nat.le_refl _)] at ht
        have HE := Lib.hid he
        clear he
        go_wp2_with fail
        go_ret
        exact ⟨by rw [HE.out]; rfl, hb⟩
  · have he : decide (l = l') = false := by rw [decide_eq_false_iff_not]; intro e; exact hlen (by rw [e])
    rw [he]
    have hne : (((l.length : Nat) : Int) != ((l'.length : Nat) : Int)) = true := by simp; omega
    generalize l.length = n at *
    generalize l'.length = n' at *
    clear hv hu he hlen
    go_enter Try.func13, Try.ntmps13
    go_wp2_with fail
    go_ret
    exact ⟨rfl, Below.refl _ _⟩




end Go.Proofs.Ytbeolkjegipldaa
