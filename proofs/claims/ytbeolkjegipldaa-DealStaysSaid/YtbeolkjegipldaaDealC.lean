/- All. -/
import Derived.Test.YtbeolkjegipldaaDealB
namespace Go.Proofs.Ytbeolkjegipldaa
open Go.RowKit DL

def isSt (s : Int) (e : En) : Bool := decide (e.st = s)
def DL.Bk.sel (B : Bk) (s : Int) (k : Nat) : List En := (B.l.take k).filter (isSt s)
theorem sel_succ (B : Bk) (s : Int) (k : Nat) (hk : k < B.l.length) : B.sel s (k + 1) = if (nth B.l k).st = s then B.sel s k ++ [nth B.l k] else B.sel s k := by
  simp only [DL.Bk.sel]
  rw [List.take_succ_eq_append_getElem hk, List.filter_append, nth_getElem hk]
  split <;> simp_all [isSt]
theorem sel_len (B : Bk) (s : Int) (k : Nat) : (B.sel s k).length ≤ k := by
  simp only [DL.Bk.sel]
  exact Nat.le_trans (List.length_filter_le _ _) (by simp; omega)
theorem sel_all (B : Bk) (s : Int) : B.sel s B.l.length = B.l.filter (isSt s) := by simp [DL.Bk.sel]

structure SelRel (w : World) (B : Bk) (s : Int) (u i : Value) (wr : World) : Prop where
  ex : ∃ k : Nat, k ≤ B.l.length ∧ i = .int .i64 k ∧ EntsNew w wr u (B.sel s k)
  bel : Below w.heap.size w wr

structure OutRel (w w1 : World) (F : List En) (u i : Value) (wr : World) : Prop where
  ex : ∃ k : Nat, k ≤ F.length ∧ i = .int .i64 k ∧ IntsNew w1 wr u ((F.take k).map (·.d.id))
  bel : Below w1.heap.size w1 wr

def AllPost (w : World) (l : List Int) (e : Ending) (w' : World) : Prop := ∃ o, e = .returned o ∧ IntsNew w w' o l ∧ Below w.heap.size w w'

theorem IntsNew.up {w w1 w' : World} {v : Value} {l : List Int} (h : IntsNew w1 w' v l) (hs : w.heap.size ≤ w1.heap.size) : IntsNew w w' v l := by
  refine ⟨h.1, h.2.imp_right ?_⟩
  rintro ⟨g, cap, cur, hv, hb, hr⟩
  exact ⟨g, cap, cur, hv, Nat.le_trans hs hb, hr⟩

theorem ids_succ (F : List En) (k : Nat) (hk : k < F.length) : (F.take (k + 1)).map (·.d.id) = (F.take k).map (·.d.id) ++ [(nth F k).d.id] := by
  rw [List.take_succ_eq_append_getElem hk, List.map_append, nth_getElem hk]; rfl

theorem EntsNew.cells {w w1 : World} {v : Value} {F : List En} (h : EntsNew w w1 v F) {i : Nat} (hl : i < F.length) :
    ∃ g cap, v = .slice (some ⟨g, 0, none⟩) F.length cap ∧ F.length ≤ cap ∧ g < w1.heap.size ∧ (∀ j, j < 10 → w1.cell? ⟨g, i * 10 + j, none⟩ = (nth F i).cs[j]?) := by
  rcases h.2 with ⟨_, h0⟩ | ⟨g, cap, cur, hv, _, hg, hle, _, hs, ht⟩
  · omega
  · refine ⟨g, cap, hv, hle, lt_of_block hg, ?_⟩
    intro j hj
    rw [cell_of_row w1 g _ _ _ _ hg]
    rw [← flatE_get F i j hl hj, ← ht, List.getElem?_take]
    rw [if_pos (by omega)]
    simp

theorem EntsNew.shape {w w1 : World} {v : Value} {F : List En} (h : EntsNew w w1 v F) : ∃ a cap, v = .slice a F.length cap := by
  rcases h.2 with ⟨hv, h0⟩ | ⟨g, cap, cur, hv, _⟩
  · exact ⟨none, 0, by rw [hv, h0]⟩
  · exact ⟨_, _, hv⟩

section
variable {w : World} {p : Nat} {B : Bk} {v : Value} {mp : Nat} (h : BookRep w p B v mp)
include h

set_option maxHeartbeats 4000000 in
set_option maxRecDepth 100000 in
theorem all_any (s : Int) (hI : B.Inv) :
    Calls Try.prog 14 #[.pointer (some ⟨p, 0, none⟩), .int .i64 s] w (AllPost w (B.all s)) := by
  obtain ⟨ao, cap, hv⟩ := h.slice
  have hlen := hI.len
  obtain ⟨L, hL⟩ : ∃ L, B.l.length = L := ⟨_, rfl⟩
  rw [hL] at hv hlen
  have hp := h.hdr.lt
  have h2 : ∀ wx, Below w.heap.size w wx → wx.cell? ⟨p, 2, none⟩ = some (.slice ao L cap) := fun wx hb => by rw [← hv]; exact (h.below hb).hdr.cell 2
  have h2w := h2 w (Below.refl _ _)
  have HV := Lib.hid hv
  have HL := Lib.hid hL
  clear hv hL h2
  go_enter Try.func14, Try.ntmps14
  go_wp2_with fail
  go_loopw [5, 16] (fun u i wr => SelRel w B s u i wr) (fun _ i _ => L - (intOf i).toNat)
  case atStart => exact ⟨⟨0, Nat.zero_le _, rfl, World.ownsRow_nil _ _ _ _⟩, Below.refl _ _⟩
  case round =>
    obtain ⟨⟨k, hk, rfl, hr⟩, hbr⟩ := hrel
    by_cases hlt : k < L
    · have hlt' : k < B.l.length := by rw [HL.out]; exact hlt
      obtain ⟨g, cap', hv', hle, hg, hc⟩ := (h.below hbr).entry hlt'
      have hvv := HV.out
      rw [hvv, HL.out] at hv'
      obtain ⟨rfl, hcc⟩ : ao = some ⟨g, 0, none⟩ ∧ cap = cap' := by simpa using hv'
      have q0 := hc 0 (by omega)
      have q1 := hc 1 (by omega)
      have q2 := hc 2 (by omega)
      have q3 := hc 3 (by omega)
      have q4 := hc 4 (by omega)
      have q5 := hc 5 (by omega)
      have q6 := hc 6 (by omega)
      have q7 := hc 7 (by omega)
      have q8 := hc 8 (by omega)
      have q9 := hc 9 (by omega)
      simp only [DL.En.cs, List.getElem?_cons_succ, List.getElem?_cons_zero, Nat.add_zero] at q0 q1 q2 q3 q4 q5 q6 q7 q8 q9
      have hm1 := sel_succ B s k hlt'
      have hm2 := sel_len B s k
      have hbs := hbr.size
      by_cases hh : (nth B.l k).st = s
      · rw [if_pos hh] at hm1
        have hst : ((nth B.l k).st == s) = true := by simp [hh]
        have HM1 := Lib.hid hm1
        have hcs : (nth B.l k).cs = [.int .i64 (nth B.l k).d.id, .int .i64 (nth B.l k).d.a, .int .i64 (nth B.l k).d.b, .int .i64 (nth B.l k).d.sc, .int .i64 (nth B.l k).d.bc, .int .i64 (nth B.l k).d.sell, .int .i64 (nth B.l k).d.buy, .int .i64 (nth B.l k).st, .int .i64 (nth B.l k).ak, .int .i64 (nth B.l k).od] := rfl
        have HC := Lib.hid hcs
        clear hm1 hc hcc hvv hv' hle hh hcs
        generalize (nth B.l k).d.id = x0 at *
        generalize (nth B.l k).d.a = x1 at *
        generalize (nth B.l k).d.b = x2 at *
        generalize (nth B.l k).d.sc = x3 at *
        generalize (nth B.l k).d.bc = x4 at *
        generalize (nth B.l k).d.sell = x5 at *
        generalize (nth B.l k).d.buy = x6 at *
        generalize (nth B.l k).st = x7 at *
        generalize (nth B.l k).ak = x8 at *
        generalize (nth B.l k).od = x9 at *
        obtain ⟨i0, hi, hz0, hz1, hz2⟩ := info_parts info_entry
        go_wp2_with (at_builtin; go_must (refine wpList_append_lies _ rfl (.tmp 24) (.tmp 26) 54 rfl w.heap.size 65 i0 _ 10 80 Try.underlying54 hi hz0 hz1 hz2 rfl (by decide) u5 (B.sel s k).length (flatE (B.sel s k)) rfl ((hr.alloc _).alloc _) ⟨wr.heap.size + 1, 0, none⟩ 1 1 [.int .i64 x0, .int .i64 x1, .int .i64 x2, .int .i64 x3, .int .i64 x4, .int .i64 x5, .int .i64 x6, .int .i64 x7, .int .i64 x8, .int .i64 x9] rfl rfl (by simpa using World.news_of_block (heap_alloc_new (wr.alloc _) (.cells #[.int .i64 x0, .int .i64 x1, .int .i64 x2, .int .i64 x3, .int .i64 x4, .int .i64 x5, .int .i64 x6, .int .i64 x7, .int .i64 x8, .int .i64 x9] 65))) (by simp [Value.oneCell']) (by omega) (by unfold maxLen; omega) (by omega) (by simp; omega) _ rfl ?_); intro g2 cap2 w2 hown2 hgrow2 hat2 hlt2)
        go_roundw
        case rel =>
          refine ⟨⟨k + 1, by omega, by go_num, ?_⟩, ?_⟩
          · have e1 : flatE (B.sel s k ++ [nth B.l k]) = flatE (B.sel s k) ++ (nth B.l k).cs := by simp [flatE]
            rw [HM1.out]
            show World.ownsRow _ _ _ _ _ (_ ++ [_]).length (flatE (_ ++ [_]))
            rw [e1, List.length_append, HC.out]
            exact hown2
          · exact ((((Keeps.of_below (F := fun _ => False) hbr).alloc _).alloc _).grown hgrow2 (fun q hq => .inl (World.ownsRow.lt hr q hq).1)).below (fun k hk => ⟨hk, id⟩)
        case measure => simp [intOf]; omega
      · rw [if_neg hh] at hm1
        have hst : ((nth B.l k).st == s) = false := by simp [hh]
        have HM1 := Lib.hid hm1
        clear hm1 hc hcc hvv hv' hle hh
        generalize (nth B.l k).st = x7 at *
        go_wp2_with fail
        go_roundw
        case rel => exact ⟨⟨k + 1, by omega, by go_num, by rw [HM1.out]; exact World.ownsRow.alloc hr _⟩, hbr.alloc hbs _⟩
        case measure => simp [intOf]; omega
    · obtain rfl : k = L := by have := HL.out; omega
      have hsa := sel_all B s
      rw [HL.out] at hsa
      have HSA := Lib.hid hsa
      have hsz : (B.sel s k).length ≤ 200 := Nat.le_trans (sel_len B s k) hlen
      generalize B.sel s k = F at *
      clear hsa
      obtain ⟨a1, c1, rfl⟩ := hr.shape
      have hcs : s = 2 ∨ s ≠ 2 := by omega
      rcases hcs with hs2 | hs2
      case' inl =>
        subst hs2
        have hso := sort_ents hbr hr hsz
        go_wp2_with (go_at_call 34; go_must (refine hso.mono ?_; rintro e w1 ⟨rfl, F2, hl2, hr2, hpe, hpw, hb1⟩))
        have hal := all_sorted hI F2 (by have e := HSA.out; rw [e] at hpe; exact hpe) hpw
        rw [← hl2] at hr2
        rw [← hl2]
        have hn2 : F2.length ≤ 200 := by omega
        clear hso hpe hpw
      case' inr =>
        have hs2' : (s == 2) = false := by simp [hs2]
        have hal : F.map (·.d.id) = B.all s := by rw [HSA.out, Bk.all, if_neg hs2]; rfl
        obtain ⟨F2, hl2⟩ : ∃ F2, F2 = F := ⟨_, rfl⟩
        rw [← hl2] at hal hr
        obtain ⟨w1, hw1⟩ : ∃ w1 : World, w1 = wr := ⟨_, rfl⟩
        have hb1 := hbr
        have hr2 := hr
        have hn2 : F2.length ≤ 200 := by rw [hl2]; exact hsz
        rw [← hw1] at hb1 hr2
        go_wp2_with fail
        rw [← hl2, ← hw1]
      all_goals
        obtain ⟨N, hN⟩ : ∃ N, F2.length = N := ⟨_, rfl⟩
        have hb2 := hb1.size
        rw [hN] at hr2 hn2 ⊢
        have HN := Lib.hid hN
        have HAL := Lib.hid hal
        have HL2 := Lib.hid hl2
        clear hN hal hl2 hr hbr
        go_wp2_with fail
        go_loopw [8, 35] (fun u i wr => OutRel w w1 F2 u i wr) (fun _ i _ => N - (intOf i).toNat)
        case atStart => exact ⟨⟨0, Nat.zero_le _, rfl, World.ownsRow_nil _ _ _ _⟩, Below.refl _ _⟩
        case round =>
          obtain ⟨⟨j, hj, rfl, ho⟩, hbo⟩ := hrel
          by_cases hjn : j < N
          · have hjn' : j < F2.length := by rw [HN.out]; exact hjn
            obtain ⟨g, cap', hv', hle, hg, hc⟩ := hr2.cells hjn'
            rw [HN.out] at hv'
            obtain ⟨rfl, hcc⟩ : a1 = some ⟨g, 0, none⟩ ∧ c1 = cap' := by simpa using hv'
            have hc' : ∀ t, t < 10 → wr.cell? ⟨g, j * 10 + t, none⟩ = (nth F2 j).cs[t]? := fun t ht => (hbo.cell (p := ⟨g, j * 10 + t, none⟩) hg).trans (hc t ht)
            have q0 := hc' 0 (by omega)
            have q1 := hc' 1 (by omega)
            have q2 := hc' 2 (by omega)
            have q3 := hc' 3 (by omega)
            have q4 := hc' 4 (by omega)
            have q5 := hc' 5 (by omega)
            have q6 := hc' 6 (by omega)
            have q7 := hc' 7 (by omega)
            have q8 := hc' 8 (by omega)
            have q9 := hc' 9 (by omega)
            simp only [DL.En.cs, List.getElem?_cons_succ, List.getElem?_cons_zero, Nat.add_zero] at q0 q1 q2 q3 q4 q5 q6 q7 q8 q9
            have hm1 := ids_succ F2 j hjn'
            have hm2 : ((F2.take j).map (·.d.id)).length ≤ j := by simp; omega
            have HM1 := Lib.hid hm1
            have hbs := hbo.size
            clear hm1 hc hc' hcc hv' hle
            generalize (nth F2 j).d.id = x0 at *
            generalize (nth F2 j).d.a = x1 at *
            generalize (nth F2 j).d.b = x2 at *
            generalize (nth F2 j).d.sc = x3 at *
            generalize (nth F2 j).d.bc = x4 at *
            generalize (nth F2 j).d.sell = x5 at *
            generalize (nth F2 j).d.buy = x6 at *
            generalize (nth F2 j).st = x7 at *
            generalize (nth F2 j).ak = x8 at *
            generalize (nth F2 j).od = x9 at *
            generalize (F2.take j).map (·.d.id) = ids at *
            obtain ⟨i0, hi, hz0, hz1, hz2⟩ := info_parts info_int
            go_wp2_with (at_builtin; go_must (refine wpList_append_lies _ rfl (.tmp 39) (.tmp 43) 38 rfl w1.heap.size 3 i0 (.int .i64 0) 1 8 Try.underlying38 hi hz0 hz1 hz2 rfl (by decide) u8 _ _ rfl (World.ownsRow.alloc (World.ownsRow.alloc ho _) _) ⟨_, 0, none⟩ 1 1 [_] rfl rfl (news_one _ _ _ (by simp)) (by simp [Value.oneCell']) (by omega) (by unfold maxLen; omega) (by omega) (by simp; omega) _ rfl ?_); intro g2 cap2 w2 hown2 hgrow2 hat2 hlt2)
            go_roundw
            case rel =>
              refine ⟨⟨j + 1, by omega, by go_num, ?_⟩, ?_⟩
              · rw [HM1.out]
                show World.ownsRow _ _ _ _ _ (_ ++ [_]).length (List.map _ (_ ++ [_]))
                rw [List.length_append, List.map_append]
                exact hown2
              · exact ((((Keeps.of_below (F := fun _ => False) hbo).alloc _).alloc _).grown hgrow2 (fun q hq => .inl (World.ownsRow.lt ho q hq).1)).below (fun k hk => ⟨hk, id⟩)
            case measure => simp [intOf]; omega
          · obtain rfl : j = N := by have := HN.out; omega
            go_wp2_with fail
            go_ret
            refine ⟨_, rfl, ?_, hb1.trans (hbo.mono hb2)⟩
            rw [List.take_of_length_le (by rw [HN.out]; exact Nat.le_refl _), HAL.out] at ho
            exact ho.up hb2

end
end Go.Proofs.Ytbeolkjegipldaa
