/- Calls of a book that look an instruction up. -/
import Derived.Test.YtbeolkjegipldaaDeal1
namespace Go.Proofs.Ytbeolkjegipldaa
open Go.RowKit DL

theorem BookRep.find {w : World} {p : Nat} {B : Bk} {v : Value} {mp : Nat} (h : BookRep w p B v mp) {i : Nat} {id : Int} (hi : idx B.l id = some i) :
    ∃ g cap, v = .slice (some ⟨g, 0, none⟩) B.l.length cap ∧ i < B.l.length ∧ B.l.length ≤ cap ∧ g < w.heap.size ∧
      (∀ j, j < 10 → w.cell? ⟨g, i * 10 + j, none⟩ = (nth B.l i).cs[j]?) ∧ (∀ k, w.frozen? ⟨g, k, none⟩ = false) := by
  have hl := (idx_some hi).1
  rcases h.row.2 with ⟨_, h0⟩ | ⟨g, cap, cur, hv, _, hg, hle, _, hs, ht⟩
  · omega
  · refine ⟨g, cap, hv, hl, hle, lt_of_block hg, ?_, ?_⟩
    · intro j hj
      rw [cell_of_row w g _ _ _ _ hg]
      rw [← flatE_get B.l i j hl hj, ← ht, List.getElem?_take]
      rw [if_pos (by omega)]
      simp
    · intro k; simp [World.frozen?, hg]

theorem BookRep.frozen {w : World} {p : Nat} {B : Bk} {g len cap mp : Nat} (h : BookRep w p B (.slice (some ⟨g, 0, none⟩) len cap) mp) (k : Nat) : w.frozen? ⟨g, k, none⟩ = false := by
  rcases h.row.2 with ⟨hv, _⟩ | ⟨g', cap', cur, hv, _, hg, _⟩
  · simp at hv
  · simp at hv
    obtain ⟨rfl, _⟩ := hv
    simp [World.frozen?, hg]

set_option maxHeartbeats 400000 in
theorem find_none {w : World} {p : Nat} {B : Bk} {v : Value} {mp : Nat} (h : BookRep w p B v mp) (id : Int) (hi : idx B.l id = none) :
    Calls Try.prog 40 #[.pointer (some ⟨p, 0, none⟩), .int .i64 id] w fun e w' => e = .returned (.pointer none) ∧ w' = w := by
  have hc := h.hdr.cell 3
  simp only [List.getElem?_cons_succ, List.getElem?_cons_zero] at hc
  have hl := run_lookup_ok (P := Try.prog) (w := w) (T := 53) (K := 3) (E := 3) Try.underlying53 Try.underlying3 (z := .int .i64 0) (by kernel_rfl) h.map id
  simp only [hi, Option.map_none, Option.getD_none, Option.isSome_none] at hl
  go_enter Try.func40, Try.ntmps40
  go_wp2
  go_ret
  exact ⟨rfl, rfl⟩

set_option maxHeartbeats 400000 in
theorem find_some {w : World} {p : Nat} {B : Bk} {mp : Nat} {g len cap : Nat} (h : BookRep w p B (.slice (some ⟨g, 0, none⟩) len cap) mp) (id : Int) {i : Nat} (hi : idx B.l id = some i) (hlen : i < len) :
    Calls Try.prog 40 #[.pointer (some ⟨p, 0, none⟩), .int .i64 id] w fun e w' => e = .returned (.pointer (some ⟨g, i * 10, none⟩)) ∧ w' = w := by
  have hc := h.hdr.cell 3
  have hc2 := h.hdr.cell 2
  simp only [List.getElem?_cons_succ, List.getElem?_cons_zero] at hc hc2
  have hl := run_lookup_ok (P := Try.prog) (w := w) (T := 53) (K := 3) (E := 3) Try.underlying53 Try.underlying3 (z := .int .i64 0) (by kernel_rfl) h.map id
  simp only [hi, Option.map_some, Option.getD_some, Option.isSome_some] at hl
  clear hi
  go_enter Try.func40, Try.ntmps40
  go_wp2
  go_ret
  exact ⟨rfl, rfl⟩


def whoI (a b st mem : Int) : Int := if mem = a then 1 else if mem = b ∧ st ≠ 1 then 2 else 0

set_option maxHeartbeats 400000 in
theorem who_any (g o : Nat) (a b st mem : Int) (w : World) (h1 : w.cell? ⟨g, o + 1, none⟩ = some (.int .i64 a)) (h2 : w.cell? ⟨g, o + 2, none⟩ = some (.int .i64 b)) (h7 : w.cell? ⟨g, o + 7, none⟩ = some (.int .i64 st)) :
    Calls Try.prog 46 #[.pointer (some ⟨g, o, none⟩), .int .i64 mem] w fun e w' => e = .returned (.int .i64 (whoI a b st mem)) ∧ w' = w := by
  go_enter Try.func46, Try.ntmps46
  go_wp2
  all_goals
    go_ret
    refine ⟨ret_int ?_, rfl⟩
    go_light
    simp_all [whoI]

set_option maxHeartbeats 400000 in
theorem mirror_any (i a b s c x y : Int) (w : World) :
    Calls Try.prog 45 #[.agg #[.int .i64 i, .int .i64 a, .int .i64 b, .int .i64 s, .int .i64 c, .int .i64 x, .int .i64 y]] w fun e w' =>
      e = .returned (.agg #[.int .i64 i, .int .i64 b, .int .i64 a, .int .i64 c, .int .i64 s, .int .i64 y, .int .i64 x]) ∧ Below w.heap.size w w' := by
  go_enter Try.func45, Try.ntmps45
  go_wp2
  refine bodyPost_ret (v := .agg #[.int .i64 i, .int .i64 b, .int .i64 a, .int .i64 c, .int .i64 s, .int .i64 y, .int .i64 x]) (by simp [results, Try.results45, go_sem]) rfl ⟨rfl, ?_⟩
  (repeat (first | exact Below.refl _ _ | assumption | refine below_drewN ?_ _ | refine Below.drew ?_ | refine Below.alloc ?_ (by simp) _ | refine Below.setCell ?_ (by simp) _))

end Go.Proofs.Ytbeolkjegipldaa
