/- slices.Sort at ints that the call owns. -/
import Derived.Test.YtbeolkjegipldaaDealD
namespace Go.Proofs.Ytbeolkjegipldaa
open Go.RowKit DL

def srt (zs : List Int) : List Int := zs.mergeSort fun x y => decide (x ≤ y)
theorem srt_perm (zs : List Int) : (srt zs).Perm zs := List.mergeSort_perm _ _
theorem srt_len (zs : List Int) : (srt zs).length = zs.length := (srt_perm zs).length_eq
theorem srt_sorted (zs : List Int) : (srt zs).Pairwise (fun a b => a ≤ b) := by
  have h := List.pairwise_mergeSort (le := fun (x y : Int) => decide (x ≤ y)) (by intro a b c; simp; omega) (by intro a b; simp; omega) zs
  exact h.imp (by intro a b; simp)

theorem srt_oneTo (zs : List Int) : srt zs = (List.range zs.length).map (fun (n : Nat) => (n : Int) + 1) ↔ zs.Perm ((List.range zs.length).map (fun (n : Nat) => (n : Int) + 1)) := by
  constructor
  · intro h
    rw [← h]
    exact (srt_perm zs).symm
  · intro h
    refine List.Perm.eq_of_pairwise (le := fun a b : Int => a ≤ b) (fun a b _ _ h1 h2 => by omega) (srt_sorted zs) ?_ ((srt_perm zs).trans h)
    refine List.Pairwise.map _ (fun a b h => ?_) (List.pairwise_lt_range (n := zs.length))
    omega

def SortIPost (w wr : World) (v : Value) (zs : List Int) (e : Ending) (w' : World) : Prop :=
  e = .returned (.tuple #[]) ∧ IntsNew w w' v (srt zs) ∧ Keeps (fun b => v.ownBlock = some b) wr w'

theorem sort_ints {w wr : World} {v : Value} {zs : List Int} (hr : IntsNew w wr v zs) (hsz : zs.length ≤ 200) :
    Calls Try.prog 41 #[v] wr (SortIPost w wr v zs) := by
  rcases hr.2 with ⟨rfl, h0⟩ | ⟨g, cap, cur, rfl, hgb, hg, hle, hcm, hs, ht⟩
  · refine (Try.slices_Sort_int_none none 0 wr).mono ?_
    rintro e w' ⟨rfl, rfl⟩
    have : zs = [] := List.eq_nil_of_length_eq_zero h0
    subst this
    exact ⟨rfl, by simpa [srt] using hr, Keeps.refl _ _⟩
  · have hH : Go.Sort.Holds (Value.int .i64) wr g 0 zs.toArray := by
      intro j hj
      simp at hj
      refine ⟨?_, by simp [World.frozen?, hg]⟩
      rw [Nat.zero_add, cell_of_row wr g _ _ _ _ hg]
      have h2 : (zs.map (Value.int .i64))[j]? = (cur.toList.take (zs.length * 1))[j]? := by rw [ht]
      rw [List.getElem?_take, if_pos (by omega)] at h2
      rw [← Array.getElem?_toList, ← h2, List.getElem?_map, List.getElem?_eq_getElem hj, getElem!_pos zs.toArray j (by simpa using hj)]
      simp
    refine (Try.slices_Sort_int g 0 cap zs wr hH (lt_of_block hg) (by omega)).mono ?_
    rintro e w' ⟨rfl, n, os, rfl⟩
    obtain ⟨d, hd⟩ : ∃ d, srt zs = d := ⟨_, rfl⟩
    have hdl : d.length = zs.length := by rw [← hd]; exact srt_len zs
    have hd' : (zs.mergeSort fun x y => decide (x ≤ y)) = d := hd
    rw [hd']
    refine ⟨rfl, ?_, rfl, rfl, rfl, by simp [Go.Sort.grow, Go.Sort.putRow, Go.Sort.mapBlock, Go.Sort.ahead], fun b hb hne => ?_⟩
    · rw [hd]
      refine ⟨by simp, .inr ⟨g, cap, Go.Sort.putCells (Value.int .i64) 0 d.toArray cur, by rw [hdl], hgb, ?_, by omega, hcm, by simp [Go.Sort.putCells, hs], ?_⟩⟩
      · have hlt := lt_of_block hg
        show (((wr.heap.modify g _) ++ os))[g]? = _
        rw [Array.getElem?_append_left (by simpa using hlt), Array.getElem?_modify, if_pos rfl, hg]
        rfl
      · apply List.ext_getElem?
        intro t
        rw [List.getElem?_take]
        by_cases htl : t < d.length
        · have hc : t < cur.size := by rw [hs]; omega
          simp [Go.Sort.putCells, hc, htl]
        · rw [if_neg (by omega), List.getElem?_eq_none (by simp; omega)]
    · show (((wr.heap.modify g _) ++ os))[b]? = _
      rw [Array.getElem?_append_left (by simpa using hb), Array.getElem?_modify, if_neg (fun e => hne (by simp [Value.ownBlock, e]))]

end Go.Proofs.Ytbeolkjegipldaa
