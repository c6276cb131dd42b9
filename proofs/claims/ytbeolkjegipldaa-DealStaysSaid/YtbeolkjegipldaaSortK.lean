/- The sort's words and a row that the call owns. -/
import Derived.Test.YtbeolkjegipldaaBase
import Derived.Shelf.SlSortCmp.WholeK
namespace Go.Proofs.Ytbeolkjegipldaa
open Go.RowKit

section
variable {α : Type} [Inhabited α]

omit [Inhabited α] in
theorem flatMap_len (enc : α → List Value) (k : Nat) (hk : ∀ x, (enc x).length = k) (l : List α) : (l.flatMap enc).length = l.length * k := by
  induction l with
  | nil => simp
  | cons a l ih => simp only [List.flatMap_cons, List.length_append, ih, hk, List.length_cons]; rw [Nat.succ_mul]; omega

theorem flatMap_get (enc : α → List Value) (k : Nat) (hk : ∀ x, (enc x).length = k) : ∀ (l : List α) (i j : Nat), i < l.length → j < k → (l.flatMap enc)[i * k + j]? = (enc (l[i]!))[j]?
  | [], i, j, hi, _ => by simp at hi
  | a :: l, 0, j, _, hj => by
    rw [List.flatMap_cons, Nat.zero_mul, Nat.zero_add, List.getElem?_append_left (by rw [hk]; exact hj)]
    rfl
  | a :: l, i + 1, j, hi, hj => by
    rw [List.flatMap_cons, List.getElem?_append_right (by rw [hk, Nat.succ_mul]; omega)]
    have e : (i + 1) * k + j - (enc a).length = i * k + j := by rw [hk, Nat.succ_mul]; omega
    rw [e, flatMap_get enc k hk l i j (by simpa using hi) hj]
    rfl

theorem flatK_toList (enc : α → List Value) (k : Nat) (hk : ∀ x, (enc x).length = k) (d : Array α) : (Go.Sort.flatK enc k d).toList = d.toList.flatMap enc := by
  apply List.ext_getElem?
  intro t
  by_cases ht : t < d.size * k
  · have hk0 : 0 < k := by
      rcases Nat.eq_zero_or_pos k with h | h
      · rw [h] at ht; simp at ht
      · exact h
    have h1 := Go.Sort.get_flatK enc k d t ht
    have hs : t < (Go.Sort.flatK enc k d).size := by rw [Go.Sort.size_flatK]; exact ht
    rw [getElem!_pos _ t hs] at h1
    have hi : t / k < d.size := Nat.div_lt_of_lt_mul (by rw [Nat.mul_comm]; exact ht)
    have hj : t % k < k := Nat.mod_lt _ hk0
    have h2 := flatMap_get enc k hk d.toList (t / k) (t % k) (by simpa using hi) hj
    have e : t / k * k + t % k = t := by rw [Nat.mul_comm]; exact Nat.div_add_mod t k
    rw [e] at h2
    rw [h2]
    have h3 : (Go.Sort.flatK enc k d).toList[t]? = some ((enc d[t / k]!)[t % k]!) := by
      rw [Array.getElem?_toList, Array.getElem?_eq_getElem hs, h1]
    rw [h3]
    have hl : t % k < (enc d[t / k]!).length := by rw [hk]; exact hj
    have e2 : d.toList[t / k]! = d[t / k]! := by
      rw [getElem!_pos d.toList _ (by simpa using hi), getElem!_pos d _ hi]; simp
    rw [e2, List.getElem?_eq_getElem hl, getElem!_pos (enc _) _ hl]
  · rw [List.getElem?_eq_none (by simp; omega), List.getElem?_eq_none (by rw [flatMap_len enc k hk]; simp; omega)]

theorem holdsK_of_row {w : World} {base : Nat} {e : TypeId} {k g n cap : Nat} (enc : α → List Value) (hk : ∀ x, (enc x).length = k) (l : List α) (hn : l.length = n)
    (h : w.ownsRow base e k (.slice (some ⟨g, 0, none⟩) n cap) n (l.flatMap enc)) : Go.Sort.HoldsK enc k w g 0 l.toArray := by
  rcases h.2 with ⟨hv, _⟩ | ⟨g', cap', cur, hv, _, hg, hle, _, hs, ht⟩
  · simp at hv
  · simp at hv
    obtain ⟨rfl, rfl⟩ := hv
    intro j hj
    rw [Go.Sort.size_flatK] at hj
    simp at hj
    have hj2 : j < (Go.Sort.flatK enc k l.toArray).size := by rw [Go.Sort.size_flatK]; simpa using hj
    refine ⟨?_, by simp [World.frozen?, hg]⟩
    rw [Nat.zero_add, cell_of_row w g _ _ _ _ hg]
    have h1 := flatK_toList enc k hk l.toArray
    have h2 : (Go.Sort.flatK enc k l.toArray).toList[j]? = (cur.toList.take (n * k))[j]? := by rw [h1, ht]
    rw [List.getElem?_take, if_pos (by rw [← hn]; exact hj), Array.getElem?_toList, Array.getElem?_toList, Array.getElem?_eq_getElem hj2] at h2
    rw [← h2, getElem!_pos (Go.Sort.flatK enc k l.toArray) _ hj2]
    rfl

theorem row_of_sorted {w : World} {base : Nat} {e : TypeId} {k g n cap m : Nat} {os : Array Obj} (enc : α → List Value) (hk : ∀ x, (enc x).length = k) {xs : List Value} (d : Array α) (hd : d.size = n)
    (h : w.ownsRow base e k (.slice (some ⟨g, 0, none⟩) n cap) n xs) :
    (sortWorldK enc k w g 0 m d os).ownsRow base e k (.slice (some ⟨g, 0, none⟩) n cap) n (d.toList.flatMap enc) := by
  rcases h.2 with ⟨hv, _⟩ | ⟨g', cap', cur, hv, hb, hg, hle, hcm, hs, ht⟩
  · simp at hv
  · simp at hv
    obtain ⟨rfl, rfl⟩ := hv
    refine ⟨by rw [flatMap_len enc k hk]; simp [hd], .inr ⟨g, cap, Go.Sort.putCells id 0 (Go.Sort.flatK enc k d) cur, rfl, hb, ?_, hle, hcm, by simp [Sort.putCells, hs], ?_⟩⟩
    · have hlt := lt_of_block hg
      show (((w.heap.modify g _) ++ os))[g]? = _
      rw [Array.getElem?_append_left (by simpa using hlt), Array.getElem?_modify, if_pos rfl, hg]
      rfl
    · rw [← flatK_toList enc k hk]
      apply List.ext_getElem?
      intro t
      rw [List.getElem?_take]
      by_cases ht : t < n * k
      · rw [if_pos ht]
        have hc : t < cur.size := by rw [hs]; exact Nat.lt_of_lt_of_le ht (Nat.mul_le_mul_right k hle)
        have hf : t < (Go.Sort.flatK enc k d).size := by rw [Go.Sort.size_flatK, hd]; exact ht
        simp [Sort.putCells, hc, hf, hd, ht]
      · rw [if_neg ht, List.getElem?_eq_none (by simp [hd]; omega)]

theorem keeps_sorted (w : World) (enc : α → List Value) (k g m : Nat) (d : Array α) (os : Array Obj) : Keeps (fun b => b = g) w (sortWorldK enc k w g 0 m d os) :=
  ⟨rfl, rfl, rfl, by simp [sortWorldK, Go.Sort.grow, Go.Sort.putRowK, Go.Sort.putRow, Go.Sort.mapBlock, Go.Sort.ahead], fun b hb hne => by
    show (((w.heap.modify g _) ++ os))[b]? = _
    rw [Array.getElem?_append_left (by simpa using hb), Array.getElem?_modify, if_neg (fun e => hne e.symm)]⟩

end
end Go.Proofs.Ytbeolkjegipldaa
