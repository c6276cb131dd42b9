/- A region that draws its order, by a tree of schedules: where two or three effects may come next, each is followed. -/
import Derived.Test.YtbeolkjegipldaaSched
namespace Go.Proofs.Ytbeolkjegipldaa
open Go

inductive Tr where
  | nil
  | take (i : Nat) (r : Tr)
  | act (i : Nat) (r : Tr)
  | two (i : Nat) (a : Tr) (j : Nat) (b : Tr)
  | three (i : Nat) (a : Tr) (j : Nat) (b : Tr) (k : Nat) (c : Tr)

section
variable {P : Program} {ops : Array Oper} {Q : Exit → Act → World → Prop} {md : Region.Mode} {S : World → Prop} {brk : Nat → Bool}

def wpT (P : Program) (ops : Array Oper) (Q : Exit → Act → World → Prop) (S : World → Prop) (brk : Nat → Bool) : Tr → Act → World → Prop
  | .nil, a, w => Q .normal a w
  | .take i r, a, w => S w ∧ ∃ o v, ops[i]? = some o ∧ YieldsIf P ops S o v a ∧ wpT P ops Q S brk r (a.put o.dst v) w
  | .act i r, a, w => wpOp P ops Q i (fun a' w' => (brk i = false → S w → S w') ∧ wpT P ops Q S brk r a' w') a w
  | .two i x j y, a, w => wpOp P ops Q i (fun a' w' => (brk i = false → S w → S w') ∧ wpT P ops Q S brk x a' w') a w ∧ wpOp P ops Q j (fun a' w' => (brk j = false → S w → S w') ∧ wpT P ops Q S brk y a' w') a w
  | .three i x j y k z, a, w => wpOp P ops Q i (fun a' w' => (brk i = false → S w → S w') ∧ wpT P ops Q S brk x a' w') a w ∧ wpOp P ops Q j (fun a' w' => (brk j = false → S w → S w') ∧ wpT P ops Q S brk y a' w') a w ∧
      wpOp P ops Q k (fun a' w' => (brk k = false → S w → S w') ∧ wpT P ops Q S brk z a' w') a w

def treeB (md : Region.Mode) (ops : Array Oper) (brk : Nat → Bool) (N : Nat) : Tr → Nat → Array Bool → Bool
  | .nil, fuel, listed => Nat.beq fuel 0 && (Region.ready md ops listed).isEmpty
  | .take i r, fuel, listed => !Nat.beq fuel 0 && (Region.ready md ops listed).contains i && Region.free md ops listed i && (List.range ops.size).all (fun j => j == i || listed.getD j true || waitsT md ops N j i || !brk j) &&
      treeB md ops brk N r (fuel - 1) (listed.setIfInBounds i true)
  | .act i r, fuel, listed => !Nat.beq fuel 0 && Region.ready md ops listed == [i] && treeB md ops brk N r (fuel - 1) (listed.setIfInBounds i true)
  | .two i x j y, fuel, listed => !Nat.beq fuel 0 && Region.ready md ops listed == [i, j] && treeB md ops brk N x (fuel - 1) (listed.setIfInBounds i true) && treeB md ops brk N y (fuel - 1) (listed.setIfInBounds j true)
  | .three i x j y k z, fuel, listed => !Nat.beq fuel 0 && Region.ready md ops listed == [i, j, k] && treeB md ops brk N x (fuel - 1) (listed.setIfInBounds i true) && treeB md ops brk N y (fuel - 1) (listed.setIfInBounds j true) && treeB md ops brk N z (fuel - 1) (listed.setIfInBounds k true)

theorem wpAnyG_of_tree {N : Nat} (hs : Region.noSelect ops = true) (hQ : ∀ dst v c a w, Q (.panic c) (Act.put a dst v) w → Q (.panic c) a w) (hbig : ∀ j, ops.size ≤ j → brk j = false) :
    ∀ (t : Tr) (fuel : Nat) (listed : Array Bool) (a : Act) (w : World), ClosedL md ops listed → treeB md ops brk N t fuel listed = true → wpT P ops Q S brk t a w → wpAnyG P md ops Q S brk fuel listed a w
  | .nil, fuel, listed, a, w, _, hB, h => by
    simp only [treeB, Bool.and_eq_true] at hB
    obtain rfl := Nat.eq_of_beq_eq_true hB.1
    exact ⟨by simpa using hB.2, h⟩
  | .take i r, fuel, listed, a, w, hc, hB, h => by
    simp only [treeB, Bool.and_eq_true, Bool.not_eq_true'] at hB
    obtain ⟨⟨⟨⟨hf0, hr⟩, hf⟩, hk⟩, hB'⟩ := hB
    obtain ⟨fuel, rfl⟩ : ∃ m, fuel = m + 1 := ⟨fuel - 1, by cases fuel with | zero => simp at hf0 | succ m => rfl⟩
    obtain ⟨hS, o, v, ho, hy, hK⟩ := h
    have hr' : i ∈ Region.ready md ops listed := by simpa using hr
    refine wpAnyG_first (N := N) ho (Region.noSelect_spec hs) (fun c a w => hQ _ _ c a w) fuel listed a w (.inr ⟨rfl, fun j hji hun hw => ?_⟩) hc (Region.free_spec ho hf) hr' hy hS
      (wpAnyG_of_tree hs hQ hbig r _ _ _ _ (hc.set hr') hB' hK)
    rcases Nat.lt_or_ge j ops.size with hj | hj
    · simp only [List.all_eq_true, List.mem_range] at hk
      have := hk j hj
      simp only [Bool.or_eq_true, beq_iff_eq, hji, false_or, hun, hw, Bool.false_eq_true, Bool.not_eq_true'] at this
      exact this
    · exact hbig j hj
  | .act i r, fuel, listed, a, w, hc, hB, h => by
    simp only [treeB, Bool.and_eq_true, Bool.not_eq_true', beq_iff_eq] at hB
    obtain ⟨⟨hf0, hr⟩, hB'⟩ := hB
    obtain ⟨fuel, rfl⟩ : ∃ m, fuel = m + 1 := ⟨fuel - 1, by cases fuel with | zero => simp at hf0 | succ m => rfl⟩
    refine ⟨fun h0 => (by rw [h0] at hr; cases hr), fun j hj => ?_⟩
    have hj0 := hj
    rw [hr] at hj
    obtain rfl := List.mem_singleton.1 hj
    exact wpOp_mono (fun a' w' h' => ⟨h'.1, wpAnyG_of_tree hs hQ hbig r _ _ a' w' (hc.set hj0) hB' h'.2⟩) h
  | .two i x k y, fuel, listed, a, w, hc, hB, h => by
    simp only [treeB, Bool.and_eq_true, Bool.not_eq_true', beq_iff_eq] at hB
    obtain ⟨⟨⟨hf0, hr⟩, hB1⟩, hB2⟩ := hB
    obtain ⟨fuel, rfl⟩ : ∃ m, fuel = m + 1 := ⟨fuel - 1, by cases fuel with | zero => simp at hf0 | succ m => rfl⟩
    refine ⟨fun h0 => (by rw [h0] at hr; cases hr), fun j hj => ?_⟩
    have hj0 := hj
    rw [hr] at hj
    simp only [List.mem_cons, List.not_mem_nil, or_false] at hj
    rcases hj with rfl | rfl
    · exact wpOp_mono (fun a' w' h' => ⟨h'.1, wpAnyG_of_tree hs hQ hbig x _ _ a' w' (hc.set hj0) hB1 h'.2⟩) h.1
    · exact wpOp_mono (fun a' w' h' => ⟨h'.1, wpAnyG_of_tree hs hQ hbig y _ _ a' w' (hc.set hj0) hB2 h'.2⟩) h.2
  | .three i x k y q z, fuel, listed, a, w, hc, hB, h => by
    simp only [treeB, Bool.and_eq_true, Bool.not_eq_true', beq_iff_eq] at hB
    obtain ⟨⟨⟨⟨hf0, hr⟩, hB1⟩, hB2⟩, hB3⟩ := hB
    obtain ⟨fuel, rfl⟩ : ∃ m, fuel = m + 1 := ⟨fuel - 1, by cases fuel with | zero => simp at hf0 | succ m => rfl⟩
    refine ⟨fun h0 => (by rw [h0] at hr; cases hr), fun j hj => ?_⟩
    have hj0 := hj
    rw [hr] at hj
    simp only [List.mem_cons, List.not_mem_nil, or_false] at hj
    rcases hj with rfl | rfl | rfl
    · exact wpOp_mono (fun a' w' h' => ⟨h'.1, wpAnyG_of_tree hs hQ hbig x _ _ a' w' (hc.set hj0) hB1 h'.2⟩) h.1
    · exact wpOp_mono (fun a' w' h' => ⟨h'.1, wpAnyG_of_tree hs hQ hbig y _ _ a' w' (hc.set hj0) hB2 h'.2⟩) h.2.1
    · exact wpOp_mono (fun a' w' h' => ⟨h'.1, wpAnyG_of_tree hs hQ hbig z _ _ a' w' (hc.set hj0) hB3 h'.2⟩) h.2.2

theorem wp_region_tree {id : Nat} {a : Act} {w : World} {l : List Oper} (S : World → Prop) (brks : List Nat) (t : Tr) (hm : P.follows .mixedOrders = true)
    (hB : (Region.noSelect l.toArray && (brks.all fun j => decide (j < l.toArray.size)) && treeB .any l.toArray (fun j => brks.contains j) l.toArray.size t l.toArray.size (Array.replicate l.toArray.size false)) = true)
    (hQ : ∀ dst v c a w, Q (.panic c) (Act.put a dst v) w → Q (.panic c) a w)
    (h : wpT P l.toArray Q S (fun j => brks.contains j) t a w.drew) : (Code.region id l.toArray true).wp P Q a w := by
  simp only [Bool.and_eq_true] at hB
  obtain ⟨⟨hs, hb⟩, hB⟩ := hB
  refine wp_region_any hm (wpAny_of_G (S := S) (brk := fun j => brks.contains j) _ _ _ _ ?_)
  refine wpAnyG_of_tree (N := l.toArray.size) hs hQ (fun j hj => ?_) t _ _ a _ (closed_start _ (by omega)) hB h
  cases hc : brks.contains j with
  | false => rfl
  | true =>
    have := (List.all_eq_true.1 hb) j (by simpa using hc)
    simp at this hj
    omega

theorem wpT_act {a : Act} {w : World} {i : Nat} {o : Oper} {M : Act → World → Prop} (ho : ops[i]? = some o)
    (h : ∀ K : Act → World → Prop, (∀ a' w', M a' w' → K a' w') → if Region.wanted o (yielded ops a.tmps) = true then o.wp P a w K Q else K (a.put o.dst undef) w) :
    wpOp P ops Q i M a w := by
  have h1 := h M (fun a' w' h1 => h1)
  unfold wpOp
  simp only [ho]
  by_cases hw : Region.wanted o (yielded ops a.tmps) = true
  · rw [if_pos hw] at h1 ⊢; exact .inl h1
  · rw [if_neg hw] at h1 ⊢; exact h1
end
end Go.Proofs.Ytbeolkjegipldaa
