/- The matched ones in their order: sorted by the order is the order. -/
import Derived.Test.YtbeolkjegipldaaDeal0
namespace Go.Proofs.Ytbeolkjegipldaa
open DL

theorem filter_or_perm {α : Type} (p q : α → Bool) (l : List α) (h : ∀ a, p a = true → q a = false) : List.Perm (l.filter (fun a => p a || q a)) (l.filter p ++ l.filter q) := by
  induction l with
  | nil => exact .nil
  | cons a l ih =>
    by_cases hp : p a = true
    · have hq := h a hp
      simp only [List.filter_cons, hp, hq, Bool.true_or, if_true]
      exact .cons _ ih
    · have hp : p a = false := by simpa using hp
      by_cases hq : q a = true
      · simp only [List.filter_cons, hp, hq, Bool.or_true, if_true]
        exact ((List.Perm.cons a ih).trans List.perm_middle.symm)
      · have hq : q a = false := by simpa using hq
        simp only [List.filter_cons, hp, hq, Bool.or_false, Bool.false_eq_true, if_false]
        exact ih

theorem map_inj_of_nodup {α : Type} {f : α → Int} : ∀ {l : List α}, (l.map f).Nodup → ∀ a ∈ l, ∀ b ∈ l, f a = f b → a = b
  | [], _, a, ha, _, _, _ => by simp at ha
  | x :: l, h, a, ha, b, hb, e => by
    rw [List.map_cons, List.nodup_cons] at h
    rcases List.mem_cons.1 ha with rfl | ha' <;> rcases List.mem_cons.1 hb with rfl | hb'
    · rfl
    · exact absurd (List.mem_map.2 ⟨b, hb', e.symm⟩) h.1
    · exact absurd (List.mem_map.2 ⟨a, ha', e⟩) h.1
    · exact map_inj_of_nodup h.2 a ha' b hb' e

/-- The matched entries in order. -/
def ordE (F : List En) (k : Nat) : List En := (List.range k).flatMap fun (n : Nat) => F.filter fun e => decide (e.od = (n : Int) + 1)

theorem ordE_perm (F : List En) : ∀ k : Nat, List.Perm (ordE F k) (F.filter fun e => decide (1 ≤ e.od ∧ e.od ≤ k))
  | 0 => by
    have : (F.filter fun e => decide (1 ≤ e.od ∧ e.od ≤ ((0 : Nat) : Int))) = [] := by
      rw [List.filter_eq_nil_iff]
      intro a _
      simp
      omega
    rw [this]
    exact .nil
  | k + 1 => by
    unfold ordE
    rw [List.range_succ, List.flatMap_append]
    refine ((ordE_perm F k).append_right _).trans ?_
    have h := (filter_or_perm (fun e : En => decide (1 ≤ e.od ∧ e.od ≤ (k : Int))) (fun e => decide (e.od = (k : Int) + 1)) F (fun a ha => by simp at ha ⊢; omega)).symm
    simp only [List.flatMap_cons, List.flatMap_nil, List.append_nil]
    refine h.trans ?_
    have e : (fun a : En => decide (1 ≤ a.od ∧ a.od ≤ (k : Int)) || decide (a.od = (k : Int) + 1)) = (fun e : En => decide (1 ≤ e.od ∧ e.od ≤ ((k + 1 : Nat) : Int))) := by
      funext a
      rw [Bool.eq_iff_iff]
      simp
      omega
    rw [e]

theorem ordE_sorted (F : List En) (k : Nat) : (ordE F k).Pairwise (fun a b => a.od ≤ b.od) := by
  unfold ordE
  rw [List.pairwise_flatMap]
  refine ⟨fun n _ => ?_, ?_⟩
  · refine List.Pairwise.imp_of_mem (R := fun _ _ => True) ?_ (List.pairwise_of_forall (fun _ _ => trivial))
    intro a b ha hb _
    simp at ha hb
    omega
  · refine List.Pairwise.imp ?_ (List.pairwise_lt_range (n := k))
    intro a b hab x hx y hy
    simp at hx hy
    omega

theorem byOrd_eq (l : List En) (k : Nat) : byOrd l k = (ordE (l.filter fun e => decide (e.st = 2)) k).map (·.d.id) := by
  unfold byOrd ordE
  rw [List.map_flatMap]
  congr 1
  funext n
  rw [List.filter_filter]

theorem all_sorted {B : Bk} (hI : B.Inv) (l' : List En) (hp : l'.Perm (B.l.filter fun e => decide (e.st = 2))) (hs : l'.Pairwise (fun a b => a.od ≤ b.od)) :
    l'.map (·.d.id) = B.all 2 := by
  have hnd : ((B.l.filter (fun e => decide (0 < e.od))).map (·.od)).Nodup := by
    refine hI.ord.nodup_iff.2 ?_
    refine List.Pairwise.map _ (fun a b h => ?_) List.nodup_range
    simp at h ⊢
    omega
  have hpos : ∀ e ∈ B.l.filter (fun e => decide (e.st = 2)), e ∈ B.l.filter (fun e => decide (0 < e.od)) := by
    intro e he
    simp at he ⊢
    refine ⟨he.1, ?_⟩
    rcases hI.could e he.1 with h | h | h
    · omega
    · exact h.2.2
    · omega
  have hrng : ∀ e ∈ B.l.filter (fun e => decide (e.st = 2)), 1 ≤ e.od ∧ e.od ≤ (B.k.toNat : Int) := by
    intro e he
    have h1 : e.od ∈ (B.l.filter (fun e => decide (0 < e.od))).map (·.od) := List.mem_map.2 ⟨e, hpos e he, rfl⟩
    have h2 := hI.ord.mem_iff.1 h1
    simp at h2
    omega
  have hall : (B.l.filter fun e => decide (e.st = 2)).filter (fun e => decide (1 ≤ e.od ∧ e.od ≤ (B.k.toNat : Int))) = B.l.filter fun e => decide (e.st = 2) := by
    rw [List.filter_eq_self]
    intro a ha
    have := hrng a ha
    simp only [decide_eq_true_eq]
    exact this
  have hp2 := ordE_perm (B.l.filter fun e => decide (e.st = 2)) B.k.toNat
  rw [hall] at hp2
  have he : l' = ordE (B.l.filter fun e => decide (e.st = 2)) B.k.toNat := by
    refine List.Perm.eq_of_pairwise (le := fun a b : En => a.od ≤ b.od) ?_ hs (ordE_sorted _ _) (hp.trans hp2.symm)
    intro a b ha hb h1 h2
    have ha' := hpos a (hp.mem_iff.1 ha)
    have hb' := hpos b (hp2.mem_iff.1 hb)
    exact map_inj_of_nodup hnd a ha' b hb' (by omega)
  rw [he, Bk.all, if_pos rfl, byOrd_eq]

end Go.Proofs.Ytbeolkjegipldaa
