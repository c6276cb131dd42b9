/- What the model's book makes of an operation: what is known stays known, what is settled or gone stays so; and each known Id is told under just one state. -/
import Derived.Test.YtbeolkjegipldaaTrip
import Derived.Test.YtbeolkjegipldaaOrd
namespace Go.Proofs.Ytbeolkjegipldaa
namespace DL

structure Opr where
  op : Int
  mem : Int
  id : Int
  d : Dl

def Bk.act (B : Bk) (o : Opr) : Bk :=
  if o.op = 0 then (B.submit o.d).1 else if o.op = 1 then (B.rescind o.mem o.id).1 else if o.op = 2 then (B.settle o.id).1 else if o.op = 3 then (B.remove o.mem).1 else B

theorem Bk.Inv.act {B : Bk} (h : B.Inv) (o : Opr) : (B.act o).Inv := by
  unfold Bk.act
  split
  · exact h.submit _
  · split
    · exact h.rescind _ _
    · split
      · exact h.settle _
      · split
        · exact h.remove _
        · exact h

theorem act_mc (B : Bk) (o : Opr) : (B.act o).m = B.m ∧ (B.act o).c = B.c := by
  unfold Bk.act
  split
  · unfold Bk.submit
    split
    · exact ⟨rfl, rfl⟩
    · split
      · split <;> exact ⟨rfl, rfl⟩
      · split
        · exact ⟨rfl, rfl⟩
        · split <;> exact ⟨rfl, rfl⟩
  · split
    · unfold Bk.rescind
      split
      · exact ⟨rfl, rfl⟩
      · dsimp only
        split
        · exact ⟨rfl, rfl⟩
        · split
          · exact ⟨rfl, rfl⟩
          · split
            · exact ⟨rfl, rfl⟩
            · split
              · exact ⟨rfl, rfl⟩
              · split <;> exact ⟨rfl, rfl⟩
    · split
      · unfold Bk.settle
        split
        · exact ⟨rfl, rfl⟩
        · split <;> exact ⟨rfl, rfl⟩
      · split <;> exact ⟨rfl, rfl⟩

def Bk.known (B : Bk) (id : Int) : Option Int := (idx B.l id).map fun i => (nth B.l i).st

/-- An entry's later self. -/
def En.later (e e' : En) : Prop := e'.d.id = e.d.id ∧ (3 ≤ e.st → e'.st = e.st) ∧ (e.st = 2 → e'.st ≠ 1)
theorem En.later_refl (e : En) : e.later e := ⟨rfl, fun _ => rfl, fun h => by omega⟩

def Stays (l l' : List En) : Prop := ∀ i, i < l.length → i < l'.length ∧ (nth l i).later (nth l' i)

theorem Stays.refl (l : List En) : Stays l l := fun _ h => ⟨h, En.later_refl _⟩
theorem Stays.set {l : List En} {i : Nat} {x : En} (hi : i < l.length) (hx : (nth l i).later x) : Stays l (l.set i x) := by
  intro j hj
  refine ⟨by simpa using hj, ?_⟩
  by_cases e : i = j
  · subst e; rw [nth_set_same hi]; exact hx
  · rw [nth_set_ne e]; exact En.later_refl _

theorem stays_act {B : Bk} (o : Opr) : Stays B.l (B.act o).l := by
  unfold Bk.act
  split
  · unfold Bk.submit
    split
    · exact .refl _
    · split
      · split
        · exact .refl _
        · intro i hi
          refine ⟨by simp; omega, ?_⟩
          have : nth (B.l ++ [⟨o.d, 1, 0, 0⟩]) i = nth B.l i := by simp [nth, List.getElem?_append_left hi]
          show (nth B.l i).later (nth (B.l ++ [⟨o.d, 1, 0, 0⟩]) i)
          rw [this]; exact En.later_refl _
      · rename_i i hs
        split
        · exact .refl _
        · split
          · exact .refl _
          · rename_i h1 _
            have h1 : (nth B.l i).st = 1 := Classical.not_not.1 (fun e => h1 (.inl e))
            exact Stays.set (idx_some hs).1 ⟨rfl, fun h => by omega, fun h => by omega⟩
  · split
    · unfold Bk.rescind
      split
      · exact .refl _
      · rename_i i hs
        have hi := (idx_some hs).1
        dsimp only
        split
        · exact .refl _
        · split
          · exact .refl _
          · split
            · exact Stays.set hi ⟨rfl, fun h => by omega, fun h => by simp⟩
            · split
              · exact .refl _
              · split
                · exact Stays.set hi ⟨rfl, fun h => by omega, fun h => by simp⟩
                · exact Stays.set hi ⟨rfl, fun h => rfl, fun h => by show (nth B.l i).st ≠ 1; omega⟩
    · split
      · unfold Bk.settle
        split
        · exact .refl _
        · rename_i i hs
          have hi := (idx_some hs).1
          split
          · exact .refl _
          · rename_i h2
            exact Stays.set hi ⟨rfl, fun h => by have := Classical.not_not.1 h2; omega, fun h => by simp⟩
      · split
        · intro i hi
          refine ⟨by simpa [Bk.remove] using hi, ?_⟩
          have : nth (B.l.map (·.gone o.mem)) i = (nth B.l i).gone o.mem := by
            simp [nth, List.getElem?_map, List.getElem?_eq_getElem hi]
          show (nth B.l i).later (nth (B.l.map (·.gone o.mem)) i)
          rw [this]
          unfold En.gone
          split
          · rename_i hh
            simp [En.hit] at hh
            exact ⟨rfl, fun h => by omega, fun h => by simp⟩
          · exact En.later_refl _
        · exact .refl _

theorem idx_at {l : List En} (hn : (l.map (·.d.id)).Nodup) {i : Nat} (hi : i < l.length) : idx l (nth l i).d.id = some i := by
  unfold idx
  rw [List.findIdx?_eq_some_iff_getElem]
  refine ⟨hi, by simp [nth_getElem hi], fun j hj => ?_⟩
  have hjl : j < l.length := by omega
  intro he
  have he : l[j].d.id = l[i].d.id := by rw [nth_getElem hi] at he; simpa using he
  have := List.pairwise_iff_getElem.1 hn j i (by simpa using hjl) (by simpa using hi) hj
  apply this
  simp [he]

theorem known_some {B : Bk} (hI : B.Inv) {id s : Int} : B.known id = some s ↔ ∃ i, i < B.l.length ∧ (nth B.l i).d.id = id ∧ (nth B.l i).st = s := by
  unfold Bk.known
  constructor
  · intro h
    cases hi : idx B.l id with
    | none => simp [hi] at h
    | some i =>
      simp [hi] at h
      exact ⟨i, (idx_some hi).1, (idx_some hi).2, h⟩
  · rintro ⟨i, hi, rfl, rfl⟩
    rw [idx_at hI.ids hi]; rfl

theorem known_range {B : Bk} (hI : B.Inv) {id s : Int} (h : B.known id = some s) : 1 ≤ s ∧ s ≤ 4 := by
  obtain ⟨i, hi, _, rfl⟩ := (known_some hI).1 h
  exact could_st (hI.could _ (nth_mem hi))

theorem known_state {B : Bk} {id s : Int} (h : B.known id = some s) : B.state id = s := by
  unfold Bk.known at h
  unfold Bk.state
  cases hi : idx B.l id with
  | none => simp [hi] at h
  | some i => simp [hi] at h ⊢; exact h

theorem stays_known {B B' : Bk} (hI : B.Inv) (hI' : B'.Inv) (hs : Stays B.l B'.l) {id s : Int} (h : B.known id = some s) : ∃ s', B'.known id = some s' ∧ (3 ≤ s → s' = s) ∧ (s = 2 → s' ≠ 1) := by
  obtain ⟨i, hi, rfl, rfl⟩ := (known_some hI).1 h
  obtain ⟨h1, h2, h3, h4⟩ := hs i hi
  exact ⟨_, (known_some hI').2 ⟨i, h1, h2, rfl⟩, h3, h4⟩

theorem all_perm {B : Bk} (hI : B.Inv) (s : Int) : (B.all s).Perm ((B.l.filter fun e => decide (e.st = s)).map (·.d.id)) := by
  by_cases h : s = 2
  · subst h
    let F := B.l.filter fun e => decide (e.st = 2)
    let S := F.mergeSort (fun a b => decide (a.od ≤ b.od))
    have hp : S.Perm F := List.mergeSort_perm _ _
    have hs : S.Pairwise (fun a b => a.od ≤ b.od) := by
      have := List.pairwise_mergeSort (le := fun a b : En => decide (a.od ≤ b.od)) (by intro a b c h1 h2; simp at h1 h2 ⊢; omega) (by intro a b; simp; omega) F
      exact this.imp (fun h => by simpa using h)
    rw [← all_sorted hI S hp hs]
    exact hp.map _
  · unfold Bk.all; rw [if_neg h]

theorem mem_nth {l : List En} {e : En} (h : e ∈ l) : ∃ i, i < l.length ∧ nth l i = e := by
  obtain ⟨i, hi, rfl⟩ := List.mem_iff_getElem.1 h
  exact ⟨i, hi, nth_getElem hi⟩

theorem mem_all {B : Bk} (hI : B.Inv) (id s : Int) : id ∈ B.all s ↔ B.known id = some s := by
  rw [(all_perm hI s).mem_iff, known_some hI]
  constructor
  · intro h
    obtain ⟨e, he, rfl⟩ := List.mem_map.1 h
    simp at he
    obtain ⟨i, hi, rfl⟩ := mem_nth he.1
    exact ⟨i, hi, rfl, he.2⟩
  · rintro ⟨i, hi, rfl, rfl⟩
    exact List.mem_map.2 ⟨nth B.l i, by simp [nth_mem hi], rfl⟩

/-- The Ids of the first s states. -/
def Bk.upto (B : Bk) (s : Nat) : List Int := (List.range s).flatMap fun (i : Nat) => B.all ((i : Int) + 1)

theorem upto_succ (B : Bk) (s : Nat) : B.upto (s + 1) = B.upto s ++ B.all ((s : Int) + 1) := by
  unfold Bk.upto
  rw [List.range_succ, List.flatMap_append]
  simp

theorem upto_len_aux : ∀ (l : List En), (∀ e ∈ l, 1 ≤ e.st ∧ e.st ≤ 4) →
    (l.filter fun e => decide (e.st = 1)).length + (l.filter fun e => decide (e.st = 2)).length + (l.filter fun e => decide (e.st = 3)).length + (l.filter fun e => decide (e.st = 4)).length = l.length
  | [], _ => rfl
  | e :: l, h => by
    have ih := upto_len_aux l (fun x hx => h x (by simp [hx]))
    have he := h e (by simp)
    simp only [List.filter_cons]
    rcases (show e.st = 1 ∨ e.st = 2 ∨ e.st = 3 ∨ e.st = 4 by omega) with e1 | e1 | e1 | e1 <;> simp [e1] <;> omega

theorem upto_len {B : Bk} (hI : B.Inv) : (B.upto 4).length = B.l.length := by
  have h1 := (all_perm hI 1).length_eq
  have h2 := (all_perm hI 2).length_eq
  have h3 := (all_perm hI 3).length_eq
  have h4 := (all_perm hI 4).length_eq
  have ha := upto_len_aux B.l (fun e he => could_st (hI.could e he))
  have e : B.upto 4 = B.all 1 ++ B.all 2 ++ B.all 3 ++ B.all 4 := by
    simp only [upto_succ]
    rfl
  rw [e]
  simp only [List.length_append, List.length_map] at *
  omega

theorem upto_le {B : Bk} (hI : B.Inv) (s : Nat) (hs : s ≤ 4) : (B.upto s).length ≤ 1000 := by
  have h4 := upto_len hI
  have hl := hI.len
  have : (B.upto s).length ≤ (B.upto 4).length := by
    unfold Bk.upto
    have : List.range 4 = List.range s ++ (List.range (4 - s)).map (s + ·) := by rw [← List.range_add]; congr 1; omega
    rw [this, List.flatMap_append, List.length_append]
    omega
  omega

/-- The map while the round goes: those told in P are told anew. -/
def mixK (B B' : Bk) (P : List Int) (id : Int) : Option Int := if id ∈ P then B'.known id else B.known id

/-- A map's function and how many it holds. -/
def Keyed (f : Int → Option Int) (m : Nat) : Prop := ∃ ks : List Int, ks.Nodup ∧ (∀ n, n ∈ ks ↔ (f n).isSome = true) ∧ ks.length = m

theorem Keyed.nil : Keyed (fun _ => none) 0 := ⟨[], by simp, by simp, rfl⟩
theorem Keyed.put {f : Int → Option Int} {m : Nat} (h : Keyed f m) (k s : Int) : Keyed (fun j => if j = k then some s else f j) (if (f k).isSome then m else m + 1) := by
  obtain ⟨ks, hn, hm, hl⟩ := h
  by_cases hk : (f k).isSome = true
  · rw [if_pos hk]
    refine ⟨ks, hn, fun n => ?_, hl⟩
    by_cases e : n = k
    · subst e; simp [hm n, hk]
    · simp [e, hm n]
  · rw [if_neg hk]
    have hnk : k ∉ ks := fun h => hk ((hm k).1 h)
    refine ⟨k :: ks, List.nodup_cons.2 ⟨hnk, hn⟩, fun n => ?_, by simp [hl]⟩
    by_cases e : n = k
    · subst e; simp
    · simp [e, hm n]

theorem Keyed.known {B : Bk} (hI : B.Inv) {m : Nat} (h : Keyed B.known m) : m = B.l.length := by
  obtain ⟨ks, hn, hm, hl⟩ := h
  have hp : ks.Perm (B.l.map (·.d.id)) := by
    rw [List.perm_ext_iff_of_nodup hn hI.ids]
    intro a
    rw [hm a, Option.isSome_iff_exists]
    constructor
    · rintro ⟨s, hs⟩
      obtain ⟨i, hi, rfl, _⟩ := (known_some hI).1 hs
      exact List.mem_map.2 ⟨_, nth_mem hi, rfl⟩
    · intro ha
      obtain ⟨e, he, rfl⟩ := List.mem_map.1 ha
      obtain ⟨i, hi, rfl⟩ := mem_nth he
      exact ⟨_, (known_some hI).2 ⟨i, hi, rfl, rfl⟩⟩
  have := hp.length_eq
  rw [← hl, this]; simp

theorem mixK_nil (B B' : Bk) : mixK B B' [] = B.known := by funext j; simp [mixK]

/-- One more is told: what the map holds of it was fit. -/
theorem mix_told {B B' : Bk} (hI : B.Inv) (hI' : B'.Inv) (hs : Stays B.l B'.l) (P : List Int) {id s : Int} (hid : id ∈ B'.all s) :
    B'.state id = s ∧ (3 ≤ (mixK B B' P id).getD 0 → (mixK B B' P id).getD 0 = s) ∧ ((mixK B B' P id).getD 0 = 2 → s ≠ 1) := by
  have hk := (mem_all hI' id s).1 hid
  refine ⟨known_state hk, ?_⟩
  unfold mixK
  split
  · rw [hk]; simp; omega
  · cases h : B.known id with
    | none => simp
    | some t =>
      obtain ⟨s', h1, h2, h3⟩ := stays_known hI hI' hs h
      rw [hk] at h1
      obtain rfl := Option.some.inj h1
      simp
      exact ⟨fun h => (h2 h).symm, h3⟩

theorem mix_put {B B' : Bk} (hI' : B'.Inv) (P : List Int) {id s : Int} (hid : id ∈ B'.all s) : (fun j => if j = id then some s else mixK B B' P j) = mixK B B' (P ++ [id]) := by
  funext j
  have hk := (mem_all hI' id s).1 hid
  unfold mixK
  by_cases e : j = id
  · subst e; simp [hk]
  · simp [e]

theorem mix_all {B B' : Bk} (hI : B.Inv) (hI' : B'.Inv) (hs : Stays B.l B'.l) : mixK B B' (B'.upto 4) = B'.known := by
  funext j
  unfold mixK
  split
  · rfl
  · rename_i hn
    have hk' : B'.known j = none := by
      cases h : B'.known j with
      | none => rfl
      | some s =>
        exfalso
        obtain ⟨h1, h2⟩ := known_range hI' h
        apply hn
        unfold Bk.upto
        rw [List.mem_flatMap]
        refine ⟨(s - 1).toNat, by simp; omega, ?_⟩
        rw [show (((s - 1).toNat : Nat) : Int) + 1 = s by omega]
        exact (mem_all hI' j s).2 h
    rw [hk']
    cases h : B.known j with
    | none => rfl
    | some t =>
      obtain ⟨s', h1, _⟩ := stays_known hI hI' hs h
      rw [hk'] at h1; cases h1

theorem fit_act {B : Bk} (h : FitB B) (o : Opr) (ho : o.d.sell ≤ 9223372036854775807 ∧ o.d.buy ≤ 9223372036854775807) : FitB (B.act o) := by
  have fset : ∀ (i : Nat) (x : En) (k : Int), i < B.l.length → x.d = (nth B.l i).d → FitB ⟨B.m, B.c, B.l.set i x, k⟩ := by
    intro i x k hi hx e he
    rcases mem_set he with he | rfl
    · exact h e he
    · rw [hx]; exact h _ (nth_mem hi)
  unfold Bk.act
  split
  · unfold Bk.submit
    split
    · exact h
    · split
      · split
        · exact h
        · intro e he
          rcases List.mem_append.1 he with he | he
          · exact h e he
          · simp at he; subst he; exact ho
      · rename_i i hs
        split
        · exact h
        · split
          · exact h
          · exact fset _ _ _ (idx_some hs).1 rfl
  · split
    · unfold Bk.rescind
      split
      · exact h
      · rename_i i hs
        have hi := (idx_some hs).1
        dsimp only
        split
        · exact h
        · split
          · exact h
          · split
            · exact fset _ _ _ hi rfl
            · split
              · exact h
              · split
                · exact fset _ _ _ hi rfl
                · exact fset _ _ _ hi rfl
    · split
      · unfold Bk.settle
        split
        · exact h
        · rename_i i hs
          split
          · exact h
          · exact fset _ _ _ (idx_some hs).1 rfl
      · split
        · intro e he
          obtain ⟨x, hx, rfl⟩ := List.mem_map.1 he
          rw [gone_d]; exact h x hx
        · exact h
end DL
end Go.Proofs.Ytbeolkjegipldaa
