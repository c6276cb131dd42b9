/- What a statement's arguments hold: values of ints, bools, strings, structs and slices, read off the row's reading. -/
import Derived.Test.YtbeolkjegipldaaProg
import Derived.OpenShut
import Derived.ChangeMaps
import GoSem.ClaimChange
namespace Go.Proofs.Ytbeolkjegipldaa
open Go.RowKit

section
variable {H : Type} {enc : TypeId × Value → H} {P : Program} {w : World} {sp : Nat → Bool} {hd : Bool}

/-- Something of type t reads off these cells. -/
def RdT (enc : TypeId × Value → H) (P : Program) (w : World) (sp : Nat → Bool) (hd : Bool) (t : TypeId) (cs : List Value) : Prop := ∃ fuel d ps, DataW.trod enc P w 0 sp hd fuel t cs = some (d, ps)

theorem RdT.int {t : TypeId} {k : IntKind} {cs : List Value} (ht : P.underlying t = some (.int k)) (h : RdT enc P w sp hd t cs) : ∃ n, cs = [.int k n] ∧ (Lit.int k n).wf = true := by
  obtain ⟨fuel, d, ps, h⟩ := h
  cases fuel with
  | zero => simp [DataW.trod] at h
  | succ f =>
    unfold DataW.trod at h
    rw [ht] at h
    split at h <;> simp_all

theorem RdT.bool {t : TypeId} {cs : List Value} (ht : P.underlying t = some .bool) (h : RdT enc P w sp hd t cs) : ∃ b, cs = [.bool b] := by
  obtain ⟨fuel, d, ps, h⟩ := h
  cases fuel with
  | zero => simp [DataW.trod] at h
  | succ f =>
    unfold DataW.trod at h
    rw [ht] at h
    split at h <;> simp_all

theorem RdT.string {t : TypeId} {cs : List Value} (ht : P.underlying t = some .string) (h : RdT enc P w sp hd t cs) : ∃ s, cs = [.string s] ∧ s.size ≤ maxLen := by
  obtain ⟨fuel, d, ps, h⟩ := h
  cases fuel with
  | zero => simp [DataW.trod] at h
  | succ f =>
    unfold DataW.trod at h
    rw [ht] at h
    split at h <;> simp_all

theorem mapM_mem {α β : Type} {f : α → Option β} : ∀ {l : List α} {r : List β}, l.mapM f = some r → r.length = l.length ∧ ∀ (i : Nat) x, l[i]? = some x → f x = r[i]? ∧ ∃ y, f x = some y := by
  intro l
  induction l with
  | nil => intro r h; simp at h; subst h; simp
  | cons a l0 ih =>
    intro r h
    rw [List.mapM_cons] at h
    cases ha : f a with
    | none => simp [ha] at h
    | some b =>
      cases has : l0.mapM f with
      | none => simp [ha, has] at h
      | some bs =>
        simp [ha, has] at h
        subst h
        obtain ⟨h1, h2⟩ := ih has
        refine ⟨by simp [h1], fun i x hx => ?_⟩
        cases i with
        | zero => simp at hx; subst hx; simp [ha]
        | succ i => simpa using h2 i x (by simpa using hx)

theorem RdT.struct {t : TypeId} {fs : Array Field} {cs : List Value} (ht : P.underlying t = some (.struct fs)) (h : RdT enc P w sp hd t cs) :
    cs.length = P.cellsOf t ∧ ∀ f ∈ fs.toList, RdT enc P w sp hd f.type ((cs.drop f.offset).take (P.cellsOf f.type)) := by
  obtain ⟨fuel, d, ps, h⟩ := h
  cases fuel with
  | zero => simp [DataW.trod] at h
  | succ n =>
    unfold DataW.trod at h
    rw [ht] at h
    simp only [] at h
    split at h
    · rename_i hl
      refine ⟨hl, fun f hf => ?_⟩
      cases hm : (fs.toList.mapM fun f => DataW.trod enc P w 0 sp hd n f.type ((cs.drop f.offset).take (P.cellsOf f.type))) with
      | none => rw [hm] at h; simp at h
      | some r =>
        obtain ⟨i, hi⟩ := List.mem_iff_getElem?.1 hf
        obtain ⟨y, hy⟩ := ((mapM_mem hm).2 i f hi).2
        exact ⟨n, y.1, y.2, hy⟩
    · simp at h

theorem cells_get {a : Addr} {n : Nat} {cs : List Value} (h : w.cells? 0 a n = some cs) : cs.length = n ∧ ∀ j, j < n → w.cell? (a.add j) = cs[j]? := by
  simp only [World.cells?, Nat.zero_le, if_true] at h
  obtain ⟨h1, h2⟩ := mapM_mem h
  refine ⟨by simpa using h1, fun j hj => ?_⟩
  exact (h2 j j (by simp [hj])).1

theorem RdT.slice {t e : TypeId} {cs : List Value} (ht : P.underlying t = some (.slice e)) (h : RdT enc P w sp hd t cs) :
    cs = [.slice none 0 0] ∨ ∃ a len cap, cs = [.slice (some a) len cap] ∧ len ≤ cap ∧ cap ≤ maxLen ∧
      ∀ i, i < len → ∃ es, w.cells? 0 (a.add (i * P.cellsOf e)) (P.cellsOf e) = some es ∧ RdT enc P w sp hd e es := by
  obtain ⟨fuel, d, ps, h⟩ := h
  cases fuel with
  | zero => simp [DataW.trod] at h
  | succ n =>
    unfold DataW.trod at h
    rw [ht] at h
    split at h <;> simp_all
    obtain ⟨⟨h1, h2⟩, h3⟩ := h
    refine ⟨_, _, _, ⟨rfl, rfl, rfl⟩, h1, h2, fun i hi => ?_⟩
    rw [Option.bind_eq_some_iff] at h3
    obtain ⟨els, hm, _⟩ := h3
    obtain ⟨y, hy⟩ := ((mapM_mem hm).2 i i (by simp [hi])).2
    rw [Option.bind_eq_some_iff] at hy
    obtain ⟨es, h4, h5⟩ := hy
    exact ⟨es, h4, n, y.1, y.2, h5⟩

/-- A slice v of elements of K cells each, that reads as l. -/
def RowsR {T : Type} (w : World) (v : Value) (K : Nat) (cs : T → List Value) (l : List T) : Prop :=
  ∃ a cap, v = .slice a l.length cap ∧ l.length ≤ cap ∧ cap ≤ maxLen ∧ ((l = [] ∧ (a = none → cap = 0)) ∨ ∃ g o, a = some ⟨g, o, none⟩ ∧ g < w.heap.size ∧ ∀ i x, l[i]? = some x → ∀ j, j < K → w.cell? ⟨g, o + i * K + j, none⟩ = (cs x)[j]?)

theorem RowsR.below {T : Type} {w w' : World} {v : Value} {K : Nat} {cs : T → List Value} {l : List T} (h : RowsR w v K cs l) (hb : ∀ k, k < w.heap.size → w'.heap[k]? = w.heap[k]?) (hs : w.heap.size ≤ w'.heap.size) : RowsR w' v K cs l := by
  obtain ⟨a, cap, hv, hle, hc, h⟩ := h
  refine ⟨a, cap, hv, hle, hc, h.imp id ?_⟩
  rintro ⟨g, o, ha, hg, hx⟩
  refine ⟨g, o, ha, Nat.lt_of_lt_of_le hg hs, fun i x hi j hj => ?_⟩
  have := hx i x hi j hj
  simp only [World.cell?, hb g hg] at this ⊢
  exact this

theorem choose_list {T : Type} {p : Nat → T → Prop} : ∀ (n : Nat), (∀ i, i < n → ∃ x, p i x) → ∃ l : List T, l.length = n ∧ ∀ (i : Nat) x, l[i]? = some x → p i x
  | 0, _ => ⟨[], rfl, by simp⟩
  | n + 1, h => by
    obtain ⟨l, hl, hp⟩ := choose_list n fun i hi => h i (by omega)
    obtain ⟨x, hx⟩ := h n (by omega)
    refine ⟨l ++ [x], by simp [hl], fun i y hy => ?_⟩
    by_cases hi : i < n
    · rw [List.getElem?_append_left (by omega)] at hy; exact hp i y hy
    · by_cases e : i = n
      · subst e; rw [List.getElem?_append_right (by omega)] at hy; simp [hl] at hy; subst hy; exact hx
      · rw [List.getElem?_eq_none (by simp [hl]; omega)] at hy; simp at hy

theorem add_none (a : Addr) {n : Nat} (h : n ≠ 0) : a.add n = ⟨a.block, a.off + n, none⟩ := by unfold Addr.add; rw [if_neg h]

theorem cell_addr {a : Addr} {v : Value} (h : w.cell? a = some v) : a = ⟨a.block, a.off, none⟩ ∧ a.block < w.heap.size := by
  obtain ⟨b, o, s⟩ := a
  refine ⟨?_, World.block_lt_of_cell? _ _ h⟩
  cases s with
  | none => rfl
  | some x =>
    simp only [World.cell?] at h
    split at h <;> simp at h

/-- A slice is opened: what each element is, is told by helem. -/
theorem RdT.rows {T : Type} {t e : TypeId} {K : Nat} {a : Option Addr} {len cap : Nat} (ht : P.underlying t = some (.slice e)) (hK : P.cellsOf e = K) (hK0 : 0 < K) (cs : T → List Value) (good : T → Prop)
    (helem : ∀ es, RdT enc P w sp hd e es → ∃ x, es = cs x ∧ good x) (h : RdT enc P w sp hd t [.slice a len cap]) : ∃ l : List T, RowsR w (.slice a len cap) K cs l ∧ l.length = len ∧ ∀ x ∈ l, good x := by
  rcases h.slice ht with h | ⟨a', len', cap', h, h1, h2, h3⟩
  · obtain ⟨rfl, rfl, rfl⟩ : a = none ∧ len = 0 ∧ cap = 0 := by simpa using h
    exact ⟨[], ⟨none, 0, rfl, Nat.le_refl _, Nat.zero_le _, .inl ⟨rfl, fun _ => rfl⟩⟩, rfl, by simp⟩
  · obtain ⟨rfl, rfl, rfl⟩ : a = some a' ∧ len = len' ∧ cap = cap' := by simpa using h
    rw [hK] at h3
    obtain ⟨l, hl, hp⟩ := choose_list (p := fun i x => w.cells? 0 (a'.add (i * K)) K = some (cs x) ∧ good x) len fun i hi => by
      obtain ⟨es, h4, h5⟩ := h3 i hi
      obtain ⟨x, rfl, hg⟩ := helem es h5
      exact ⟨x, h4, hg⟩
    refine ⟨l, ⟨some a', cap, by rw [hl], by omega, h2, ?_⟩, hl, fun x hx => ?_⟩
    · cases hl0 : l with
      | nil => exact .inl ⟨rfl, fun h => by cases h⟩
      | cons x0 l' =>
        right
        have h0 := (hp 0 x0 (by rw [hl0]; rfl)).1
        obtain ⟨g1, g2⟩ := cells_get h0
        have g3 := g2 0 hK0
        have g4 : (cs x0)[0]? = some ((cs x0)[0]'(by omega)) := List.getElem?_eq_getElem _
        rw [g4] at g3
        have e0 : (a'.add (0 * K)).add 0 = a' := by simp [Addr.add]
        rw [e0] at g3
        obtain ⟨e1, e2⟩ := cell_addr g3
        refine ⟨a'.block, a'.off, congrArg some e1, e2, fun i x hx j hj => ?_⟩
        rw [← hl0] at hx
        have h6 := (cells_get (hp i x hx).1).2 j hj
        rw [← h6, e1]
        congr 1
        by_cases hi : i * K = 0
        · by_cases hj0 : j = 0
          · simp [hi, hj0, Addr.add]
          · rw [hi, show ((⟨a'.block, a'.off, none⟩ : Addr).add 0) = ⟨a'.block, a'.off, none⟩ from rfl, add_none _ hj0]; simp
        · rw [add_none _ hi]
          by_cases hj0 : j = 0
          · simp [hj0, Addr.add]
          · rw [add_none _ hj0]
    · obtain ⟨i, hi⟩ := List.mem_iff_getElem?.1 hx
      exact (hp i x hi).2

end
end Go.Proofs.Ytbeolkjegipldaa
