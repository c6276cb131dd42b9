/- A map from ints, as the model lays it, told by the function that it stands for: what a look-up and a store do. -/
import Derived.MapKept
import Derived.Below
import Derived.ChangeMaps4
namespace Go.Proofs.Ytbeolkjegipldaa
open Go.RowKit

def hitI (n : Int) (e : MapEntry) : Bool := match e.key with | .int .i64 m => n == m | _ => false

theorem hitI_of {n m : Int} {e : MapEntry} (h : e.key = .int .i64 m) : hitI n e = (n == m) := by simp [hitI, h]
theorem hitI_key {n : Int} {e : MapEntry} (h : hitI n e = true) : e.key = .int .i64 n := by
  unfold hitI at h
  split at h
  · rename_i m hm; simp at h; rw [hm, h]
  · simp at h

/-- Where a key stands in entries. -/
def posI (n : Int) : List MapEntry → Nat → Option (Nat × Value)
  | [], _ => none
  | e :: es, i => if hitI n e = true then some (i, e.val) else posI n es (i + 1)

def keysI (l : List MapEntry) : Prop := ∀ e ∈ l, ∃ m, e.key = .int .i64 m

/-- Block b is a map of ints that stands for f. -/
def MapI (w : World) (b : Nat) (f : Int → Option Value) : Prop :=
  ∃ es clock, w.heap[b]? = some (.map es clock) ∧ keysI es.toList ∧ ∀ n, (posI n es.toList 0).map (·.2) = f n

theorem MapI.lt {w : World} {b : Nat} {f : Int → Option Value} (h : MapI w b f) : b < w.heap.size := by
  obtain ⟨es, c, hb, _⟩ := h
  rcases Nat.lt_or_ge b w.heap.size with h' | h'
  · exact h'
  · simp [Array.getElem?_eq_none h'] at hb

theorem MapI.of_block {w w' : World} {b : Nat} {f : Int → Option Value} (h : MapI w b f) (e : w'.heap[b]? = w.heap[b]?) : MapI w' b f := by
  obtain ⟨es, c, hb, r⟩ := h
  exact ⟨es, c, e.trans hb, r⟩

theorem findNow_int (n : Int) : ∀ (l : List MapEntry) (i : Nat), keysI l → Instr.findNow (.int .i64) (.int .i64 n) l i = some (posI n l i)
  | [], i, _ => rfl
  | e :: es, i, h => by
    obtain ⟨m, hm⟩ := h e (List.mem_cons_self)
    have ih := findNow_int n es (i + 1) (fun x hx => h x (List.mem_cons_of_mem _ hx))
    simp only [Instr.findNow, hm, Instr.sameNow, posI, hitI_of hm]
    by_cases hnm : n = m
    · subst hnm; simp
    · have : (n == m) = false := by simpa using hnm
      simp [this, ih]

theorem run_findKey_int {P : Program} {w : World} {K : TypeId} (hK : P.underlying K = some (.int .i64)) {l : List MapEntry} (h : keysI l) (n : Int) :
    (Instr.findKey K (.int .i64 n) l).run P w = .ok (posI n l 0) w := by
  simp [Instr.findKey, run_underlying hK, findNow_int n l 0 h, Result.andThen]

theorem run_checkKey_int {P : Program} {w : World} {K : TypeId} (hK : P.underlying K = some (.int .i64)) (n : Int) (em : Bool) :
    (Instr.checkKey em 10000 K (.int .i64 n)).run P w = .ok () w := by
  have h : ∀ N, (Instr.checkKey em (N + 1) K (.int .i64 n)).run P w = .ok () w := by
    intro N
    simp [Instr.checkKey, run_underlying hK, Result.andThen]
  exact h 9999

theorem run_lookup_ok {P : Program} {w : World} {T K E : TypeId} (hT : P.underlying T = some (.map K E)) (hK : P.underlying K = some (.int .i64)) {z : Value} (hz : (zeroValue E).run P w = .ok z w)
    {b : Nat} {f : Int → Option Value} (h : MapI w b f) (n : Int) :
    (Instr.lookup T (.map (some b)) (.int .i64 n) true).run P w = .ok (.tuple #[(f n).getD z, .bool (f n).isSome]) w := by
  obtain ⟨es, c, hb, hk, hf⟩ := h
  have := hf n
  simp only [Instr.lookup, Sem.run_bind, run_underlying hT, MapKept.run_getObj_map hb, Result.andThen, run_checkKey_int hK]
  cases hp : posI n es.toList 0 with
  | none => simp [hp] at this; simp [run_findKey_int hK hk, hp, hz, ← this, Result.andThen]
  | some x => obtain ⟨i, v⟩ := x; simp [hp] at this; simp [run_findKey_int hK hk, hp, ← this]

theorem posI_shift (n : Int) : ∀ (l : List MapEntry) (i j : Nat), posI n l (i + j) = (posI n l i).map fun x => (x.1 + j, x.2)
  | [], _, _ => rfl
  | e :: es, i, j => by
    have := posI_shift n es (i + 1) j
    have e1 : i + 1 + j = i + j + 1 := by omega
    rw [e1] at this
    simp only [posI]
    cases hh : hitI n e <;> simp [this]

theorem posI_append (n : Int) (e : MapEntry) : ∀ (l : List MapEntry) (i : Nat), posI n l i = none → posI n (l ++ [e]) i = posI n [e] (i + l.length)
  | [], i, _ => by simp
  | x :: l, i, h => by
    simp only [posI] at h
    cases hh : hitI n x
    · simp [hh] at h
      have := posI_append n e l (i + 1) h
      simp only [List.cons_append, posI, hh, List.length_cons]
      simp only [Bool.false_eq_true, if_false]
      rw [this]
      simp only [posI]
      cases hitI n e <;> simp; omega
    · simp [hh] at h

theorem posI_append_some (n : Int) (e : MapEntry) {x : Nat × Value} : ∀ (l : List MapEntry) (i : Nat), posI n l i = some x → posI n (l ++ [e]) i = some x
  | [], i, h => by simp [posI] at h
  | y :: l, i, h => by
    simp only [posI, List.cons_append] at h ⊢
    cases hh : hitI n y
    · simp [hh] at h ⊢; exact posI_append_some n e l (i + 1) h
    · simp [hh] at h ⊢; exact h

theorem posI_ge (n : Int) : ∀ (l : List MapEntry) (i : Nat) {x : Nat × Value}, posI n l i = some x → i ≤ x.1
  | [], i, x, h => by simp [posI] at h
  | y :: l, i, x, h => by
    simp only [posI] at h
    cases hh : hitI n y
    · simp [hh] at h; exact Nat.le_of_succ_le (posI_ge n l (i + 1) h)
    · simp [hh] at h; subst h; exact Nat.le_refl _

theorem posI_key (n : Int) {k : Nat} {v : Value} : ∀ (l : List MapEntry) (i : Nat), posI n l i = some (i + k, v) → ∃ e, l[k]? = some e ∧ e.key = .int .i64 n ∧ e.val = v
  | [], i, h => by simp [posI] at h
  | y :: l, i, h => by
    simp only [posI] at h
    cases hh : hitI n y
    · simp [hh] at h
      cases k with
      | zero => have := posI_ge n l (i + 1) h; simp at this; omega
      | succ k =>
        have e1 : i + (k + 1) = i + 1 + k := by omega
        rw [e1] at h
        simpa using posI_key n l (i + 1) (k := k) (v := v) h
    · simp [hh] at h
      obtain ⟨hk, hv⟩ := h
      subst hk
      exact ⟨y, rfl, hitI_key hh, hv⟩

/-- The value at a place is another one: only that key's answer turns. -/
theorem posI_modify (n m : Int) (v u : Value) : ∀ (l : List MapEntry) (i k : Nat), posI n l i = some (i + k, u) →
    (posI m (l.modify k fun e => { e with key := .int .i64 n, val := v }) i).map (·.2) = if m = n then some v else (posI m l i).map (·.2)
  | [], i, k, h => by simp [posI] at h
  | y :: l, i, k, h => by
    obtain ⟨e, he, hek, _⟩ := posI_key n (y :: l) i h
    cases k with
    | zero =>
      simp at he; subst he
      simp only [List.modify_zero_cons, posI, hitI_of hek]
      rw [hitI_of (n := m) (m := n) (by rfl)]
      by_cases hmn : m = n
      · subst hmn; simp
      · have : (m == n) = false := by simpa using hmn
        simp [this, hmn]
    | succ k =>
      simp only [posI] at h
      cases hh : hitI n y
      · simp [hh] at h
        have e1 : i + (k + 1) = i + 1 + k := by omega
        rw [e1] at h
        have ih := posI_modify n m v u l (i + 1) k h
        simp only [List.modify_succ_cons, posI]
        by_cases hmn : m = n
        · subst hmn
          simp [hh, ih]
        · rw [if_neg hmn] at ih ⊢
          cases hitI m y
          · simp only [Bool.false_eq_true, if_false]; exact ih
          · rfl
      · simp [hh] at h

/-- What a store leaves. -/
theorem run_mapUpdate_int {P : Program} {w : World} {T K E : TypeId} (hT : P.underlying T = some (.map K E)) (hK : P.underlying K = some (.int .i64))
    {b : Nat} {f : Int → Option Value} (h : MapI w b f) (n : Int) (v : Value) :
    ∃ o, (Instr.mapUpdate T (.map (some b)) (.int .i64 n) v).run P w = .ok () { w with heap := w.heap.setIfInBounds b o } ∧
      MapI { w with heap := w.heap.setIfInBounds b o } b (fun m => if m = n then some v else f m) := by
  have hlt := h.lt
  obtain ⟨es, c, hb, hk, hf⟩ := h
  cases hp : posI n es.toList 0 with
  | none =>
    refine ⟨.map (es.push { key := .int .i64 n, val := v, born := c }) (c + 1), ?_, ?_⟩
    · simp [Instr.mapUpdate, run_underlying hT, MapKept.run_getObj_map hb, run_checkKey_int hK, run_findKey_int hK hk, hp, MapKept.run_setObj_map _ hb, Result.andThen]
    · refine ⟨es.push { key := .int .i64 n, val := v, born := c }, c + 1, by simp [hlt], ?_, ?_⟩
      · intro e he
        simp at he
        rcases he with he | he
        · exact hk e (by simpa using he)
        · subst he; exact ⟨n, rfl⟩
      · intro m
        simp only [Array.toList_push]
        by_cases hmn : m = n
        · subst hmn
          rw [posI_append _ _ _ _ hp]
          rw [posI, hitI_of (by rfl)]; simp
        · rw [if_neg hmn, ← hf m]
          have hne : (m == n) = false := by simpa using hmn
          cases hq : posI m es.toList 0 with
          | none => rw [posI_append _ _ _ _ hq, posI, hitI_of (by rfl), hne]; rfl
          | some x => rw [posI_append_some _ _ _ _ hq]
  | some x =>
    obtain ⟨i, u⟩ := x
    have hp0 : posI n es.toList 0 = some (0 + i, u) := by rw [hp]; simp
    obtain ⟨e, he, hek, hev⟩ := posI_key n es.toList 0 hp0
    have he' : es[i]? = some e := by simpa using he
    refine ⟨.map (es.modify i fun e => { e with key := .int .i64 n, val := v }) c, ?_, ?_⟩
    · have hsb : Instr.sameBits 10000 (.int .i64 n) (.int .i64 n) = true := by simp [Instr.sameBits]
      simp [Instr.mapUpdate, run_underlying hT, MapKept.run_getObj_map hb, run_checkKey_int hK, run_findKey_int hK hk, hp, he', hek, Instr.keyThatStays, hsb, MapKept.run_setObj_map _ hb, Result.andThen]
    · refine ⟨es.modify i fun e => { e with key := .int .i64 n, val := v }, c, by simp [hlt], ?_, ?_⟩
      · intro x hx
        rw [Array.toList_modify] at hx
        obtain ⟨j, hj⟩ := List.mem_iff_getElem?.1 hx
        rw [List.getElem?_modify] at hj
        cases hy : es.toList[j]? with
        | none => simp [hy] at hj
        | some y =>
          simp only [hy, Option.map_eq_map, Option.map_some, Option.some.injEq] at hj
          have hym := hk y (List.mem_of_getElem? hy)
          split at hj
          · subst hj; exact ⟨n, rfl⟩
          · subst hj; exact hym
      · intro m
        rw [Array.toList_modify, posI_modify n m v u es.toList 0 i hp0]
        show _ = if m = n then some v else f m
        rw [hf m]

theorem MapI.made (w : World) : MapI (w.alloc (.map #[] 0)) w.heap.size (fun _ => none) :=
  ⟨#[], 0, by show (w.heap.push _)[w.heap.size]? = _; simp, by intro e he; simp at he, fun _ => rfl⟩

/-- .. said of whatever world it leaves. -/
theorem run_mapUpdate_any {P : Program} {w : World} {T K E : TypeId} (hT : P.underlying T = some (.map K E)) (hK : P.underlying K = some (.int .i64))
    {b : Nat} {f : Int → Option Value} (h : MapI w b f) (n : Int) (v : Value) :
    ∃ w', (Instr.mapUpdate T (.map (some b)) (.int .i64 n) v).run P w = .ok () w' ∧ MapI w' b (fun m => if m = n then some v else f m) ∧
      (∀ k, k ≠ b → w'.heap[k]? = w.heap[k]?) ∧ w'.heap.size = w.heap.size ∧ w'.os = w.os ∧ w'.tape = w.tape ∧ w'.output = w.output := by
  obtain ⟨o, h1, h2⟩ := run_mapUpdate_int (P := P) hT hK h n v
  exact ⟨_, h1, h2, fun k hk => by simp [Array.getElem?_setIfInBounds, Ne.symm hk], by simp, rfl, rfl, rfl⟩

#print axioms run_lookup_ok
#print axioms run_mapUpdate_any
end Go.Proofs.Ytbeolkjegipldaa
