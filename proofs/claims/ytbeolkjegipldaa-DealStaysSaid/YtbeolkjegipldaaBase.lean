/- The base of all walks: what a call leaves alone; blocks that are known whole. -/
import Derived.Test.YtbeolkjegipldaaProg
import Derived.WalkKit
import Derived.WalkLawsBesides
import Derived.WalkSpells
import Derived.Outline
import Derived.Deep.QuietTactic
import Derived.BigQuiet
import Derived.BigRegion
import Derived.Deep.AppendLies
import Derived.Deep.RegionHeld3
import Derived.StillTailTactics
import Derived.Lib.QuietBelow
import Derived.Lib.Hide
import Derived.Deep.LoopGhost
import Derived.Deep.DeepCutAuto
import Derived.Deep.DeepFit
import Derived.Deep.DeepMust
import Derived.Laws.EntriesVeiled
import Derived.Deep.Light
import Derived.Test.YtbeolkjegipldaaMapI
import Derived.Test.YtbeolkjegipldaaSched
namespace Go.Proofs.Ytbeolkjegipldaa
open Go.RowKit

theorem ret_bool {a b : Bool} (h : a = b) : Ending.returned (.bool a) = .returned (.bool b) := by rw [h]
theorem ret_int {k : IntKind} {a b : Int} (h : a = b) : Ending.returned (.int k a) = .returned (.int k b) := by rw [h]

/-- What a call leaves: blocks outside F are as they were. -/
structure Keeps (F : Nat → Prop) (w w' : World) : Prop where
  os : w'.os = w.os
  tape : w'.tape = w.tape
  output : w'.output = w.output
  size : w.heap.size ≤ w'.heap.size
  block : ∀ k, k < w.heap.size → ¬ F k → w'.heap[k]? = w.heap[k]?

theorem Keeps.refl (F : Nat → Prop) (w : World) : Keeps F w w := ⟨rfl, rfl, rfl, Nat.le_refl _, fun _ _ _ => rfl⟩

theorem Keeps.trans {F G : Nat → Prop} {a b c : World} (h : Keeps F a b) (k : Keeps G b c) (hs : ∀ j, j < a.heap.size → G j → F j) : Keeps F a c :=
  ⟨k.os.trans h.os, k.tape.trans h.tape, k.output.trans h.output, Nat.le_trans h.size k.size,
    fun j hj hf => (k.block j (Nat.lt_of_lt_of_le hj h.size) (fun hg => hf (hs j hj hg))).trans (h.block j hj hf)⟩

theorem Keeps.of_below {F : Nat → Prop} {w w' : World} (h : Below w.heap.size w w') : Keeps F w w' :=
  ⟨h.os, h.tape, h.output, h.size, fun k hk _ => h.block k hk⟩

theorem Keeps.mono {F G : Nat → Prop} {w w' : World} (h : Keeps F w w') (hs : ∀ j, j < w.heap.size → F j → G j) : Keeps G w w' :=
  ⟨h.os, h.tape, h.output, h.size, fun k hk hg => h.block k hk (fun hf => hg (hs k hk hf))⟩

theorem Keeps.below {F : Nat → Prop} {w w' : World} (h : Keeps F w w') {B : Nat} (hB : ∀ k, k < B → k < w.heap.size ∧ ¬ F k) : Below B w w' :=
  ⟨h.os, h.tape, h.output, h.size, fun k hk => h.block k (hB k hk).1 (hB k hk).2⟩

/-- Block b holds just these cells, and may be written. -/
def Has (w : World) (b : Nat) (cs : List Value) (t : TypeId) : Prop := w.heap[b]? = some (.cells cs.toArray t (0, 0))

theorem Has.lt {w : World} {b : Nat} {cs : List Value} {t : TypeId} (h : Has w b cs t) : b < w.heap.size := lt_of_block h
theorem Has.cell {w : World} {b : Nat} {cs : List Value} {t : TypeId} (h : Has w b cs t) (i : Nat) : w.cell? ⟨b, i, none⟩ = cs[i]? := by
  rw [cell_of_row w b i _ t _ h]; simp
theorem Has.free {w : World} {b : Nat} {cs : List Value} {t : TypeId} (h : Has w b cs t) (i : Nat) : w.frozen? ⟨b, i, none⟩ = false := by
  simp [World.frozen?, show w.heap[b]? = _ from h]
theorem Has.of_block {w w' : World} {b : Nat} {cs : List Value} {t : TypeId} (h : Has w b cs t) (e : w'.heap[b]? = w.heap[b]?) : Has w' b cs t := e.trans h
theorem Has.set {w : World} {b : Nat} {cs : List Value} {t : TypeId} (h : Has w b cs t) (i : Nat) (v : Value) : Has (w.setCell ⟨b, i, none⟩ v) b (cs.set i v) t := by
  have hlt := h.lt
  have h' : w.heap[b] = .cells cs.toArray t (0, 0) := by
    have := h; unfold Has at this; rw [Array.getElem?_eq_getElem hlt] at this; exact Option.some.inj this
  show (w.heap.modify b _)[b]? = _
  rw [Array.getElem?_eq_getElem (by simpa using hlt), Array.getElem_modify_self, h']
  simp
theorem Has.new (w : World) (cs : List Value) (t : TypeId) : Has (w.alloc (.cells cs.toArray t)) w.heap.size cs t := heap_alloc_new w _

theorem Keeps.setCell {F : Nat → Prop} {w w' : World} (h : Keeps F w w') {b : Nat} (i : Nat) (v : Value) (hF : F b) : Keeps F w (w'.setCell ⟨b, i, none⟩ v) :=
  ⟨h.os, h.tape, h.output, by have := h.size; simpa [World.setCell] using this, fun k hk hf => (Below.heap_setCell w' ⟨b, i, none⟩ v k (fun e => hf (by rw [e]; exact hF))).trans (h.block k hk hf)⟩

theorem Keeps.alloc {F : Nat → Prop} {w w' : World} (h : Keeps F w w') (o : Obj) : Keeps F w (w'.alloc o) :=
  ⟨h.os, h.tape, h.output, by have := h.size; simp; omega, fun k hk hf => (Below.heap_alloc w' o k (Nat.lt_of_lt_of_le hk h.size)).trans (h.block k hk hf)⟩

theorem Keeps.drew {F : Nat → Prop} {w w' : World} (h : Keeps F w w') : Keeps F w w'.drew := ⟨h.os, h.tape, h.output, h.size, h.block⟩
theorem Keeps.drewN {F : Nat → Prop} {w w' : World} (h : Keeps F w w') (n : Nat) : Keeps F w (w'.drewN n) := h.trans (G := fun _ => False) (Keeps.of_below (below_drewN (Below.refl _ _) n)) (fun _ _ h => h.elim)

theorem Keeps.grown {F : Nat → Prop} {w w' w2 : World} (h : Keeps F w w') {row : Option Nat} (hg : w'.grownBy w2 row) (hr : ∀ k, row = some k → w.heap.size ≤ k ∨ F k) : Keeps F w w2 :=
  ⟨hg.os.trans h.os, hg.tape.trans h.tape, hg.output.trans h.output, Nat.le_trans h.size hg.size,
    fun k hk hf => (hg.block k (Nat.lt_of_lt_of_le hk h.size) (fun e => (hr k e.symm).elim (fun h => by omega) hf)).trans (h.block k hk hf)⟩

theorem heap_setCell_far (w : World) {b k : Nat} (i : Nat) (v : Value) (h : b ≠ k) : (w.setCell ⟨b, i, none⟩ v).heap[k]? = w.heap[k]? := Below.heap_setCell w ⟨b, i, none⟩ v k (Ne.symm h)
theorem heap_alloc_far (w : World) (o : Obj) {k : Nat} (h : k < w.heap.size) : (w.alloc o).heap[k]? = w.heap[k]? := Below.heap_alloc w o k h

end Go.Proofs.Ytbeolkjegipldaa
