/- The arguments that are operations, read. -/
import Derived.Test.YtbeolkjegipldaaMore
import Derived.Test.YtbeolkjegipldaaStays
import Derived.Test.YtbeolkjegipldaaBookTo
namespace Go.Proofs.Ytbeolkjegipldaa
open Go.RowKit DL

theorem len7 {α : Type} {l : List α} (h : l.length = 7) : ∃ a b c d e f g, l = [a, b, c, d, e, f, g] := by
  match l, h with
  | [a, b, c, d, e, f, g], _ => exact ⟨a, b, c, d, e, f, g, rfl⟩
theorem len10 {α : Type} {l : List α} (h : l.length = 10) : ∃ a b c d, l = a :: b :: c :: d ∧ d.length = 7 := by
  match l, h with
  | a :: b :: c :: d, h => exact ⟨a, b, c, d, rfl, by simpa using h⟩

theorem wf_i64 {n : Int} (h : (Lit.int .i64 n).wf = true) : -9223372036854775808 ≤ n ∧ n ≤ 9223372036854775807 := by
  have h : (decide (IntKind.i64.min ≤ n) && decide (n ≤ IntKind.i64.max)) = true := h
  rw [Bool.and_eq_true] at h
  have a := of_decide_eq_true h.1
  have b := of_decide_eq_true h.2
  rw [show IntKind.i64.min = -9223372036854775808 by decide] at a
  rw [show IntKind.i64.max = 9223372036854775807 by decide] at b
  exact ⟨a, b⟩

/-- An instruction that may be held. -/
def DFit (d : Dl) : Prop := d.sell ≤ 9223372036854775807 ∧ d.buy ≤ 9223372036854775807

theorem deal_read {H : Type} {enc : TypeId × Value → H} {w : World} {sp : Nat → Bool} {hd : Bool} {cs : List Value} (h : RdT enc Try.prog w sp hd 33 cs) : ∃ d : Dl, cs = (dlA d).toList ∧ DFit d := by
  obtain ⟨hl, hf⟩ := h.struct Try.underlying33
  have hl : cs.length = 7 := hl.trans (by kernel_rfl)
  obtain ⟨c0, c1, c2, c3, c4, c5, c6, rfl⟩ := len7 hl
  simp only [List.forall_mem_cons] at hf
  obtain ⟨h0, h1, h2, h3, h4, h5, h6, _⟩ := hf
  obtain ⟨n0, e0, _⟩ := h0.int (k := .i64) (by kernel_rfl)
  obtain ⟨n1, e1, _⟩ := h1.int (k := .i64) (by kernel_rfl)
  obtain ⟨n2, e2, _⟩ := h2.int (k := .i64) (by kernel_rfl)
  obtain ⟨n3, e3, _⟩ := h3.int (k := .i64) (by kernel_rfl)
  obtain ⟨n4, e4, _⟩ := h4.int (k := .i64) (by kernel_rfl)
  obtain ⟨n5, e5, w5⟩ := h5.int (k := .i64) (by kernel_rfl)
  obtain ⟨n6, e6, w6⟩ := h6.int (k := .i64) (by kernel_rfl)
  refine ⟨⟨n0, n1, n2, n3, n4, n5, n6⟩, ?_, (wf_i64 w5).2, (wf_i64 w6).2⟩
  have g0 := (List.cons.inj (Eq.trans (show [c0] = _ by kernel_rfl) e0)).1
  have g1 := (List.cons.inj (Eq.trans (show [c1] = _ by kernel_rfl) e1)).1
  have g2 := (List.cons.inj (Eq.trans (show [c2] = _ by kernel_rfl) e2)).1
  have g3 := (List.cons.inj (Eq.trans (show [c3] = _ by kernel_rfl) e3)).1
  have g4 := (List.cons.inj (Eq.trans (show [c4] = _ by kernel_rfl) e4)).1
  have g5 := (List.cons.inj (Eq.trans (show [c5] = _ by kernel_rfl) e5)).1
  have g6 := (List.cons.inj (Eq.trans (show [c6] = _ by kernel_rfl) e6)).1
  rw [g0, g1, g2, g3, g4, g5, g6]
  rfl

def opC (o : Opr) : List Value := [.int .i64 o.op, .int .i64 o.mem, .int .i64 o.id, .int .i64 o.d.id, .int .i64 o.d.a, .int .i64 o.d.b, .int .i64 o.d.sc, .int .i64 o.d.bc, .int .i64 o.d.sell, .int .i64 o.d.buy]

theorem op_read {H : Type} {enc : TypeId × Value → H} {w : World} {sp : Nat → Bool} {hd : Bool} {cs : List Value} (h : RdT enc Try.prog w sp hd 35 cs) : ∃ o : Opr, cs = opC o ∧ DFit o.d := by
  obtain ⟨hl, hf⟩ := h.struct Try.underlying35
  have hl : cs.length = 10 := hl.trans (by kernel_rfl)
  obtain ⟨c0, c1, c2, ds, rfl, hds⟩ := len10 hl
  obtain ⟨c3, c4, c5, c6, c7, c8, c9, rfl⟩ := len7 hds
  simp only [List.forall_mem_cons] at hf
  obtain ⟨h0, h1, h2, h3, _⟩ := hf
  obtain ⟨n0, e0, _⟩ := h0.int (k := .i64) (by kernel_rfl)
  obtain ⟨n1, e1, _⟩ := h1.int (k := .i64) (by kernel_rfl)
  obtain ⟨n2, e2, _⟩ := h2.int (k := .i64) (by kernel_rfl)
  obtain ⟨d, e3, hd⟩ := deal_read h3
  refine ⟨⟨n0, n1, n2, d⟩, ?_, hd⟩
  have g0 := (List.cons.inj (Eq.trans (show [c0] = _ by kernel_rfl) e0)).1
  have g1 := (List.cons.inj (Eq.trans (show [c1] = _ by kernel_rfl) e1)).1
  have g2 := (List.cons.inj (Eq.trans (show [c2] = _ by kernel_rfl) e2)).1
  have g3 := Eq.trans (show [c3, c4, c5, c6, c7, c8, c9] = _ by kernel_rfl) e3
  rw [g0, g1, g2, g3]
  rfl

theorem ops_read {H : Type} {enc : TypeId × Value → H} {w : World} {sp : Nat → Bool} {hd : Bool} {a : Option Addr} {len cap : Nat} (h : RdT enc Try.prog w sp hd 22 [.slice a len cap]) :
    ∃ l : List Opr, RowsR w (.slice a len cap) 10 opC l ∧ l.length = len ∧ ∀ o ∈ l, DFit o.d :=
  RdT.rows Try.underlying22 (K := 10) (by kernel_rfl) (by decide) opC (fun o => DFit o.d) (fun es he => op_read he) h
end Go.Proofs.Ytbeolkjegipldaa
