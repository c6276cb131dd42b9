/- How a book lies in memory; the first calls of it. -/
import Derived.Test.YtbeolkjegipldaaBase
import Derived.Test.YtbeolkjegipldaaDeal0
import Derived.Laws.StructEq
namespace Go.Proofs.Ytbeolkjegipldaa
open Go.RowKit DL

def DL.Dl.cs (d : Dl) : List Value := [.int .i64 d.id, .int .i64 d.a, .int .i64 d.b, .int .i64 d.sc, .int .i64 d.bc, .int .i64 d.sell, .int .i64 d.buy]
def DL.En.cs (e : En) : List Value := [.int .i64 e.d.id, .int .i64 e.d.a, .int .i64 e.d.b, .int .i64 e.d.sc, .int .i64 e.d.bc, .int .i64 e.d.sell, .int .i64 e.d.buy, .int .i64 e.st, .int .i64 e.ak, .int .i64 e.od]
def flatE (l : List En) : List Value := l.flatMap (·.cs)

theorem flatE_len (l : List En) : (flatE l).length = l.length * 10 := by
  induction l with
  | nil => rfl
  | cons a l ih => simp only [flatE, List.flatMap_cons, List.length_append] at ih ⊢; rw [ih]; simp [DL.En.cs]; omega

theorem flatE_get (l : List En) (i j : Nat) (hi : i < l.length) (hj : j < 10) : (flatE l)[i * 10 + j]? = (nth l i).cs[j]? := by
  induction l generalizing i with
  | nil => simp at hi
  | cons a l ih =>
    simp only [flatE, List.flatMap_cons]
    cases i with
    | zero =>
      rw [List.getElem?_append_left (by simp [DL.En.cs]; omega)]
      simp [nth]
    | succ i =>
      rw [List.getElem?_append_right (by simp [DL.En.cs]; omega)]
      have e : (i + 1) * 10 + j - a.cs.length = i * 10 + j := by simp [DL.En.cs]; omega
      rw [e]
      have := ih i (by simpa using hi)
      simp only [flatE] at this
      rw [this]
      simp [nth]

theorem info_entry : (Try.prog.info? 65).map (fun i => (i.zero, i.size, i.bytes)) = some (some (.agg #[.int .i64 0, .int .i64 0, .int .i64 0, .int .i64 0, .int .i64 0, .int .i64 0, .int .i64 0, .int .i64 0, .int .i64 0, .int .i64 0]), 10, 80) := by kernel_rfl

theorem stood_deal : Try.prog.stoodInHeld 33 = false := by kernel_rfl
theorem guard_deal : Try.prog.eqGuardType Try.prog.depth 33 = false := by kernel_rfl
theorem und_deal : Try.prog.underlying 33 = some (.struct (Try.prog.fieldsOf 33)) := by kernel_rfl

theorem neq_deal (i a b s c x y i' a' b' s' c' x' y' : Int) (w : World) :
   (binOp .neq 33 (.agg #[.int .i64 i, .int .i64 a, .int .i64 b, .int .i64 s, .int .i64 c, .int .i64 x, .int .i64 y]) (.agg #[.int .i64 i', .int .i64 a', .int .i64 b', .int .i64 s', .int .i64 c', .int .i64 x', .int .i64 y'])).run Try.prog w = .ok (.bool (!decide ((⟨i, a, b, s, c, x, y⟩ : Dl) = ⟨i', a', b', s', c', x', y'⟩))) w := by
  rw [run_neq_struct, run_equalIn_agg w 9999 33 _ _ und_deal stood_deal]
  simp [go_sem, Try.underlying33, Try.underlying3, Try.underlying2]
  repeat (split <;> simp_all)
theorem eqg_deal (op : BinOp) (x y : Operand) (xs ys : Array Value) (w : World) : (eqGuard op 33 x y (.agg xs) (.agg ys)).run Try.prog w = .ok () w := run_eqGuard_agg w op _ x y xs ys guard_deal

/-- A book lies at block p: the map at block mp, the entries in the slice v. -/
structure BookRep (w : World) (p : Nat) (B : Bk) (v : Value) (mp : Nat) : Prop where
  hdr : Has w p [.int .i64 B.m, .int .i64 B.c, v, .map (some mp), .int .i64 B.k] 56
  row : w.ownsRow 0 65 10 v B.l.length (flatE B.l)
  map : MapI w mp (fun id => (idx B.l id).map (fun i => .int .i64 (i : Nat)))
  a1 : p ≠ mp
  a2 : v.ownBlock ≠ some p
  a3 : v.ownBlock ≠ some mp

/-- The blocks that a book takes. -/
def bookF (p mp : Nat) (v : Value) : Nat → Prop := fun k => k = p ∨ k = mp ∨ v.ownBlock = some k

set_option maxHeartbeats 400000 in
theorem two_any (a b m : Int) (w : World) :
    Calls Try.prog 51 #[.int .i64 a, .int .i64 b, .int .i64 m] w fun e w' => e = .returned (.bool (twoB a b m)) ∧ w' = w := by
  go_enter Try.func51, Try.ntmps51
  go_wp2
  all_goals
    go_ret
    refine ⟨ret_bool ?_, rfl⟩
    rw [Bool.eq_iff_iff]
    simp [twoB]
    try omega

set_option maxHeartbeats 1000000 in
theorem may_any (i a b s c x y m n : Int) (p : Nat) (w : World) (hm : w.cell? ⟨p, 0, none⟩ = some (.int .i64 m)) (hn : w.cell? ⟨p, 1, none⟩ = some (.int .i64 n)) :
    Calls Try.prog 38 #[.pointer (some ⟨p, 0, none⟩), .agg #[.int .i64 i, .int .i64 a, .int .i64 b, .int .i64 s, .int .i64 c, .int .i64 x, .int .i64 y]] w fun e w' => e = .returned (.bool (mayB m n ⟨i,a,b,s,c,x,y⟩)) ∧ Below w.heap.size w w' := by
  have hp := World.block_lt_of_cell? _ _ hm
  go_enter Try.func38, Try.ntmps38
  go_wp2
  refine wp_region_quiet_lit (by kernel_rfl) (by kernel_rfl) ?_
  repeat (any_goals (first | go_big_quiet_step (((go_at_call 51; exact Calls.quiet_of_same (two_any _ _ _ _)))) | quiet_step (((go_at_call 51; exact Calls.quiet_of_same (two_any _ _ _ _)))) | (refine wpQuiet_step (fun K hK => ?_); go_simp; split <;> (refine hK _ ?_; clear hK K))))
  all_goals (refine wpQuiet_nil ?_; intro _ hw'; obtain ⟨nq, hw''⟩ := hw'; subst hw'')
  all_goals
    go_wp2
    go_ret
    refine ⟨ret_bool ?_, ?_⟩
    · simp [mayB, *]
      try omega
    · (repeat (first | exact Below.refl _ _ | assumption | refine below_drewN ?_ _ | refine Below.drew ?_ | refine Below.alloc ?_ (by simp) _ | refine Below.setCell ?_ (by simp) _))

end Go.Proofs.Ytbeolkjegipldaa
