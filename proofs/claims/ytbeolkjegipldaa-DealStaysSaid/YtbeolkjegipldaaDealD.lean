/- New, take, could. -/
import Derived.Test.YtbeolkjegipldaaDealC
import Derived.Laws.IdiomStrings
namespace Go.Proofs.Ytbeolkjegipldaa
open Go.RowKit DL

/-- A book that the call made. -/
structure BookMade (w w' : World) (B : Bk) (p mp : Nat) (v : Value) : Prop where
  rep : BookRep w' p B v mp
  pn : w.heap.size ≤ p
  mn : w.heap.size ≤ mp
  vn : ∀ q, v.ownBlock = some q → w.heap.size ≤ q
  bel : Below w.heap.size w w'

def fitB (m c : Int) : Bool := decide (1 ≤ m ∧ m ≤ 16 ∧ 1 ≤ c ∧ c ≤ 8)

def NewPost (w : World) (m c : Int) (e : Ending) (w' : World) : Prop :=
  (fitB m c = true ∧ ∃ p mp, e = .returned (.tuple #[.pointer (some ⟨p, 0, none⟩), .int .i64 0]) ∧ BookMade w w' ⟨m, c, [], 0⟩ p mp (.slice none 0 0)) ∨
  (fitB m c = false ∧ e = .returned (.tuple #[.pointer none, .int .i64 1]) ∧ Below w.heap.size w w')

set_option maxHeartbeats 1000000 in
theorem new_any (m c : Int) (w : World) :
    Calls Try.prog 8 #[.int .i64 m, .int .i64 c] w (NewPost w m c) := by
  by_cases h1 : m < 1
  · have hf : fitB m c = false := by simp [fitB]; omega
    go_enter Try.func8, Try.ntmps8
    go_wp2
    go_ret2
    exact .inr ⟨hf, rfl, Below.refl _ _⟩
  by_cases h2 : 16 < m
  · have hf : fitB m c = false := by simp [fitB]; omega
    go_enter Try.func8, Try.ntmps8
    go_wp2
    go_ret2
    exact .inr ⟨hf, rfl, Below.refl _ _⟩
  by_cases h3 : c < 1
  · have hf : fitB m c = false := by simp [fitB]; omega
    go_enter Try.func8, Try.ntmps8
    go_wp2
    go_ret2
    exact .inr ⟨hf, rfl, Below.refl _ _⟩
  by_cases h4 : 8 < c
  · have hf : fitB m c = false := by simp [fitB]; omega
    go_enter Try.func8, Try.ntmps8
    go_wp2
    go_ret2
    exact .inr ⟨hf, rfl, Below.refl _ _⟩
  · have hf : fitB m c = true := by simp [fitB]; omega
    have hmm := @run_makeMap Try.prog
    go_enter Try.func8, Try.ntmps8
    go_wp2
    go_ret2
    refine .inl ⟨hf, w.heap.size + 1, w.heap.size, rfl, ⟨?_, World.ownsRow_nil _ _ _ _, ?_, Nat.succ_ne_self _, by simp [Value.ownBlock], by simp [Value.ownBlock]⟩, Nat.le_succ _, Nat.le_refl _, by simp [Value.ownBlock], ?_⟩
    · have e := Has.new (w.alloc (.map #[] 0)) [.int .i64 m, .int .i64 c, .slice none 0 0, .map (some w.heap.size), .int .i64 0] 56
      have hs : (w.alloc (.map #[] 0)).heap.size = w.heap.size + 1 := by simp
      rw [hs] at e
      exact e
    · exact MapI.of_block (MapI.made w) (heap_alloc_far _ _ (by simp))
    · exact ((Below.refl _ _).alloc (Nat.le_refl _) _).alloc (by simp) _

/-- The number of some bytes, the first ones first. -/
def takeN (l : List UInt8) : Int := l.foldl (fun (n : Int) (c : UInt8) => n * 256 + c.toNat) 0

theorem takeN_snoc (l : List UInt8) (c : UInt8) : takeN (l ++ [c]) = takeN l * 256 + c.toNat := by simp [takeN]

theorem takeN_nonneg (l : List UInt8) : 0 ≤ takeN l := by
  suffices h : ∀ (l : List UInt8) (n : Int), 0 ≤ n → 0 ≤ l.foldl (fun (n : Int) (c : UInt8) => n * 256 + c.toNat) n from h l 0 (Int.le_refl _)
  intro l
  induction l with
  | nil => intro n hn; exact hn
  | cons a l ih => intro n hn; rw [List.foldl_cons]; exact ih _ (by omega)

theorem takeN_lt : ∀ (l : List UInt8), takeN l < 256 ^ l.length := by
  intro l
  suffices h : ∀ (l : List UInt8) (n : Int), l.foldl (fun (n : Int) (c : UInt8) => n * 256 + c.toNat) n < (n + 1) * 256 ^ l.length by
    have := h l 0
    rw [Int.zero_add, Int.one_mul] at this
    exact this
  intro l
  induction l with
  | nil => intro n; simp; omega
  | cons a l ih =>
    intro n
    refine Int.lt_of_lt_of_le (ih _) ?_
    rw [List.length_cons, Int.pow_succ]
    have ha : a.toNat < 256 := a.toNat_lt
    have : (n * 256 + a.toNat + 1) * 256 ^ l.length ≤ ((n + 1) * 256) * 256 ^ l.length := Int.mul_le_mul_of_nonneg_right (by omega) (Int.pow_nonneg (by omega))
    rw [Int.mul_comm (256 ^ l.length) 256, ← Int.mul_assoc]
    exact this

theorem or_byte (n : Nat) (hn : n < 2 ^ 56) (c : Nat) (hc : c < 256) :
    bits .or .i64 (wrap64 (wrap64 (n : Int) * 256)) (wrap64 (c : Int)) = wrap64 ((n : Int) * 256 + c) := by
  have e1 : BitVec.ofInt 64 (wrap64 (wrap64 (n : Int) * 256)) = BitVec.ofNat 64 (n * 256) := by
    apply BitVec.eq_of_toInt_eq
    rw [BitVec.toInt_ofInt, ← BitVec.ofInt_natCast, BitVec.toInt_ofInt]
    simp only [wrap64, Int.bmod]
    simp
    omega
  have e2 : BitVec.ofInt 64 (wrap64 (c : Int)) = BitVec.ofNat 64 c := by
    rw [show wrap64 (c : Int) = c from by unfold wrap64; omega]
    simp
  have e3 : (BitVec.ofNat 64 (n * 256) ||| BitVec.ofNat 64 c).toNat = n * 256 + c := by
    rw [BitVec.toNat_or, BitVec.toNat_ofNat, BitVec.toNat_ofNat, Nat.mod_eq_of_lt (by omega), Nat.mod_eq_of_lt (by omega)]
    have := Nat.shiftLeft_add_eq_or_of_lt (i := 8) (b := c) hc n
    rw [Nat.shiftLeft_eq, show (2 : Nat) ^ 8 = 256 from rfl] at this
    omega
  show IntKind.i64.wrap ((BitVec.ofInt 64 (wrap64 (wrap64 (n : Int) * 256)) ||| BitVec.ofInt 64 (wrap64 (c : Int))).toNat : Int) = _
  rw [e1, e2, e3, IntKind.wrap_i64]
  simp [wrap64]

theorem take_step (l : List UInt8) (k : Nat) (hk : k < l.length) (hl : l.length ≤ 8) :
    bits .or .i64 (wrap64 (wrap64 (takeN (l.take k)) * 256)) (wrap64 ((l.getD k 0).toNat : Int)) = wrap64 (takeN (l.take (k + 1))) := by
  have h0 := takeN_nonneg (l.take k)
  have h1 := takeN_lt (l.take k)
  have h2 : (256 : Int) ^ (l.take k).length ≤ 2 ^ 56 := by
    have : (l.take k).length ≤ 7 := by simp; omega
    generalize (l.take k).length = q at *
    match q, this with
    | 0, _ => decide
    | 1, _ => decide
    | 2, _ => decide
    | 3, _ => decide
    | 4, _ => decide
    | 5, _ => decide
    | 6, _ => decide
    | 7, _ => decide
  obtain ⟨n, hn⟩ := Int.eq_ofNat_of_zero_le h0
  rw [List.take_succ_eq_append_getElem hk, takeN_snoc, hn]
  have e : l.getD k 0 = l[k] := by simp [List.getD_eq_getElem?_getD, hk]
  rw [e]
  exact or_byte n (by omega) _ (by have := l[k].toNat_lt; omega)

/-- take: the loop's relation. -/
def TakeRel (l : List UInt8) (w1 : World) (n i : Value) (wr : World) : Prop :=
  ∃ k : Nat, k ≤ l.length ∧ i = .int .i64 k ∧ n = .int .i64 (wrap64 (takeN (l.take k))) ∧ wr = w1

set_option maxHeartbeats 1000000 in
theorem take_any (s : ByteArray) (hs : s.size ≤ 8) (w : World) :
    Calls Try.prog 37 #[.string s] w fun e w' => e = .returned (.int .i64 (wrap64 (takeN s.data.toList))) ∧ Below w.heap.size w w' := by
  have hcv := run_bytes_of_string (P := Try.prog) w 9 62 5 s Try.underlying9 Try.underlying62 Try.underlying5
  generalize grownCap w s.size 0 5 = cap at *
  obtain ⟨l, hl⟩ : ∃ l, s.data.toList = l := ⟨_, rfl⟩
  have hll : s.size = l.length := by rw [← hl]; rfl
  rw [hl]
  obtain ⟨w1, hw1⟩ : ∃ w1, w.drew.alloc (Obj.cells (bytesRow s cap) 5 ((bytesRow s cap).size, (bytesRow s cap).size + 1)) = w1 := ⟨_, rfl⟩
  rw [hw1] at hcv
  have hb1 : Below w.heap.size w w1 := by rw [← hw1]; exact (Below.drew (Below.refl _ _)).alloc (Nat.le_refl _) _
  have hcell : ∀ k, k < l.length → w1.cell? ⟨w.heap.size, k, none⟩ = some (.int .u8 (l.getD k 0).toNat) := by
    intro k hk
    have hk' : k < s.data.size := by rw [← hl] at hk; simpa using hk
    rw [← hw1]
    have hg : (w.drew.alloc (Obj.cells (bytesRow s cap) 5 ((bytesRow s cap).size, (bytesRow s cap).size + 1))).heap[w.heap.size]? = some (Obj.cells (bytesRow s cap) 5 ((bytesRow s cap).size, (bytesRow s cap).size + 1)) := heap_alloc_new w.drew _
    rw [cell_of_row _ _ _ _ _ _ hg, bytesRow_at s cap k hk', ← hl]
    rw [List.getD_eq_getElem?_getD, Array.getElem?_toList, Array.getElem?_eq_getElem hk']
    rfl
  have HC := Lib.hid hcell
  obtain ⟨L, hL⟩ : ∃ L, l.length = L := ⟨_, rfl⟩
  rw [hll, hL] at hcv hs
  have HLL := Lib.hid hL
  clear hcell hl hL hll hw1
  go_enter Try.func37, Try.ntmps37
  go_wp2_with fail
  go_loopw [3, 9] (fun n i wr => TakeRel l w1 n i wr) (fun _ i _ => L - (intOf i).toNat)
  case atStart => exact ⟨0, Nat.zero_le _, rfl, by show _ = Value.int .i64 (wrap64 0); rw [show wrap64 0 = 0 from by unfold wrap64; rfl], rfl⟩
  case round =>
    obtain ⟨k, hk, rfl, rfl, rfl⟩ := hrel
    by_cases hlt : k < L
    · have hlt' : k < l.length := by rw [HLL.out]; exact hlt
      have hc := HC.out k hlt'
      have hst := take_step l k hlt' (by rw [HLL.out]; exact hs)
      have HST := Lib.hid hst
      generalize (l.getD k 0).toNat = c at *
      clear hst
      go_wp2_with fail
      go_roundw
      case rel => exact ⟨k + 1, hlt', by go_num, by rw [← HST.out], rfl⟩
      case measure => simp [intOf]; omega
    · obtain rfl : k = L := by have := HLL.out; omega
      go_wp2_with fail
      go_ret
      exact ⟨by rw [List.take_of_length_le (by rw [HLL.out]; exact Nat.le_refl _)]; rfl, hb1⟩

instance (e : En) : Decidable e.could := by unfold En.could; infer_instance

def CouldPost (w : World) (b : Bool) (e : Ending) (w' : World) : Prop := e = .returned (.bool b) ∧ Below w.heap.size w w'

set_option maxHeartbeats 2000000 in
theorem could_any (i a b s c x y st ak od : Int) (w : World) :
    Calls Try.prog 39 #[.agg #[.int .i64 i, .int .i64 a, .int .i64 b, .int .i64 s, .int .i64 c, .int .i64 x, .int .i64 y, .int .i64 st, .int .i64 ak, .int .i64 od]] w (CouldPost w (decide (En.could ⟨⟨i,a,b,s,c,x,y⟩, st, ak, od⟩))) := by
  by_cases h1 : st = 1
  · subst h1
    by_cases h2 : ak = 0 <;> by_cases h3 : od = 0
    all_goals
      go_enter Try.func39, Try.ntmps39
      go_wp2
      go_ret
      refine ⟨by simp [En.could, h2, h3], ?_⟩
      (repeat (first | exact Below.refl _ _ | assumption | refine below_drewN ?_ _ | refine Below.drew ?_ | refine Below.alloc ?_ (by simp) _ | refine Below.setCell ?_ (by simp) _))
  by_cases h1' : st = 2
  · subst h1'
    by_cases h2 : ak < 3 <;> by_cases h3 : 0 < od
    all_goals
      go_enter Try.func39, Try.ntmps39
      go_wp2
      go_ret
      refine ⟨by simp [En.could, h2, h3], ?_⟩
      (repeat (first | exact Below.refl _ _ | assumption | refine below_drewN ?_ _ | refine Below.drew ?_ | refine Below.alloc ?_ (by simp) _ | refine Below.setCell ?_ (by simp) _))
  by_cases h1'' : st = 3
  · subst h1''
    by_cases h2 : ak < 3 <;> by_cases h3 : 0 < od
    all_goals
      go_enter Try.func39, Try.ntmps39
      go_wp2
      go_ret
      refine ⟨by simp [En.could, h2, h3], ?_⟩
      (repeat (first | exact Below.refl _ _ | assumption | refine below_drewN ?_ _ | refine Below.drew ?_ | refine Below.alloc ?_ (by simp) _ | refine Below.setCell ?_ (by simp) _))
  by_cases h4 : st = 4
  · subst h4
    by_cases h2 : ak ≤ 3 <;> by_cases h3 : 0 < od <;> by_cases h5 : ak = 0
    all_goals (try (exfalso; omega))
    all_goals
      have e5 : (ak == 0) = decide (ak = 0) := by simp [h5]
      simp only [h5] at e5
      go_enter Try.func39, Try.ntmps39
      go_wp2
      go_ret
      refine ⟨by simp [En.could, h2, h3, h5] <;> omega, ?_⟩
      (repeat (first | exact Below.refl _ _ | assumption | refine below_drewN ?_ _ | refine Below.drew ?_ | refine Below.alloc ?_ (by simp) _ | refine Below.setCell ?_ (by simp) _))
  · have e1 : (st == 1) = false := by simp [h1]
    have e2 : (st == 2) = false := by simp [h1']
    have e3 : (st == 3) = false := by simp [h1'']
    have e4 : (st == 4) = false := by simp [h4]
    go_enter Try.func39, Try.ntmps39
    go_wp2
    go_ret
    refine ⟨by simp [En.could, h1, h1', h1'', h4], ?_⟩
    (repeat (first | exact Below.refl _ _ | assumption | refine below_drewN ?_ _ | refine Below.drew ?_ | refine Below.alloc ?_ (by simp) _ | refine Below.setCell ?_ (by simp) _))

end Go.Proofs.Ytbeolkjegipldaa
