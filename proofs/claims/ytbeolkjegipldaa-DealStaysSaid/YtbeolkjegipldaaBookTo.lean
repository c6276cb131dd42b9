/- The book's contracts, where what the model makes of the call is told. -/
import Derived.Test.YtbeolkjegipldaaBook
import Derived.Test.YtbeolkjegipldaaEng6
namespace Go.Proofs.Ytbeolkjegipldaa
open Go.RowKit DL

def dlA (d : Dl) : Array Value := #[.int .i64 d.id, .int .i64 d.a, .int .i64 d.b, .int .i64 d.sc, .int .i64 d.bc, .int .i64 d.sell, .int .i64 d.buy]

def encI (n : Int) : List Value := [.int .i64 n]
theorem encI_flat (l : List Int) : l.flatMap encI = l.map (Value.int .i64) := by
  induction l with
  | nil => rfl
  | cons a l ih => simp [List.flatMap_cons, encI, ih]
/-- Ints that are one's own. -/
abbrev intsA (v : Value) (l : List Int) : As := rowsA 3 1 encI v l
theorem St.ofI {L : List As} {w : World} {v : Value} {l : List Int} (h : St (rowI v l :: L) w) : St (intsA v l :: L) w := by
  refine St.mkRows ?_; rw [encI_flat]; exact h
theorem St.toI {L : List As} {w : World} {v : Value} {l : List Int} (h : St (intsA v l :: L) w) : St (rowI v l :: L) w := by
  have := h.unRows; rw [encI_flat] at this; exact this

section
variable {L : List As} {w : World} {p : Nat} {B B' : Bk} (h : St (bookA p B :: L) w)
include h
theorem submit_to (d : Dl) (hI : B.Inv) (hk : B.k ≤ 1000) {b : Bool} {e : Int} (hs : B.submit d = (B', b, e)) :
    Calls Try.prog 18 #[.pointer (some ⟨p, 0, none⟩), .agg (dlA d)] w fun en w' => en = .returned (.tuple #[.bool b, .int .i64 e]) ∧ St (bookA p B' :: L) w' := by
  have := submit_s h d hI hk; rw [hs] at this; exact this
theorem rescind_to (mem id : Int) (hI : B.Inv) {a e : Int} (hs : B.rescind mem id = (B', a, e)) :
    Calls Try.prog 20 #[.pointer (some ⟨p, 0, none⟩), .int .i64 mem, .int .i64 id] w fun en w' => en = .returned (.tuple #[.int .i64 a, .int .i64 e]) ∧ St (bookA p B' :: L) w' := by
  have := rescind_s h mem id hI; rw [hs] at this; exact this
theorem settle_to (id : Int) {e : Int} (hs : B.settle id = (B', e)) :
    Calls Try.prog 21 #[.pointer (some ⟨p, 0, none⟩), .int .i64 id] w fun en w' => en = .returned (.int .i64 e) ∧ St (bookA p B' :: L) w' := by
  have := settle_s h id; rw [hs] at this; exact this
theorem state_to (id : Int) {e : Int} (hs : B.state id = e) :
    Calls Try.prog 19 #[.pointer (some ⟨p, 0, none⟩), .int .i64 id] w fun en w' => en = .returned (.int .i64 e) ∧ St (bookA p B :: L) w' := by
  have := state_s h id; rw [hs] at this; exact this.mono fun e w' ⟨h1, h2⟩ => ⟨h1, by rw [h2]; exact h⟩
theorem deal_to (id : Int) {d : Dl} {b : Bool} (hs : B.deal id = (d, b)) :
    Calls Try.prog 22 #[.pointer (some ⟨p, 0, none⟩), .int .i64 id] w fun en w' => en = .returned (.tuple #[.agg (dlA d), .bool b]) ∧ St (bookA p B :: L) w' := by
  have := deal_s h id; rw [hs] at this; exact this
theorem all_to (s : Int) (hI : B.Inv) {l : List Int} (hs : B.all s = l) :
    Calls Try.prog 14 #[.pointer (some ⟨p, 0, none⟩), .int .i64 s] w fun e w' => ∃ o, e = .returned o ∧ St (rowI o l :: bookA p B :: L) w' := by
  have := all_s h s hI; rw [hs] at this; exact this
theorem remove_to (mem : Int) (hI : B.Inv) {l : List Int} (hs : B.remove mem = (B', l)) :
    Calls Try.prog 23 #[.pointer (some ⟨p, 0, none⟩), .int .i64 mem] w fun e w' => ∃ o, e = .returned o ∧ St (rowI o l :: bookA p B' :: L) w' := by
  have := remove_s h mem hI; rw [hs] at this; exact this
end
theorem text_to {L : List As} {w : World} {p : Nat} {B : Bk} (h : St (bookA p B :: L) w) (hlen : B.l.length ≤ 200) (hfit : ∀ e ∈ B.l, FitE e) {s : ByteArray} (hs : strOf B.text = s) :
    Calls Try.prog 11 #[.pointer (some ⟨p, 0, none⟩)] w fun e w' => e = .returned (.string s) ∧ St (bookA p B :: L) w' := by subst hs; exact text_s h hlen hfit
theorem ints_of_blk {w : World} {g : Nat} {l : List Int} {t : TypeId} (h : Has w g (l.map (Value.int .i64)) t) : IntsR w (.slice (some ⟨g, 0, none⟩) l.length l.length) l := by
  refine ⟨_, _, rfl, .inr ⟨g, 0, rfl, h.lt, fun i hi => ?_⟩⟩
  rw [Nat.zero_add, h.cell]
  simp [List.getD_eq_getElem?_getD, List.getElem?_eq_getElem hi]
theorem same_to {L : List As} {w : World} (h : St L w) {v u : Value} {l l' : List Int} (hv : IntsR w v l) (hu : IntsR w u l') (hl : l.length ≤ 1000000) (hl' : l'.length ≤ 1000000) {b : Bool} (hb : decide (l = l') = b) :
    Calls Try.prog 13 #[v, u] w fun e w' => e = .returned (.bool b) ∧ St L w' := by subst hb; exact same_s h hv hu hl hl'

theorem Y_eqDeal {n : Nat} {s : Sl} {L : List As} {d : Option Tmp} {ty : TypeId} {pos : String} {af : Array Edge} {x y : Operand} {t' : TypeId} (D D' : Dl) (hx : ev s x = some (.agg (dlA D))) (hy : ev s y = some (.agg (dlA D'))) {b : Bool} (hb : decide (D = D') = b) : Yl Try.prog n s L ⟨d, .binOp .eql 33 x y t', ty, pos, af, none⟩ (.bool b) :=
  Y_bin hx hy (fun w => by
    have h1 := eqg_deal .eql x y (dlA D) (dlA D') w
    have h2 : (binOp .eql 33 (.agg (dlA D)) (.agg (dlA D'))).run Try.prog w = .ok (.bool b) w := by
      rw [← hb]
      obtain ⟨i, a, b, s, c, x, y⟩ := D
      obtain ⟨i', a', b', s', c', x', y'⟩ := D'
      have h3 := neq_deal i a b s c x y i' a' b' s' c' x' y' w
      rw [show binOp .neq 33 (.agg #[.int .i64 i, .int .i64 a, .int .i64 b, .int .i64 s, .int .i64 c, .int .i64 x, .int .i64 y]) (.agg #[.int .i64 i', .int .i64 a', .int .i64 b', .int .i64 s', .int .i64 c', .int .i64 x', .int .i64 y']) = (do pure (Value.bool (!(← Op.equal 33 (.agg #[.int .i64 i, .int .i64 a, .int .i64 b, .int .i64 s, .int .i64 c, .int .i64 x, .int .i64 y]) (.agg #[.int .i64 i', .int .i64 a', .int .i64 b', .int .i64 s', .int .i64 c', .int .i64 x', .int .i64 y'])))) : Sem Value) from rfl] at h3
      show (do pure (Value.bool (← Op.equal 33 (.agg #[.int .i64 i, .int .i64 a, .int .i64 b, .int .i64 s, .int .i64 c, .int .i64 x, .int .i64 y]) (.agg #[.int .i64 i', .int .i64 a', .int .i64 b', .int .i64 s', .int .i64 c', .int .i64 x', .int .i64 y']))) : Sem Value).run Try.prog w = _
      generalize Op.equal 33 _ _ = q at h3 ⊢
      simp only [Sem.run_bind, Sem.run_pure] at h3 ⊢
      cases hq : q.run Try.prog w with
      | halt hh w' => rw [hq] at h3; simp [Result.andThen] at h3
      | ok r w' =>
        rw [hq] at h3
        simp [Result.andThen] at h3 ⊢
        exact ⟨by simpa using h3.1, h3.2⟩
    simp only [Sem.run_bind, h1, Result.andThen_ok, h2]) 

theorem read_yes {L : List As} {w : World} (h : St L w) {s : ByteArray} {m c : Int} {B : Bk} (hr : readM s.data.toList m c = some B) :
    Calls Try.prog 16 #[.string s, .int .i64 m, .int .i64 c] w fun e w' => ∃ p, e = .returned (.tuple #[.pointer (some ⟨p, 0, none⟩), .int .i64 0]) ∧ St (bookA p B :: L) w' := by
  refine (read_s h s m c).mono ?_
  rintro e w' (⟨hn, _⟩ | ⟨B', hs, p, r⟩)
  · rw [hr] at hn; cases hn
  · rw [hr] at hs; obtain rfl := Option.some.inj hs; exact ⟨p, r⟩
theorem rowI_shape {L : List As} {w : World} {v : Value} {l : List Int} (h : St (rowI v l :: L) w) : ∃ a cap, v = .slice a l.length cap := by
  obtain ⟨a, cap, hv, _⟩ := h.ints
  exact ⟨a, cap, hv⟩
end Go.Proofs.Ytbeolkjegipldaa
