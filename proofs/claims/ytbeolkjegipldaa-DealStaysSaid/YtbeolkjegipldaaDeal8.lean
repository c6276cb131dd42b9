/- Text: numbers laid by bytes. -/
import Derived.Test.YtbeolkjegipldaaDeal7
import Derived.Laws.ShiftsVar
namespace Go.Proofs.Ytbeolkjegipldaa
open Go.RowKit DL

/-- A number by so many bytes, the greatest first. -/
def be (n : Int) (m : Nat) : List Int := (List.range m).map fun j => n / 2 ^ (8 * (m - 1 - j)) % 256

theorem be_len (n : Int) (m : Nat) : (be n m).length = m := by simp [be]
theorem be_take (n : Int) (m j : Nat) (hj : j < m) : (be n m).take (j + 1) = (be n m).take j ++ [n / 2 ^ (8 * (m - 1 - j)) % 256] := by
  rw [List.take_succ_eq_append_getElem (by rw [be_len]; exact hj)]
  simp [be]

/-- An int64's range. -/
def InI64 (n : Int) : Prop := -9223372036854775808 ≤ n ∧ n ≤ 9223372036854775807

theorem info_byte : (Try.prog.info? 5).map (fun i => (i.zero, i.size, i.bytes)) = some (some (.int .u8 0), 1, 1) := by kernel_rfl

/-- A slice of bytes that may be appended to. -/
def BytesIn (w : World) (base : Nat) (v : Value) (l : List Int) : Prop := w.ownsRow base 5 1 v l.length (l.map (Value.int .u8))

theorem BytesIn.snoc {w : World} {base : Nat} {v : Value} {l : List Int} {x : Int} (h : w.ownsRow base 5 1 v (l.length + 1) (l.map (Value.int .u8) ++ [.int .u8 x])) : BytesIn w base v (l ++ [x]) := by
  have e1 : (l ++ [x]).length = l.length + 1 := by simp
  have e2 : (l ++ [x]).map (Value.int .u8) = l.map (Value.int .u8) ++ [.int .u8 x] := by simp
  unfold BytesIn
  rw [e1, e2]; exact h

def AppPost (w : World) (base : Nat) (v : Value) (l : List Int) (e : Ending) (w' : World) : Prop :=
  ∃ v', e = .returned v' ∧ BytesIn w' base v' l ∧ Keeps (fun k => v.ownBlock = some k) w w' ∧ (∀ g, v'.ownBlock = some g → v.ownBlock = some g ∨ w.heap.size ≤ g)

def LayRel (w : World) (base : Nat) (v : Value) (bs : List Int) (n : Int) (m : Nat) (u i : Value) (wr : World) : Prop :=
  ∃ j : Nat, j ≤ m ∧ i = .int .i64 ((m : Int) - 1 - j) ∧ BytesIn wr base u (bs ++ (be n m).take j) ∧ Keeps (fun k => v.ownBlock = some k) w wr ∧ (∀ g, u.ownBlock = some g → v.ownBlock = some g ∨ w.heap.size ≤ g)

set_option maxHeartbeats 2000000 in
set_option maxRecDepth 100000 in
theorem lay_any (base : Nat) (v : Value) (bs : List Int) (n : Int) (m : Nat) (w : World) (hm : m ≤ 8) (hown : BytesIn w base v bs) (hlen : bs.length ≤ 1000000) (hb : base ≤ w.heap.size) (hn : InI64 n) :
    Calls Try.prog 29 #[v, .int .i64 n, .int .i64 m] w (AppPost w base v (bs ++ be n m)) := by
  go_enter Try.func29, Try.ntmps29
  go_wp2_with fail
  go_loopw [0, 7] (fun u i wr => LayRel w base v bs n m u i wr) (fun _ i _ => (intOf i + 1).toNat)
  case atStart => exact ⟨0, Nat.zero_le _, by simp, by simpa using hown, Keeps.refl _ _, fun _ hg => .inl hg⟩
  case round =>
    obtain ⟨j, hj, rfl, hr, hkp, hat⟩ := hrel
    by_cases hlt : j < m
    · have hi0 : (0 : Int) ≤ (m : Int) - 1 - j := by omega
      have hi1 : (m : Int) - 1 - j ≤ 7 := by omega
      obtain ⟨i0, hi, hz0, hz1, hz2⟩ := info_parts info_byte
      have hl : (bs ++ (be n m).take j).length ≤ 1000010 := by simp [be_len]; omega
      have hsz := hkp.size
      have hbt := be_take n m j hlt
      generalize hL : bs ++ (be n m).take j = L at *
      have HL := Lib.hid hL
      have HB := Lib.hid hbt
      clear hL hbt
      go_wp2_with (at_builtin; go_must (refine wpList_append_lies _ rfl (.tmp 14) (.tmp 20) 62 rfl base 5 i0 (.int .u8 0) 1 1 Try.underlying62 hi hz0 hz1 hz2 rfl (by decide) u0 _ _ rfl (World.ownsRow.alloc hr _) ⟨_, 0, none⟩ 1 1 [_] rfl rfl (news_one _ _ _ (by simp)) (by simp [Value.oneCell']) (by omega) (by unfold maxLen; omega) (by omega) (by simp; omega) _ rfl ?_); intro g2 cap2 w2 hown2 hgrow2 hat2 hlt2)
      go_roundw
      case rel =>
        refine ⟨j + 1, by omega, ?_, ?_, ?_, ?_⟩
        · have : (m : Int) - 1 - (j : Int) - 1 = (m : Int) - 1 - ((j + 1 : Nat) : Int) := by omega
          rw [this]
        · rw [HB.out, ← List.append_assoc, HL.out]
          exact BytesIn.snoc hown2
        · exact (hkp.alloc _).grown hgrow2 (fun q hq => (hat q hq).symm)
        · intro q hq
          have : q = g2 := by simpa [Value.ownBlock] using hq.symm
          subst this
          rcases hat2 with h2 | h2
          · exact hat q h2
          · right; simp at h2; omega
      case measure => simp [intOf]; omega
    · obtain rfl : j = m := by omega
      have hi0 : (j : Int) - 1 - j = -1 := by omega
      rw [hi0]
      clear hi0
      go_wp2_with fail
      go_ret
      rw [List.take_of_length_le (by rw [be_len]; exact Nat.le_refl _)] at hr
      exact ⟨_, rfl, hr, hkp, hat⟩

end Go.Proofs.Ytbeolkjegipldaa
