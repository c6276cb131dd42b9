/- A book's bytes, read again: the same book; and bytes that read as a book are its bytes. -/
import Derived.Test.YtbeolkjegipldaaRead
namespace Go.Proofs.Ytbeolkjegipldaa
open Go.RowKit DL

theorem snoc_ind {α : Type} {P : List α → Prop} (h0 : P []) (h1 : ∀ l a, P l → P (l ++ [a])) : ∀ l, P l := by
  intro l
  rw [← l.reverse_reverse]
  induction l.reverse with
  | nil => exact h0
  | cons a l ih => rw [List.reverse_cons]; exact h1 _ _ ih

theorem takeN_append (a b : List UInt8) : takeN (a ++ b) = takeN a * 256 ^ b.length + takeN b := by
  induction b using snoc_ind with
  | h0 => simp [takeN]
  | h1 b c ih =>
    rw [← List.append_assoc, takeN_snoc, takeN_snoc, ih, List.length_append, List.length_singleton, Int.pow_succ]
    rw [Int.add_mul, Int.mul_assoc]; omega

theorem be_succ (n : Int) (m : Nat) : be n (m + 1) = be (n / 256) m ++ [n % 256] := by
  unfold be
  rw [List.range_succ, List.map_append]
  congr 1
  · apply List.map_congr_left
    intro j hj
    have hj : j < m := List.mem_range.1 hj
    have e : 8 * (m + 1 - 1 - j) = 8 * (m - 1 - j) + 8 := by omega
    rw [e, Int.pow_add]
    rw [Int.mul_comm (2 ^ (8 * (m - 1 - j))) (2 ^ 8), ← Int.ediv_ediv_of_nonneg (by decide)]
    rfl
  · simp

theorem byte_back (x : Int) (h0 : 0 ≤ x) (h1 : x < 256) : ((UInt8.ofNat x.toNat).toNat : Int) = x := by
  have : x.toNat < 256 := by omega
  simp [UInt8.toNat_ofNat', Nat.mod_eq_of_lt this]; omega

theorem takeN_be : ∀ (m : Nat) (n : Int), takeN (bytesOf (be n m)) = n % 256 ^ m
  | 0, n => by simp [be, bytesOf, takeN, Int.emod_one]
  | m + 1, n => by
    rw [be_succ]
    show takeN (List.map _ (_ ++ [_])) = _
    rw [List.map_append, List.map_singleton, takeN_snoc]
    have ih := takeN_be m (n / 256)
    unfold bytesOf at ih
    rw [ih, byte_back _ (by omega) (by omega), Int.pow_succ]
    have h := Int.emod_emod_of_dvd n (show (256 : Int) ∣ 256 ^ m * 256 from ⟨256 ^ m, by rw [Int.mul_comm]⟩)
    have h2 := Int.emod_def n (256 ^ m * 256)
    have h3 := Int.emod_def (n / 256) (256 ^ m)
    have h4 : n / (256 ^ m * 256) = n / 256 / 256 ^ m := by rw [Int.mul_comm, ← Int.ediv_ediv_of_nonneg (by decide)]
    have h5 := Int.emod_def n 256
    rw [h2, h3, h4]
    rw [Int.sub_mul]
    generalize n / 256 / 256 ^ m = q
    have : 256 ^ m * q * 256 = 256 ^ m * 256 * q := by rw [Int.mul_assoc, Int.mul_comm q, Int.mul_assoc]
    rw [this]
    omega

theorem bytesOf_len (l : List Int) : (bytesOf l).length = l.length := by simp [bytesOf]
theorem bytesOf_append (a b : List Int) : bytesOf (a ++ b) = bytesOf a ++ bytesOf b := by simp [bytesOf]

/-- Bytes are the bytes of their number. -/
theorem be_takeN (l : List UInt8) : bytesOf (be (takeN l) l.length) = l := by
  induction l using snoc_ind with
  | h0 => simp [be, bytesOf]
  | h1 l c ih =>
    have hc : (c.toNat : Int) < 256 := by have := c.toNat_lt; omega
    rw [List.length_append, List.length_singleton, be_succ, bytesOf_append, takeN_snoc]
    have e1 : (takeN l * 256 + c.toNat) / 256 = takeN l := by omega
    have e2 : (takeN l * 256 + c.toNat) % 256 = c.toNat := by omega
    rw [e1, e2, ih]
    simp [bytesOf]

theorem encE_offs (e : En) : ∀ i, i ≤ 10 → (bytesOf (encE e i)).length = offs i
  | 0, _ => by simp [encE, bytesOf, offs]
  | i + 1, h => by
    rw [encE_succ, bytesOf_append, List.length_append, encE_offs e i (by omega), bytesOf_len, be_len, offs_succ i (by omega)]

theorem encE_split (e : En) (i : Nat) (hi : i < 10) : ∃ r, bytesOf (encE e 10) = bytesOf (encE e i) ++ (bytesOf (be ((flds e).getD i 0) (wds.getD i 0)) ++ r) := by
  suffices h : ∀ j, i + 1 ≤ j → ∃ r, bytesOf (encE e j) = bytesOf (encE e (i + 1)) ++ r by
    obtain ⟨r, hr⟩ := h 10 (by omega)
    exact ⟨r, by rw [hr, encE_succ, bytesOf_append, List.append_assoc]⟩
  intro j hj
  induction hj with
  | refl => exact ⟨[], by simp⟩
  | step _ ih =>
    obtain ⟨r, hr⟩ := ih
    exact ⟨r ++ _, by rw [encE_succ, bytesOf_append, hr, List.append_assoc]⟩

theorem chunk_len (l : List En) : (bytesOf (l.flatMap fun e => encE e 10)).length = 28 * l.length := by
  induction l with
  | nil => rfl
  | cons e l ih => rw [List.flatMap_cons, bytesOf_append, List.length_append, ih, encE_offs e 10 (by omega), List.length_cons]; show 28 + _ = _; omega

theorem drop_take_mid {α : Type} (X Y Z : List α) : ((X ++ (Y ++ Z)).drop X.length).take Y.length = Y := by
  rw [List.drop_left, List.take_left]

theorem text_bytes (B : Bk) : bytesOf B.text = bytesOf (be B.l.length 2) ++ bytesOf (B.l.flatMap fun e => encE e 10) := by
  unfold DL.Bk.text textL
  rw [List.take_length, bytesOf_append]

theorem text_fld (B : Bk) (k i : Nat) (hk : k < B.l.length) (hi : i < 10) : rdF (bytesOf B.text) (2 + 28 * k) i = wrap64 ((flds (nth B.l k)).getD i 0 % 256 ^ wds.getD i 0) := by
  have hs : B.l = B.l.take k ++ (nth B.l k :: B.l.drop (k + 1)) := by
    rw [nth_getElem hk, ← List.drop_eq_getElem_cons hk, List.take_append_drop]
  obtain ⟨r, hr⟩ := encE_split (nth B.l k) i hi
  have e : bytesOf B.text = (bytesOf (be B.l.length 2) ++ bytesOf ((B.l.take k).flatMap fun e => encE e 10) ++ bytesOf (encE (nth B.l k) i)) ++ (bytesOf (be ((flds (nth B.l k)).getD i 0) (wds.getD i 0)) ++ (r ++ bytesOf ((B.l.drop (k + 1)).flatMap fun e => encE e 10))) := by
    rw [text_bytes]
    conv => lhs; rhs; rw [hs]
    rw [List.flatMap_append, List.flatMap_cons, bytesOf_append, bytesOf_append, hr]
    simp only [List.append_assoc]
  have hlen : (bytesOf (be B.l.length 2) ++ bytesOf ((B.l.take k).flatMap fun e => encE e 10) ++ bytesOf (encE (nth B.l k) i)).length = 2 + 28 * k + offs i := by
    rw [List.length_append, List.length_append, bytesOf_len, be_len, chunk_len, encE_offs _ i (by omega), List.length_take]
    omega
  have hl2 : (bytesOf (be ((flds (nth B.l k)).getD i 0) (wds.getD i 0))).length = wds.getD i 0 := by rw [bytesOf_len, be_len]
  unfold rdF fld
  congr 1
  have := drop_take_mid (bytesOf (be B.l.length 2) ++ bytesOf ((B.l.take k).flatMap fun e => encE e 10) ++ bytesOf (encE (nth B.l k) i)) (bytesOf (be ((flds (nth B.l k)).getD i 0) (wds.getD i 0))) (r ++ bytesOf ((B.l.drop (k + 1)).flatMap fun e => encE e 10))
  rw [← e, hlen, hl2] at this
  rw [this, takeN_be]

/-- All numbers of an entry fit their widths. -/
def NarrowE (e : En) : Prop := ∀ i, i < 10 → 0 ≤ (flds e).getD i 0 ∧ (flds e).getD i 0 < 256 ^ wds.getD i 0 ∧ (flds e).getD i 0 ≤ 9223372036854775807

theorem wrap_mod {x M : Int} (h0 : 0 ≤ x) (h1 : x < M) (h2 : x ≤ 9223372036854775807) : wrap64 (x % M) = x := by
  rw [Int.emod_eq_of_lt h0 h1]; unfold wrap64; omega

theorem text_rdE (B : Bk) (k : Nat) (hk : k < B.l.length) (hn : NarrowE (nth B.l k)) : rdE (bytesOf B.text) (2 + 28 * k) = nth B.l k := by
  have h : ∀ i, i < 10 → rdF (bytesOf B.text) (2 + 28 * k) i = (flds (nth B.l k)).getD i 0 := fun i hi => by
    rw [text_fld B k i hk hi]; exact wrap_mod (hn i hi).1 (hn i hi).2.1 (hn i hi).2.2
  unfold rdE
  rw [h 0 (by omega), h 1 (by omega), h 2 (by omega), h 3 (by omega), h 4 (by omega), h 5 (by omega), h 6 (by omega), h 7 (by omega), h 8 (by omega), h 9 (by omega)]
  rfl

theorem DL.Bk.Inv.od_le {B : Bk} (h : B.Inv) : ∀ e ∈ B.l, e.od ≤ B.k := by
  intro e he
  by_cases h0 : 0 < e.od
  · have hm : e.od ∈ (B.l.filter (fun e => decide (0 < e.od))).map (·.od) := List.mem_map.2 ⟨e, List.mem_filter.2 ⟨he, by simpa using h0⟩, rfl⟩
    have := h.ord.mem_iff.1 hm
    obtain ⟨n, hn, e1⟩ := List.mem_map.1 this
    have := List.mem_range.1 hn
    have := h.k0
    omega
  · have := h.k0; omega

theorem DL.Bk.Inv.k_len {B : Bk} (h : B.Inv) : (B.k : Int) = (ods B.l).length := by
  have := h.ord.length_eq
  have h0 := h.k0
  simp at this
  unfold ods; simp; omega

theorem DL.Bk.Inv.k_le {B : Bk} (h : B.Inv) : B.k ≤ B.l.length := by
  have := h.k_len
  have h2 : (ods B.l).length ≤ B.l.length := by simp [ods]; exact List.length_filter_le _ _
  omega

def FitB (B : Bk) : Prop := ∀ e ∈ B.l, e.d.sell ≤ 9223372036854775807 ∧ e.d.buy ≤ 9223372036854775807

theorem DL.Bk.Inv.narrow {B : Bk} (h : B.Inv) (hf : FitB B) : ∀ e ∈ B.l, NarrowE e := by
  intro e he
  have h1 := h.may e he
  simp [mayB, twoB] at h1
  have h2 := could_st (h.could e he)
  have h3 := h.ak0 e he
  have h4 := h.od0 e he
  have h5 := h.od_le e he
  have h6 := h.k_le
  have h7 := h.len
  have h8 := h.m2
  have h9 := h.c2
  obtain ⟨h10, h11⟩ := hf e he
  have h12 : e.ak ≤ 3 := by rcases h.could e he with ⟨_, a, _⟩ | ⟨_, a, _⟩ | ⟨_, a, _⟩ <;> omega
  intro i hi
  match i, hi with
  | 0, _ => show 0 ≤ e.d.id ∧ e.d.id < 256 ^ 4 ∧ e.d.id ≤ _; omega
  | 1, _ => show 0 ≤ e.d.a ∧ e.d.a < 256 ^ 1 ∧ e.d.a ≤ _; omega
  | 2, _ => show 0 ≤ e.d.b ∧ e.d.b < 256 ^ 1 ∧ e.d.b ≤ _; omega
  | 3, _ => show 0 ≤ e.d.sc ∧ e.d.sc < 256 ^ 1 ∧ e.d.sc ≤ _; omega
  | 4, _ => show 0 ≤ e.d.bc ∧ e.d.bc < 256 ^ 1 ∧ e.d.bc ≤ _; omega
  | 5, _ => show 0 ≤ e.d.sell ∧ e.d.sell < 256 ^ 8 ∧ e.d.sell ≤ _; omega
  | 6, _ => show 0 ≤ e.d.buy ∧ e.d.buy < 256 ^ 8 ∧ e.d.buy ≤ _; omega
  | 7, _ => show 0 ≤ e.st ∧ e.st < 256 ^ 1 ∧ e.st ≤ _; omega
  | 8, _ => show 0 ≤ e.ak ∧ e.ak < 256 ^ 1 ∧ e.ak ≤ _; omega
  | 9, _ => show 0 ≤ e.od ∧ e.od < 256 ^ 2 ∧ e.od ≤ _; omega

theorem DL.Bk.Inv.fitE {B : Bk} (h : B.Inv) (hf : FitB B) : ∀ e ∈ B.l, FitE e := by
  intro e he i
  by_cases hi : i < 10
  · have := h.narrow hf e he i hi; exact ⟨by omega, by omega⟩
  · have : (flds e).getD i 0 = 0 := by rw [List.getD_eq_getElem?_getD, List.getElem?_eq_none (by simp [flds]; omega)]; rfl
    rw [this]; exact ⟨by decide, by decide⟩

theorem text_len (B : Bk) : (bytesOf B.text).length = 2 + 28 * B.l.length := by
  rw [text_bytes, List.length_append, chunk_len, bytesOf_len, be_len]

theorem idx_take_none {l : List En} (hn : (l.map (·.d.id)).Nodup) {k : Nat} (hk : k < l.length) : idx (l.take k) (nth l k).d.id = none := by
  unfold idx
  rw [List.findIdx?_eq_none_iff]
  intro x hx
  obtain ⟨j, hj, e⟩ := List.mem_take_iff_getElem.1 hx
  have hj1 : j < k := by omega
  have hj2 : j < l.length := by omega
  rw [nth_getElem hk]
  have := (List.nodup_iff_pairwise_ne.1 hn)
  have h2 := List.pairwise_iff_getElem.1 this j k (by simpa using hj2) (by simpa using hk) hj1
  simp at h2
  rw [← e]
  simpa using h2

theorem rdL_text (B : Bk) (h : B.Inv) (hf : FitB B) : ∀ k, k ≤ B.l.length → rdL (bytesOf B.text) B.m B.c k = some (B.l.take k)
  | 0, _ => by simp [rdL]
  | k + 1, hk => by
    have hk' : k < B.l.length := by omega
    have hm := nth_mem hk'
    rw [rdL, rdL_text B h hf k (by omega), text_rdE B k hk' (h.narrow hf _ hm)]
    have : okE B.m B.c (B.l.take k) (nth B.l k) = true := by
      simp only [okE, Bool.and_eq_true, decide_eq_true_eq]
      exact ⟨⟨h.may _ hm, h.could _ hm⟩, by rw [idx_take_none h.ids hk']; rfl⟩
    simp only [this, if_true]
    rw [List.take_succ_eq_append_getElem hk', nth_getElem hk']

/-- A BOOK's BYTES READ AS THIS BOOK. -/
theorem read_text (B : Bk) (h : B.Inv) (hf : FitB B) : readM (bytesOf B.text) B.m B.c = some B := by
  have hl := text_len B
  have hlen := h.len
  have hfit : fitB B.m B.c = true := by have := h.m1; have := h.m2; have := h.c1; have := h.c2; simp [fitB]; omega
  have h0 : fld (bytesOf B.text) 0 2 = B.l.length := by
    unfold fld
    rw [text_bytes, List.drop_zero]
    have : (bytesOf (be (B.l.length : Int) 2) ++ bytesOf (B.l.flatMap fun e => encE e 10)).take 2 = bytesOf (be (B.l.length : Int) 2) := by
      rw [List.take_append_of_le_length (by rw [bytesOf_len, be_len]; omega), List.take_of_length_le (by rw [bytesOf_len, be_len]; omega)]
    rw [this, takeN_be]
    exact wrap_mod (by omega) (by omega) (by omega)
  unfold readM
  rw [if_neg (by rw [hfit, hl]; simp), h0, if_neg (by rw [hl]; omega), Int.toNat_natCast, rdL_text B h hf _ (Nat.le_refl _), List.take_length]
  show (if (ods B.l).Perm (oneTo (ods B.l).length) then some _ else none) = _
  have hk := h.k_len
  have hp : (ods B.l).Perm (oneTo (ods B.l).length) := by
    have e : (ods B.l).length = B.k.toNat := by omega
    rw [e]; exact h.ord
  rw [if_pos hp, ← hk]

end Go.Proofs.Ytbeolkjegipldaa
