/- What Read makes of bytes, plainly. -/
import Derived.Test.YtbeolkjegipldaaDealD
namespace Go.Proofs.Ytbeolkjegipldaa
open Go.RowKit DL

/-- The number that lies at a place, by so many bytes. -/
def fld (bs : List UInt8) (at_ n : Nat) : Int := wrap64 (takeN ((bs.drop at_).take n))
/-- Where an entry's i-th number lies, from its beginning. -/
def offs (i : Nat) : Nat := (wds.take i).foldl (· + ·) 0
def rdF (bs : List UInt8) (at_ i : Nat) : Int := fld bs (at_ + offs i) (wds.getD i 0)
def rdE (bs : List UInt8) (at_ : Nat) : En :=
  ⟨⟨rdF bs at_ 0, rdF bs at_ 1, rdF bs at_ 2, rdF bs at_ 3, rdF bs at_ 4, rdF bs at_ 5, rdF bs at_ 6⟩, rdF bs at_ 7, rdF bs at_ 8, rdF bs at_ 9⟩

/-- May an entry be read behind those in l? -/
def okE (m c : Int) (l : List En) (e : En) : Bool := mayB m c e.d && decide e.could && (idx l e.d.id).isNone

/-- The first k entries; none: one of them is refused. -/
def rdL (bs : List UInt8) (m c : Int) : Nat → Option (List En)
  | 0 => some []
  | k + 1 => match rdL bs m c k with
    | none => none
    | some l => if okE m c l (rdE bs (2 + 28 * k)) then some (l ++ [rdE bs (2 + 28 * k)]) else none

def ods (l : List En) : List Int := (l.filter fun e => decide (0 < e.od)).map (·.od)
def oneTo (n : Nat) : List Int := (List.range n).map fun (n : Nat) => (n : Int) + 1

def readFin (m c : Int) : Option (List En) → Option Bk
  | none => none
  | some l => if (ods l).Perm (oneTo (ods l).length) then some ⟨m, c, l, (ods l).length⟩ else none

/-- The book of bytes. -/
def readM (bs : List UInt8) (m c : Int) : Option Bk :=
  if fitB m c = false ∨ bs.length < 2 then none
  else if 200 < fld bs 0 2 ∨ (bs.length : Int) ≠ 2 + 28 * fld bs 0 2 then none
  else readFin m c (rdL bs m c (fld bs 0 2).toNat)

theorem offs_succ : ∀ (i : Nat), i < 10 → offs (i + 1) = offs i + wds.getD i 0
  | 0, _ | 1, _ | 2, _ | 3, _ | 4, _ | 5, _ | 6, _ | 7, _ | 8, _ | 9, _ => by decide
theorem offs_le : ∀ (i : Nat), i < 10 → offs i + wds.getD i 0 ≤ 28
  | 0, _ | 1, _ | 2, _ | 3, _ | 4, _ | 5, _ | 6, _ | 7, _ | 8, _ | 9, _ => by decide

theorem rdL_len {bs : List UInt8} {m c : Int} : ∀ {k : Nat} {l : List En}, rdL bs m c k = some l → l.length = k
  | 0, l, h => by simp [rdL] at h; simp [h]
  | k + 1, l, h => by
    simp only [rdL] at h
    split at h
    · simp at h
    · rename_i l' h'
      split at h
      · simp at h
        rw [← h, List.length_append, rdL_len h']
        rfl
      · simp at h

theorem rdL_none {bs : List UInt8} {m c : Int} {k : Nat} (h : rdL bs m c k = none) : ∀ j, k ≤ j → rdL bs m c j = none
  | 0, hj => by
    have : k = 0 := by omega
    rw [this] at h; exact h
  | j + 1, hj => by
    by_cases e : k = j + 1
    · rw [← e]; exact h
    · rw [rdL, rdL_none h j (by omega)]

theorem takeN_small : ∀ {l : List UInt8}, l.length ≤ 2 → wrap64 (takeN l) = takeN l ∧ 0 ≤ takeN l ∧ takeN l < 65536 := by
  intro l h
  have h0 := takeN_nonneg l
  have h1 := takeN_lt l
  have h2 : (256 : Int) ^ l.length ≤ 65536 := by
    generalize l.length = q at *
    match q, h with
    | 0, _ => decide
    | 1, _ => decide
    | 2, _ => decide
  refine ⟨?_, h0, by omega⟩
  unfold wrap64
  omega

theorem fld_small (bs : List UInt8) (at_ n : Nat) (hn : n ≤ 2) : 0 ≤ fld bs at_ n ∧ fld bs at_ n < 65536 := by
  have := takeN_small (l := (bs.drop at_).take n) (by simp; omega)
  unfold fld
  omega

theorem extract_list (s : ByteArray) (a n : Nat) : (s.extract a (a + n)).data.toList = (s.data.toList.drop a).take n := by
  rw [ByteArray.data_extract, Array.toList_extract]
  simp

end Go.Proofs.Ytbeolkjegipldaa
