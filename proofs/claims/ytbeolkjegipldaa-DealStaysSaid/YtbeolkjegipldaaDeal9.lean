/- Text: the whole book as bytes. -/
import Derived.Test.YtbeolkjegipldaaDeal8
import Derived.Laws.BytesString
import Derived.Laws.Cells
namespace Go.Proofs.Ytbeolkjegipldaa
open Go.RowKit DL

def bytesOf (l : List Int) : List UInt8 := l.map fun n => UInt8.ofNat n.toNat
/-- A string of bytes. -/
def strOf (l : List Int) : ByteArray := ⟨(bytesOf l).toArray⟩

theorem strOf_fold (l : List Int) : ∀ s : ByteArray, l.foldl (fun r n => r.push (UInt8.ofNat n.toNat)) s = ⟨s.data ++ (bytesOf l).toArray⟩ := by
  induction l with
  | nil => intro s; simp [bytesOf]
  | cons n l ih =>
    intro s
    simp only [List.foldl_cons]
    rw [ih]
    congr 1
    show (s.data.push _) ++ _ = _
    simp [bytesOf]

theorem conv_bytes {w : World} {base : Nat} {v : Value} {l : List Int} (h : BytesIn w base v l) :
    (convert 62 9 v).run Try.prog w = .ok (.string (strOf l)) w := by
  rcases h.2 with ⟨hv, hn⟩ | ⟨g, cap, cur, hv, _, hg, hle, _, hs, ht⟩
  · have : l = [] := List.length_eq_zero_iff.1 hn
    subst this; subst hv
    rw [run_convert_bytes_string w _ _ 5 none 0 0 Try.underlying62 Try.underlying5 Try.underlying9]
    simp [Conv.bytesToString, strOf, bytesOf]
    rfl
  · subst hv
    rw [run_convert_bytes_string w _ _ 5 _ _ _ Try.underlying62 Try.underlying5 Try.underlying9]
    rw [run_bytesToString w _ _ _ l, strOf_fold]
    · simp [strOf]
      try rfl
    · have := run_loadCells_list (P := Try.prog) (w := w) ⟨g, 0, none⟩ (l.map (Value.int .u8)) (fun j u hu => by
        have hj : (⟨g, 0, none⟩ : Addr).add j = ⟨g, j, none⟩ := by unfold Addr.add; split <;> simp_all
        rw [hj, cell_of_row w g _ _ _ _ hg]
        rw [← ht, List.getElem?_take] at hu
        split at hu
        · simpa using hu
        · simp at hu)
      simpa using this

theorem numbers_any (a0 a1 a2 a3 a4 a5 a6 a7 a8 a9 : Int) (w : World) :
    Calls Try.prog 30 #[.agg #[.int .i64 a0, .int .i64 a1, .int .i64 a2, .int .i64 a3, .int .i64 a4, .int .i64 a5, .int .i64 a6, .int .i64 a7, .int .i64 a8, .int .i64 a9]] w fun e w' =>
      e = .returned (.agg #[.int .i64 a0, .int .i64 a1, .int .i64 a2, .int .i64 a3, .int .i64 a4, .int .i64 a5, .int .i64 a6, .int .i64 a7, .int .i64 a8, .int .i64 a9]) ∧ Below w.heap.size w w' := by
  go_enter Try.func30, Try.ntmps30
  go_wp2
  refine bodyPost_ret (v := .agg #[.int .i64 a0, .int .i64 a1, .int .i64 a2, .int .i64 a3, .int .i64 a4, .int .i64 a5, .int .i64 a6, .int .i64 a7, .int .i64 a8, .int .i64 a9]) (by simp [results, Try.results30, go_sem]) rfl ⟨rfl, ?_⟩
  (repeat (first | exact Below.refl _ _ | assumption | refine below_drewN ?_ _ | refine Below.drew ?_ | refine Below.alloc ?_ (by simp) _ | refine Below.setCell ?_ (by simp) _))

theorem widths_any (w : World) :
    Calls Try.prog 31 #[] w fun e w' =>
      e = .returned (.agg #[.int .i64 4, .int .i64 1, .int .i64 1, .int .i64 1, .int .i64 1, .int .i64 8, .int .i64 8, .int .i64 1, .int .i64 1, .int .i64 2]) ∧ Below w.heap.size w w' := by
  go_enter Try.func31, Try.ntmps31
  go_wp2
  refine bodyPost_ret (v := .agg #[.int .i64 4, .int .i64 1, .int .i64 1, .int .i64 1, .int .i64 1, .int .i64 8, .int .i64 8, .int .i64 1, .int .i64 1, .int .i64 2]) (by simp [results, Try.results31, go_sem]) rfl ⟨rfl, ?_⟩
  (repeat (first | exact Below.refl _ _ | assumption | refine below_drewN ?_ _ | refine Below.drew ?_ | refine Below.alloc ?_ (by simp) _ | refine Below.setCell ?_ (by simp) _))

def wds : List Nat := [4, 1, 1, 1, 1, 8, 8, 1, 1, 2]
def flds (e : En) : List Int := [e.d.id, e.d.a, e.d.b, e.d.sc, e.d.bc, e.d.sell, e.d.buy, e.st, e.ak, e.od]
/-- An entry's first i numbers as bytes. -/
def encE (e : En) (i : Nat) : List Int := (List.range i).flatMap fun j => be ((flds e).getD j 0) (wds.getD j 0)
def textL (B : Bk) (k : Nat) : List Int := be B.l.length 2 ++ (B.l.take k).flatMap fun e => encE e 10
/-- A book as bytes. -/
def DL.Bk.text (B : Bk) : List Int := textL B B.l.length

theorem encE_succ (e : En) (i : Nat) : encE e (i + 1) = encE e i ++ be ((flds e).getD i 0) (wds.getD i 0) := by
  simp [encE, List.range_succ]
theorem textL_succ (B : Bk) (k : Nat) (hk : k < B.l.length) : textL B (k + 1) = textL B k ++ encE (nth B.l k) 10 := by
  simp only [textL]
  rw [List.take_succ_eq_append_getElem hk, List.flatMap_append, nth_getElem hk, List.append_assoc]
  simp
theorem wds_le (i : Nat) : wds.getD i 0 ≤ 8 := by
  match i with
  | 0 | 1 | 2 | 3 | 4 | 5 | 6 | 7 | 8 | 9 => decide
  | i + 10 => simp [wds]
theorem encE_len (e : En) : ∀ i, i ≤ 10 → (encE e i).length ≤ 8 * i
  | 0, _ => by simp [encE]
  | i + 1, h => by
    rw [encE_succ, List.length_append, be_len]
    have := encE_len e i (by omega)
    have := wds_le i
    omega
theorem textL_len (B : Bk) : ∀ k, k ≤ B.l.length → (textL B k).length ≤ 2 + 80 * k
  | 0, _ => by simp [textL, be_len]
  | k + 1, h => by
    rw [textL_succ B k (by omega), List.length_append]
    have := textL_len B k (by omega)
    have := encE_len (nth B.l k) 10 (by omega)
    omega

/-- All numbers of an entry are int64s. -/
def FitE (e : En) : Prop := ∀ i, InI64 ((flds e).getD i 0)

structure TextRel (w : World) (B : Bk) (u i : Value) (wr : World) : Prop where
  ex : ∃ k : Nat, k ≤ B.l.length ∧ i = .int .i64 k ∧ BytesIn wr w.heap.size u (textL B k)
  bel : Below w.heap.size w wr

structure TextIn (w : World) (nb : Nat) (bs : List Int) (e : En) (u i : Value) (wr : World) : Prop where
  ex : ∃ k : Nat, k ≤ 10 ∧ i = .int .i64 k ∧ BytesIn wr w.heap.size u (bs ++ encE e k)
  bel : Below w.heap.size w wr
  blk : Has wr nb ((flds e).map (Value.int .i64)) 66
  ne : u.ownBlock ≠ some nb

theorem wds_index : ∀ (i : Nat) (_ : i < 10) (wx : World), (Instr.index 68 (.agg #[.int .i64 4, .int .i64 1, .int .i64 1, .int .i64 1, .int .i64 1, .int .i64 8, .int .i64 8, .int .i64 1, .int .i64 1, .int .i64 2]) (.int .i64 (i : Nat))).run Try.prog wx = .ok (.int .i64 ((wds.getD i 0 : Nat) : Int)) wx := by
  intro i hi wx
  match i, hi with
  | 0, _ => show _ = _; kernel_rfl
  | 1, _ => show _ = _; kernel_rfl
  | 2, _ => show _ = _; kernel_rfl
  | 3, _ => show _ = _; kernel_rfl
  | 4, _ => show _ = _; kernel_rfl
  | 5, _ => show _ = _; kernel_rfl
  | 6, _ => show _ = _; kernel_rfl
  | 7, _ => show _ = _; kernel_rfl
  | 8, _ => show _ = _; kernel_rfl
  | 9, _ => show _ = _; kernel_rfl

theorem BookRep.entry {w : World} {p : Nat} {B : Bk} {v : Value} {mp : Nat} (h : BookRep w p B v mp) {i : Nat} (hl : i < B.l.length) :
    ∃ g cap, v = .slice (some ⟨g, 0, none⟩) B.l.length cap ∧ B.l.length ≤ cap ∧ g < w.heap.size ∧ (∀ j, j < 10 → w.cell? ⟨g, i * 10 + j, none⟩ = (nth B.l i).cs[j]?) := by
  rcases h.row.2 with ⟨_, h0⟩ | ⟨g, cap, cur, hv, _, hg, hle, _, hs, ht⟩
  · omega
  · refine ⟨g, cap, hv, hle, lt_of_block hg, ?_⟩
    intro j hj
    rw [cell_of_row w g _ _ _ _ hg]
    rw [← flatE_get B.l i j hl hj, ← ht, List.getElem?_take]
    rw [if_pos (by omega)]
    simp

section
variable {w : World} {p : Nat} {B : Bk} {v : Value} {mp : Nat} (h : BookRep w p B v mp)
include h

set_option maxHeartbeats 4000000 in
set_option maxRecDepth 100000 in
theorem text_any (hlen : B.l.length ≤ 200) (hfit : ∀ e ∈ B.l, FitE e) :
    Calls Try.prog 11 #[.pointer (some ⟨p, 0, none⟩)] w fun e w' => e = .returned (.string (strOf B.text)) ∧ Below w.heap.size w w' := by
  obtain ⟨ao, cap, hv⟩ := h.slice
  obtain ⟨L, hL⟩ : ∃ L, B.l.length = L := ⟨_, rfl⟩
  rw [hL] at hv hlen
  have hp := h.hdr.lt
  have h2 : ∀ wx, Below w.heap.size w wx → wx.cell? ⟨p, 2, none⟩ = some (.slice ao L cap) := fun wx hb => by rw [← hv]; exact (h.below hb).hdr.cell 2
  have h2w := h2 w (Below.refl _ _)
  have HV := Lib.hid hv
  have HL := Lib.hid hL
  have H2 := Lib.hid h2
  have HF := Lib.hid hfit
  clear hv hL h2 hfit
  go_enter Try.func11, Try.ntmps11
  go_wp2_with fail
  refine (lay_any w.heap.size (.slice none 0 0) [] L 2 w (by omega) (World.ownsRow_nil _ _ _ _) (by simp) (Nat.le_refl _) ⟨by omega, by omega⟩).mono ?_
  rintro e w1 ⟨u1, rfl, ho1, hk1, ha1⟩
  have hb1 : Below w.heap.size w w1 := hk1.below fun k hk => ⟨hk, by simp [Value.ownBlock]⟩
  have h2w := H2.out w1 hb1
  go_wp2_with fail
  go_loopw [3, 20] (fun u i wr => TextRel w B u i wr) (fun _ i _ => L - (intOf i).toNat)
  case atStart => exact ⟨⟨0, Nat.zero_le _, rfl, by simpa [textL, HL.out] using ho1⟩, hb1⟩
  case round =>
    obtain ⟨⟨k, hk, rfl, hr⟩, hbr⟩ := hrel
    by_cases hlt : k < L
    · have hlt' : k < B.l.length := by rw [HL.out]; exact hlt
      obtain ⟨g, cap', hv', hle, hg, hc⟩ := (h.below hbr).entry hlt'
      have hvv := HV.out
      rw [hvv, HL.out] at hv'
      obtain ⟨rfl, hcc⟩ : ao = some ⟨g, 0, none⟩ ∧ cap = cap' := by simpa using hv'
      have h2w := H2.out wr hbr
      have q0 := hc 0 (by omega)
      have q1 := hc 1 (by omega)
      have q2 := hc 2 (by omega)
      have q3 := hc 3 (by omega)
      have q4 := hc 4 (by omega)
      have q5 := hc 5 (by omega)
      have q6 := hc 6 (by omega)
      have q7 := hc 7 (by omega)
      have q8 := hc 8 (by omega)
      have q9 := hc 9 (by omega)
      simp only [DL.En.cs, List.getElem?_cons_succ, List.getElem?_cons_zero, Nat.add_zero] at q0 q1 q2 q3 q4 q5 q6 q7 q8 q9
      have hfe := HF.out _ (nth_mem hlt')
      have hts := textL_succ B k hlt'
      have htl := textL_len B k (by omega)
      have HTS := Lib.hid hts
      generalize textL B k = bs at *
      generalize hE : nth B.l k = E at *
      clear hE hcc hvv hv' hle hc hts
      go_wp2_with fail
      refine (numbers_any _ _ _ _ _ _ _ _ _ _ _).mono ?_
      rintro e w2 ⟨rfl, hb2⟩
      go_wp2_with fail
      refine (widths_any _).mono ?_
      rintro e w3 ⟨rfl, hb3⟩
      go_wp2_with fail
      obtain ⟨wo, rfl⟩ : ∃ wo : World, wo = wr := ⟨_, rfl⟩
      have hbo2 : Below wo.heap.size wo w2 := ((Below.refl _ _).alloc (Nat.le_refl _) _).trans (hb2.mono (by simp))
      have hbo3 : Below wo.heap.size wo w3 := (hbo2.alloc hbo2.size _).trans (hb3.mono (by have := hbo2.size; simp; omega))
      have hbw3 : Below w.heap.size w w3 := hbr.trans (hbo3.mono hbr.size)
      obtain ⟨nb, hnb⟩ : ∃ nb, nb = w2.heap.size := ⟨_, rfl⟩
      have hblk : Has w3 nb ((flds E).map (Value.int .i64)) 66 := by
        rw [hnb]
        exact (Has.new w2 _ _).of_block (hb3.block _ (by simp))
      have hune : u3.ownBlock ≠ some nb := fun e => by
        have h1 := (World.ownsRow.lt hr _ e).2
        have h2 := hbo2.size
        omega
      have hr3 : BytesIn w3 w.heap.size u3 bs := ownsRow_of_block hr fun q hq => hbo3.block q (World.ownsRow.lt hr _ hq).2
      rw [← hnb]
      clear hnb
      go_loopw [3, 27] (fun u i wr => TextIn w nb bs E u i wr) (fun _ i _ => 10 - (intOf i).toNat)
      case atStart => exact ⟨⟨0, Nat.zero_le _, rfl, by simpa [encE] using hr3⟩, hbw3, hblk, hune⟩
      case round =>
        obtain ⟨⟨i, hi10, rfl, hri⟩, hbi, hbk, hui⟩ := hrel
        by_cases hil : i < 10
        · have hix := wds_index i hil
          have hcell : wr.cell? ⟨nb, i, none⟩ = some (.int .i64 ((flds E).getD i 0)) := by
            rw [hbk.cell i, List.getElem?_map]
            have : i < (flds E).length := hil
            simp [List.getD_eq_getElem?_getD, List.getElem?_eq_getElem this]
          have hi0 : (0 : Int) ≤ (i : Int) := by omega
          have hi1 : (i : Int) < 10 := by omega
          have hwd := wds_le i
          have hes := encE_succ E i
          have hel := encE_len E i hi10
          have HES := Lib.hid hes
          have hfi := hfe i
          have HFI := Lib.hid hfi
          generalize (flds E).getD i 0 = x at *
          generalize wds.getD i 0 = wd at *
          clear hes hfi
          go_wp2_with fail
          have hl2 : (bs ++ encE E i).length ≤ 1000000 := by simp; omega
          have hnl : nb < wr.heap.size := hbk.lt
          refine (lay_any w.heap.size _ _ x wd wr hwd hri hl2 hbi.size HFI.out).mono ?_
          rintro e w5 ⟨u5, rfl, ho5, hk5, ha5⟩
          go_wp2_with fail
          go_roundw
          case rel =>
            refine ⟨⟨i + 1, by omega, by go_num, ?_⟩, ?_, ?_, ?_⟩
            · rw [HES.out, ← List.append_assoc]; exact ho5
            · exact hbi.trans (hk5.below fun k hk => ⟨Nat.lt_of_lt_of_le hk hbi.size, fun e => by have := (World.ownsRow.lt hri _ e).1; omega⟩)
            · exact hbk.of_block (hk5.block nb hnl hui)
            · intro e
              rcases ha5 nb e with h1 | h1
              · exact hui h1
              · omega
          case measure => simp [intOf]; omega
        · obtain rfl : i = 10 := by omega
          go_wp2_with fail
          go_roundw
          case rel => exact ⟨⟨k + 1, by omega, by go_num, by rw [HTS.out]; exact hri⟩, hbi⟩
          case measure => simp [intOf]; omega
    · obtain rfl : k = L := by have := HL.out; omega
      have hcv := conv_bytes hr
      go_wp2_with fail
      go_ret
      refine ⟨?_, hbr⟩
      have : textL B k = B.text := by rw [DL.Bk.text, HL.out]
      rw [← this]
      rfl

end
end Go.Proofs.Ytbeolkjegipldaa
