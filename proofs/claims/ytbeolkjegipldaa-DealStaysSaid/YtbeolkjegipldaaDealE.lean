/- Read. -/
import Derived.Test.YtbeolkjegipldaaRead
import Derived.Test.YtbeolkjegipldaaSortI
namespace Go.Proofs.Ytbeolkjegipldaa
open Go.RowKit DL

def RdPost (w : World) (o : Option Bk) (e : Ending) (w' : World) : Prop :=
  (o = none ∧ e = .returned (.tuple #[.pointer none, .int .i64 2]) ∧ Below w.heap.size w w') ∨
  (∃ B, o = some B ∧ ∃ p mp v, e = .returned (.tuple #[.pointer (some ⟨p, 0, none⟩), .int .i64 0]) ∧ BookMade w w' B p mp v)

/-- Read's outer loop. -/
structure RdRel (w : World) (bs : List UInt8) (m c : Int) (p mp n : Nat) (o a : Value) (wr : World) : Prop where
  ex : ∃ (k : Nat) (l : List En) (v : Value), k ≤ n ∧ a = .int .i64 (2 + 28 * (k : Int)) ∧ rdL bs m c k = some l ∧ BookMade w wr ⟨m, c, l, 0⟩ p mp v ∧ IntsNew w wr o (ods l) ∧
    (∀ q, o.ownBlock = some q → q ≠ p ∧ q ≠ mp ∧ v.ownBlock ≠ some q)

theorem readM_small {bs : List UInt8} {m c : Int} (h : fitB m c = false ∨ bs.length < 2) : readM bs m c = none := by
  unfold readM; rw [if_pos h]
theorem readM_long {bs : List UInt8} {m c : Int} (h1 : fitB m c = true) (h2 : 2 ≤ bs.length) (h : 200 < fld bs 0 2 ∨ (bs.length : Int) ≠ 2 + 28 * fld bs 0 2) : readM bs m c = none := by
  unfold readM; rw [if_neg (by simp [h1]; omega), if_pos h]
theorem readM_go {bs : List UInt8} {m c : Int} (h1 : fitB m c = true) (h2 : 2 ≤ bs.length) (h : ¬ (200 < fld bs 0 2 ∨ (bs.length : Int) ≠ 2 + 28 * fld bs 0 2)) :
    readM bs m c = readFin m c (rdL bs m c (fld bs 0 2).toNat) := by
  unfold readM; rw [if_neg (by simp [h1]; omega), if_neg h]

theorem BookMade.below {w w1 w2 : World} {B : Bk} {p mp : Nat} {v : Value} (h : BookMade w w1 B p mp v) (hb : Below w1.heap.size w1 w2) : BookMade w w2 B p mp v :=
  ⟨h.rep.below hb, h.pn, h.mn, h.vn, h.bel.trans (hb.mono h.bel.size)⟩

/-- Behind i of an entry's numbers. -/
def rdCells (bs : List UInt8) (at_ i : Nat) : List Value := (List.range 10).map fun j => if j < i then .int .i64 (rdF bs at_ j) else .int .i64 0

theorem rdCells_succ (bs : List UInt8) (at_ j : Nat) (hj : j < 10) : rdCells bs at_ (j + 1) = (rdCells bs at_ j).set j (.int .i64 (rdF bs at_ j)) := by
  apply List.ext_getElem
  · simp [rdCells]
  · intro t h1 h2
    simp only [rdCells, List.getElem_map, List.getElem_range, List.getElem_set]
    by_cases e : j = t
    · subst e; simp
    · rw [if_neg e]
      by_cases e2 : t < j
      · rw [if_pos (by omega), if_pos e2]
      · rw [if_neg (by omega), if_neg e2]

theorem rdCells_at (bs : List UInt8) (at_ j : Nat) (hj : j < 10) : (rdCells bs at_ j)[j]? = some (.int .i64 0) := by
  simp [rdCells, hj]

theorem rdCells_ten (bs : List UInt8) (at_ : Nat) : rdCells bs at_ 10 = [.int .i64 (rdF bs at_ 0), .int .i64 (rdF bs at_ 1), .int .i64 (rdF bs at_ 2), .int .i64 (rdF bs at_ 3), .int .i64 (rdF bs at_ 4), .int .i64 (rdF bs at_ 5), .int .i64 (rdF bs at_ 6), .int .i64 (rdF bs at_ 7), .int .i64 (rdF bs at_ 8), .int .i64 (rdF bs at_ 9)] := rfl

def ChkRel (D : List Int) (w1 : World) (i : Value) (wr : World) : Prop :=
  ∃ j : Nat, j ≤ D.length ∧ i = .int .i64 j ∧ D.take j = oneTo j ∧ wr = w1

theorem chk_succ (D : List Int) (j : Nat) (hj : j < D.length) : D.take (j + 1) = D.take j ++ [D.getD j 0] := by
  rw [List.take_succ_eq_append_getElem hj]
  simp [List.getD_eq_getElem?_getD, hj]

theorem IntsNew.shape {w w1 : World} {v : Value} {F : List Int} (h : IntsNew w w1 v F) : ∃ a cap, v = .slice a F.length cap := by
  rcases h.2 with ⟨hv, h0⟩ | ⟨g, cap, cur, hv, _⟩
  · exact ⟨none, 0, by rw [hv, h0]⟩
  · exact ⟨_, _, hv⟩

theorem IntsNew.cells {w w1 : World} {v : Value} {F : List Int} (h : IntsNew w w1 v F) {i : Nat} (hl : i < F.length) :
    ∃ g cap, v = .slice (some ⟨g, 0, none⟩) F.length cap ∧ F.length ≤ cap ∧ g < w1.heap.size ∧ w1.cell? ⟨g, i, none⟩ = some (.int .i64 (F.getD i 0)) := by
  rcases h.2 with ⟨_, h0⟩ | ⟨g, cap, cur, hv, _, hg, hle, _, hs, ht⟩
  · omega
  · refine ⟨g, cap, hv, hle, lt_of_block hg, ?_⟩
    have h2 : (F.map (Value.int .i64))[i]? = (cur.toList.take (F.length * 1))[i]? := by rw [ht]
    rw [List.getElem?_take, if_pos (by omega)] at h2
    rw [cell_of_row w1 g _ _ _ _ hg, ← Array.getElem?_toList, ← h2, List.getElem?_map]
    simp [List.getD_eq_getElem?_getD, hl]

structure RdIn (wr0 : World) (bs : List UInt8) (at_ nb : Nat) (f i : Value) (wr : World) : Prop where
  ex : ∃ k : Nat, k ≤ 10 ∧ i = .int .i64 k ∧ f = .int .i64 ((at_ + offs k : Nat) : Int) ∧ Has wr nb (rdCells bs at_ k) 66
  bel : Below wr0.heap.size wr0 wr

set_option maxHeartbeats 4000000 in
set_option maxRecDepth 100000 in
theorem read_any (s : ByteArray) (m c : Int) (w : World) :
    Calls Try.prog 16 #[.string s, .int .i64 m, .int .i64 c] w (RdPost w (readM s.data.toList m c)) := by
  obtain ⟨bs, hbs⟩ : ∃ bs, s.data.toList = bs := ⟨_, rfl⟩
  have hsz : s.size = bs.length := by rw [← hbs]; rfl
  have hex : ∀ a n, (s.extract a (a + n)).data.toList = (bs.drop a).take n := by intro a n; rw [← hbs]; exact extract_list s a n
  rw [hbs]
  have HB := Lib.hid hbs
  have HS := Lib.hid hsz
  have HX := Lib.hid hex
  clear hbs hex hsz
  by_cases hf : fitB m c = true
  · have HF := Lib.hid hf
    by_cases h2 : s.size < 2
    · have hr : readM bs m c = none := readM_small (.inr (by have := HS.out; omega))
      have HR := Lib.hid hr
      clear hr hf
      go_enter Try.func16, Try.ntmps16
      go_wp2_with fail
      refine (new_any m c w).mono ?_
      rintro e w1 (⟨_, p, mp, rfl, hm⟩ | ⟨h, _⟩)
      · go_wp2_with fail
        go_ret2
        exact .inl ⟨HR.out, rfl, hm.bel⟩
      · have := HF.out; simp [h] at this
    · have h2' : 2 ≤ bs.length := by have := HS.out; omega
      have ht := take_any (s.extract 0 2) (by simp; omega)
      have e0 : (s.extract 0 2).data.toList = (bs.drop 0).take 2 := HX.out 0 2
      rw [e0] at ht
      have hf0 : wrap64 (takeN ((bs.drop 0).take 2)) = fld bs 0 2 := rfl
      rw [hf0] at ht
      have hfs := fld_small bs 0 2 (by omega)
      obtain ⟨N, hN⟩ : ∃ N, fld bs 0 2 = N := ⟨_, rfl⟩
      rw [hN] at ht hfs
      by_cases hlong : 200 < N ∨ (s.size : Int) ≠ 2 + 28 * N
      · have hr : readM bs m c = none := readM_long hf h2' (by rw [hN, ← HS.out]; exact hlong)
        have HR := Lib.hid hr
        clear hr hf hN e0 hf0
        have hl1 : 200 < N ∨ (N ≤ 200 ∧ ((s.size : Int) != 2 + 28 * N) = true) := by
          by_cases h : 200 < N
          · exact .inl h
          · right
            refine ⟨by omega, by simp; exact hlong.resolve_left h⟩
        clear hlong
        rcases hl1 with hl1 | ⟨hl0, hl1⟩
        all_goals
          go_enter Try.func16, Try.ntmps16
          go_wp2_with fail
          refine (new_any m c w).mono ?_
          rintro e w1 (⟨_, p, mp, rfl, hm⟩ | ⟨h, _⟩)
          · go_wp2_with fail
            refine (ht w1).mono ?_
            rintro e w2 ⟨rfl, hb2⟩
            go_wp2_with fail
            go_ret2
            exact .inl ⟨HR.out, rfl, hm.bel.trans (hb2.mono hm.bel.size)⟩
          · have := HF.out; simp [h] at this
      · have hr := readM_go hf h2' (by rw [hN, ← HS.out]; exact hlong)
        rw [hN] at hr
        have HR := Lib.hid hr
        obtain ⟨n, rfl⟩ := Int.eq_ofNat_of_zero_le hfs.1
        have hn2 : n ≤ 200 := by omega
        have hse : (s.size : Int) = 2 + 28 * (n : Int) := by omega
        have hls : s.size = 2 + 28 * n := by omega
        clear hr hf hN e0 hf0 hlong h2 hfs
        have HLS := Lib.hid hls
        clear hls hse
        go_enter Try.func16, Try.ntmps16
        go_wp2_with fail
        refine (new_any m c w).mono ?_
        rintro e w1 (⟨_, p, mp, rfl, hm⟩ | ⟨h, _⟩)
        rotate_left
        · have := HF.out; simp [h] at this
        have h2 : ¬ (s.size < 2) := by have := HLS.out; omega
        go_wp2_with fail
        refine (ht w1).mono ?_
        rintro e w2 ⟨rfl, hb2⟩
        have hse : (s.size : Int) = 2 + 28 * (n : Int) := by have := HLS.out; omega
        go_wp2_with fail
        have hm2 := hm.below hb2
        have HSE := Lib.hid hse
        clear hb2 hm hse
        go_loopw [11, 12] (fun o a wr => RdRel w bs m c p mp n o a wr) (fun _ a _ => 2 + 28 * n - (intOf a).toNat)
        case atStart => exact ⟨⟨0, [], .slice none 0 0, Nat.zero_le _, rfl, rfl, hm2, World.ownsRow_nil _ _ _ _, by simp [Value.ownBlock]⟩⟩
        case round =>
          obtain ⟨k, l, v, hk, rfl, hl, hmk, ho, hd⟩ := hrel.ex
          clear hrel
          by_cases hlt : k < n
          · have hse := HSE.out
            go_wp2_with fail
            refine (widths_any _).mono ?_
            rintro e w3 ⟨rfl, hb3⟩
            go_wp2_with fail
            obtain ⟨wo, rfl⟩ : ∃ wo : World, wo = wr := ⟨_, rfl⟩
            have hbo3 : Below wo.heap.size wo w3 := ((Below.refl _ _).alloc (Nat.le_refl _) _).trans (hb3.mono (by simp))
            obtain ⟨nb, hnb⟩ : ∃ nb, nb = wo.heap.size := ⟨_, rfl⟩
            have hblk : Has w3 nb (rdCells bs (2 + 28 * k) 0) 66 := by
              rw [hnb]
              exact (Has.new wo _ _).of_block (hb3.block _ (by simp))
            rw [← hnb]
            have HNB := Lib.hid hnb
            have hA28 : 2 + 28 * k + 28 ≤ s.size := by have := HLS.out; omega
            have HA28 := Lib.hid hA28
            clear hnb hb3 hse hA28
            go_loopw [14, 54] (fun f i wr => RdIn wo bs (2 + 28 * k) nb f i wr) (fun _ i _ => 10 - (intOf i).toNat)
            case atStart => exact ⟨⟨0, Nat.zero_le _, rfl, by simp [offs], hblk⟩, hbo3⟩
            case round =>
              obtain ⟨⟨j, hj10, rfl, rfl, hbk⟩, hbj⟩ := hrel
              by_cases hjl : j < 10
              · have hix := wds_index j hjl
                have hol := offs_le j hjl
                have hos := offs_succ j hjl
                have hwd := wds_le j
                have hst := rdCells_succ bs (2 + 28 * k) j hjl
                have e1 := HX.out (2 + 28 * k + offs j) (wds.getD j 0)
                have ht' := take_any (s.extract (2 + 28 * k + offs j) (2 + 28 * k + offs j + wds.getD j 0)) (by have := HA28.out; rw [ByteArray.size_extract]; omega)
                rw [e1] at ht'
                have hrf : wrap64 (takeN (((bs.drop (2 + 28 * k + offs j))).take (wds.getD j 0))) = rdF bs (2 + 28 * k) j := rfl
                rw [hrf] at ht'
                have hcell := hbk.cell j
                have hfr := hbk.free j
                have hle : 2 + 28 * k + offs j + wds.getD j 0 ≤ s.size := by have := HA28.out; omega
                have HST := Lib.hid hst
                have HOS := Lib.hid hos
                clear hst hos e1 hrf
                generalize wds.getD j 0 = wd at *
                generalize rdF bs (2 + 28 * k) j = x at *
                generalize hA : 2 + 28 * k + offs j = A at *
                have HAA := Lib.hid hA
                have hsl := fun wx => run_slice_string (P := Try.prog) wx 9 s .i64 .i64 (A : Int) ((A : Int) + (wd : Int)) Try.underlying9 (by omega) (by omega) (by omega)
                have htn : ((A : Int) + (wd : Int)).toNat = A + wd := by omega
                have htn2 : ((A : Nat) : Int).toNat = A := by omega
                simp only [htn, htn2] at hsl
                have hle2 : (A : Int) + (wd : Int) ≤ 6000 := by have := HLS.out; omega
                have hj0 : (0 : Int) ≤ (j : Int) := by omega
                have hj1 : (j : Int) < 10 := by omega
                clear hA htn htn2 hol
                go_wp2_with fail
                refine (ht' wr).mono ?_
                rintro e w4 ⟨rfl, hb4⟩
                have hnl := hbk.lt
                have hbk4 := hbk.of_block (hb4.block _ hnl)
                have hcell := (hbk4.cell j).trans (rdCells_at bs (2 + 28 * k) j hjl)
                have hfr := hbk4.free j
                clear ht' hsl hix
                go_wp2_with fail
                go_roundw
                case rel =>
                  refine ⟨⟨j + 1, by omega, by go_num, ?_, ?_⟩, ?_⟩
                  · have h1 := HAA.out
                    have h2 := HOS.out
                    rw [h2]
                    have h3 : 2 + 28 * k + (offs j + wd) = A + wd := by omega
                    rw [h3]
                    first | rfl | (congr 1; push_cast; omega)
                  · rw [HST.out]
                    exact hbk4.set j _
                  · have h1 := HNB.out
                    exact (((Keeps.of_below (F := fun b => b = nb) hbj).trans (Keeps.of_below (F := fun _ => False) hb4) (fun _ _ h => h.elim)).setCell j _ rfl).below (fun k hk => ⟨hk, by omega⟩)
                case measure => simp [intOf]; omega
              · obtain rfl : j = 10 := by omega
                have q0 := hbk.cell 0
                have q1 := hbk.cell 1
                have q2 := hbk.cell 2
                have q3 := hbk.cell 3
                have q4 := hbk.cell 4
                have q5 := hbk.cell 5
                have q6 := hbk.cell 6
                have q7 := hbk.cell 7
                have q8 := hbk.cell 8
                have q9 := hbk.cell 9
                rw [rdCells_ten] at q0 q1 q2 q3 q4 q5 q6 q7 q8 q9
                simp only [List.getElem?_cons_succ, List.getElem?_cons_zero] at q0 q1 q2 q3 q4 q5 q6 q7 q8 q9
                have hsuc : rdL bs m c (k + 1) = if okE m c l (rdE bs (2 + 28 * k)) then some (l ++ [rdE bs (2 + 28 * k)]) else none := by rw [rdL, hl]
                have hEe : rdE bs (2 + 28 * k) = ⟨⟨rdF bs (2 + 28 * k) 0, rdF bs (2 + 28 * k) 1, rdF bs (2 + 28 * k) 2, rdF bs (2 + 28 * k) 3, rdF bs (2 + 28 * k) 4, rdF bs (2 + 28 * k) 5, rdF bs (2 + 28 * k) 6⟩, rdF bs (2 + 28 * k) 7, rdF bs (2 + 28 * k) 8, rdF bs (2 + 28 * k) 9⟩ := rfl
                generalize rdE bs (2 + 28 * k) = E at *
                generalize rdF bs (2 + 28 * k) 0 = x0 at *
                generalize rdF bs (2 + 28 * k) 1 = x1 at *
                generalize rdF bs (2 + 28 * k) 2 = x2 at *
                generalize rdF bs (2 + 28 * k) 3 = x3 at *
                generalize rdF bs (2 + 28 * k) 4 = x4 at *
                generalize rdF bs (2 + 28 * k) 5 = x5 at *
                generalize rdF bs (2 + 28 * k) 6 = x6 at *
                generalize rdF bs (2 + 28 * k) 7 = x7 at *
                generalize rdF bs (2 + 28 * k) 8 = x8 at *
                generalize rdF bs (2 + 28 * k) 9 = x9 at *
                have HSUC := Lib.hid hsuc
                have HEE := Lib.hid hEe
                clear hsuc hEe
                have hmj := hmk.below hbj
                have hoj : IntsNew w wr u11 (ods l) := ownsRow_of_block ho (fun q hq => hbj.block q (World.ownsRow.lt ho q hq).2)
                have hpl := hmj.rep.hdr.lt
                have h0 := hmj.rep.hdr.cell 0
                have h1 := hmj.rep.hdr.cell 1
                simp only [List.getElem?_cons_succ, List.getElem?_cons_zero] at h0 h1
                go_wp2_with fail
                refine (may_any x0 x1 x2 x3 x4 x5 x6 m c p _ (by simp [World.cell?_alloc_lt, hpl, h0]) (by simp [World.cell?_alloc_lt, hpl, h1])).mono ?_
                rintro e w5 ⟨rfl, hb5⟩
                have hbw5 : Below wr.heap.size wr w5 := ((Below.refl _ _).alloc (Nat.le_refl _) _).trans (hb5.mono (by simp))
                have hE5 : Has w5 wr.heap.size [.int .i64 x0, .int .i64 x1, .int .i64 x2, .int .i64 x3, .int .i64 x4, .int .i64 x5, .int .i64 x6, .int .i64 x7, .int .i64 x8, .int .i64 x9] 65 := (Has.new wr _ _).of_block (hb5.block _ (by simp))
                have hno : okE m c l E = false → readM bs m c = none := fun hok => by
                  rw [HR.out, Int.toNat_natCast, rdL_none (k := k + 1) (by rw [HSUC.out, hok]; rfl) n (by omega)]; rfl
                have HNO := Lib.hid hno
                clear hb5 hno q0 q1 q2 q3 q4 q5 q6 q7 q8 q9 h0 h1
                by_cases hmay : mayB m c ⟨x0, x1, x2, x3, x4, x5, x6⟩ = true
                rotate_left
                · have hmay : mayB m c ⟨x0, x1, x2, x3, x4, x5, x6⟩ = false := by simpa using hmay
                  have hrn := HNO.out (by rw [HEE.out]; simp [okE, hmay])
                  have HRN := Lib.hid hrn
                  clear hrn
                  rw [hmay]
                  go_wp2_with fail
                  go_ret2
                  exact .inl ⟨HRN.out, rfl, (hmj.below hbw5).bel⟩
                have HMAY := Lib.hid hmay
                rw [hmay]
                clear hmay
                have q0 := hE5.cell 0
                have q1 := hE5.cell 1
                have q2 := hE5.cell 2
                have q3 := hE5.cell 3
                have q4 := hE5.cell 4
                have q5 := hE5.cell 5
                have q6 := hE5.cell 6
                have q7 := hE5.cell 7
                have q8 := hE5.cell 8
                have q9 := hE5.cell 9
                simp only [List.getElem?_cons_succ, List.getElem?_cons_zero] at q0 q1 q2 q3 q4 q5 q6 q7 q8 q9
                go_wp2_with fail
                refine (could_any x0 x1 x2 x3 x4 x5 x6 x7 x8 x9 w5).mono ?_
                rintro e w6 ⟨rfl, hb6⟩
                have hbw6 : Below wr.heap.size wr w6 := hbw5.trans (hb6.mono hbw5.size)
                have hE6 := hE5.of_block (hb6.block _ hE5.lt)
                have hm6 := hmj.below hbw6
                clear q0 q1 q2 q3 q4 q5 q6 q7 q8 q9 hb6
                by_cases hcould : En.could ⟨⟨x0, x1, x2, x3, x4, x5, x6⟩, x7, x8, x9⟩
                rotate_left
                · have hrn := HNO.out (by rw [HEE.out]; simp [okE, hcould])
                  have HRN := Lib.hid hrn
                  rw [decide_eq_false hcould]
                  clear hrn
                  go_wp2_with fail
                  go_ret2
                  exact .inl ⟨HRN.out, rfl, hm6.bel⟩
                have HCOULD := Lib.hid hcould
                rw [decide_eq_true hcould]
                clear hcould
                have q0 := hE6.cell 0
                simp only [List.getElem?_cons_zero] at q0
                go_wp2_with fail
                rcases hidx : idx l x0 with _ | fi
                rotate_left
                · have hrn := HNO.out (by rw [HEE.out]; simp [okE, hidx])
                  have HRN := Lib.hid hrn
                  obtain ⟨g, cap, rfl, hfl, hlc, _⟩ := hm6.rep.find hidx
                  have hfs := find_some hm6.rep x0 hidx hfl
                  have HFS := Lib.hid hfs
                  clear hrn hfs hidx
                  refine HFS.out.mono ?_
                  rintro e w7 ⟨rfl, hw7⟩
                  obtain rfl := hw7.symm
                  go_wp2_with fail
                  go_ret2
                  exact .inl ⟨HRN.out, rfl, hm6.bel⟩
                refine (find_none hm6.rep x0 hidx).mono ?_
                rintro e w7 ⟨rfl, hw7⟩
                obtain rfl := hw7.symm
                have hok : okE m c l E = true := by rw [HEE.out]; simp [okE, HMAY.out, HCOULD.out, hidx]
                have hyes : rdL bs m c (k + 1) = some (l ++ [E]) := by rw [HSUC.out, hok]; rfl
                have HYES := Lib.hid hyes
                have HIDX := Lib.hid hidx
                clear hok hyes hidx
                have q9 := hE6.cell 9
                simp only [List.getElem?_cons_succ, List.getElem?_cons_zero] at q9
                have ho6 : IntsNew w w6 u11 (ods l) := ownsRow_of_block hoj (fun q hq => hbw6.block q (World.ownsRow.lt hoj q hq).2)
                have hlk := rdL_len hl
                have hol : (ods l).length ≤ 200 := by
                  have : (ods l).length ≤ l.length := by simp [ods]; exact List.length_filter_le _ _
                  omega
                have hods : ods (l ++ [E]) = if 0 < x9 then ods l ++ [x9] else ods l := by
                  rw [HEE.out]
                  by_cases h : 0 < x9 <;> simp [ods, h]
                have HODS := Lib.hid hods
                clear hods
                have hcs : 0 < x9 ∨ x9 ≤ 0 := by omega
                rcases hcs with hx9 | hx9
                case' inl =>
                  obtain ⟨i0, hi, hz0, hz1, hz2⟩ := info_parts info_int
                  have hws := hm6.bel.size
                  go_wp2_with (at_builtin; go_must (refine wpList_append_lies _ rfl (.tmp 114) (.tmp 117) 38 rfl w.heap.size 3 i0 (.int .i64 0) 1 8 Try.underlying38 hi hz0 hz1 hz2 rfl (by decide) u11 _ _ rfl (World.ownsRow.alloc ho6 _) ⟨_, 0, none⟩ 1 1 [_] rfl rfl (news_one _ _ _ (by simp)) (by simp [Value.oneCell']) (by omega) (by unfold maxLen; omega) (by omega) (by simp; omega) _ rfl ?_); intro g2 cap2 w8 hown8 hgrow8 hat8 hlt8)
                  obtain ⟨oo, hoo⟩ : ∃ oo, Value.slice (some ⟨g2, 0, none⟩) ((ods l).length + 1) cap2 = oo := ⟨_, rfl⟩
                  have hob : ∀ q, oo.ownBlock = some q → q = g2 := fun q hq => by rw [← hoo] at hq; simpa [Value.ownBlock] using hq.symm
                  rw [hoo] at hown8 ⊢
                  have hkb : ∀ q, q < w6.heap.size → u11.ownBlock ≠ some q → w8.heap[q]? = w6.heap[q]? := fun q hq hne =>
                    (hgrow8.block q (by simp; omega) (fun e => hne e.symm)).trans (heap_alloc_far _ _ hq)
                  have hpw6 := hm6.rep.hdr.lt
                  have hmw6 := hm6.rep.map.lt
                  have hEW : Has w8 wr.heap.size [.int .i64 x0, .int .i64 x1, .int .i64 x2, .int .i64 x3, .int .i64 x4, .int .i64 x5, .int .i64 x6, .int .i64 x7, .int .i64 x8, .int .i64 x9] 65 := hE6.of_block (hkb _ hE6.lt (fun e => by have := (World.ownsRow.lt hoj _ e).2; omega))
                  have hmW : BookMade w w8 ⟨m, c, l, 0⟩ p mp v := ⟨hm6.rep.of_blocks (fun q hq => hkb q (hm6.rep.lt q hq) (fun e => by
                    obtain ⟨d1, d2, d3⟩ := hd q e
                    rcases hq with h | h | h
                    · exact d1 h
                    · exact d2 h
                    · exact d3 h)), hm6.pn, hm6.mn, hm6.vn,
                    (((Keeps.of_below (F := fun _ => False) hm6.bel).alloc _).grown hgrow8 (fun q hq => .inl (World.ownsRow.lt ho6 q hq).1)).below (fun k hk => ⟨hk, id⟩)⟩
                  have hoW : IntsNew w w8 oo (ods (l ++ [E])) := by
                    rw [HODS.out, if_pos hx9]
                    show World.ownsRow _ _ _ _ _ (_ ++ [_]).length (List.map _ (_ ++ [_]))
                    rw [List.length_append, List.map_append]
                    exact hown8
                  have hdW : ∀ q, oo.ownBlock = some q → q ≠ p ∧ q ≠ mp ∧ v.ownBlock ≠ some q := fun q hq => by
                    have := hob q hq
                    subst this
                    rcases hat8 with h | h
                    · exact hd q h
                    · simp at h
                      refine ⟨by omega, by omega, fun e => ?_⟩
                      have := (World.ownsRow.lt hm6.rep.row _ e).2
                      omega
                  obtain ⟨W, hW⟩ : ∃ W : World, W = w8 := ⟨_, rfl⟩
                  rw [← hW] at hEW hmW hoW ⊢
                  clear hgrow8 hown8 hkb hat8 hlt8 hi hz0 hz1 hz2 hoo hob
                case' inr =>
                  go_wp2_with fail
                  obtain ⟨oo, hoo⟩ : ∃ oo, oo = u11 := ⟨_, rfl⟩
                  have hoW : IntsNew w w6 oo (ods (l ++ [E])) := by rw [HODS.out, if_neg (by omega), hoo]; exact ho6
                  have hdW : ∀ q, oo.ownBlock = some q → q ≠ p ∧ q ≠ mp ∧ v.ownBlock ≠ some q := by rw [hoo]; exact hd
                  have hEW := hE6
                  have hmW := hm6
                  rw [← hoo]
                  obtain ⟨W, hW⟩ : ∃ W : World, W = w6 := ⟨_, rfl⟩
                  rw [← hW] at hEW hmW hoW ⊢
                  clear hoo
                all_goals
                  clear hW hE5 hE6 hm6 hmj hbw6 hbw5 hoj ho6 q0 q9
                  obtain ⟨eb, heb⟩ : ∃ eb, eb = wr.heap.size := ⟨_, rfl⟩
                  rw [← heb] at hEW ⊢
                  have HEB := Lib.hid heb
                  clear heb
                  have hr := hmW.rep
                  obtain ⟨ao, cap, hv⟩ := hr.slice
                  have hv : v = .slice ao l.length cap := hv
                  subst hv
                  have HLK := Lib.hid hlk
                  have hd0 : W.cell? ⟨eb, 0, none⟩ = some (.int .i64 x0) := hEW.cell 0
                  have h2 : W.cell? ⟨p, 2, none⟩ = some (.slice ao l.length cap) := hr.hdr.cell 2
                  have h3 : W.cell? ⟨p, 3, none⟩ = some (.map (some mp)) := hr.hdr.cell 3
                  obtain ⟨w2', hmu, hmap, hk2, hz2, ho2, ht2, hu2⟩ := run_mapUpdate_any (P := Try.prog) (w := W.drew) (T := 53) (K := 3) (E := 3) Try.underlying53 Try.underlying3 (hr.map.of_block (w' := W.drew) rfl) x0 (.int .i64 l.length)
                  clear hlk
                  go_still_tail 12, (by kernel_rfl)
                  change wpList _ _ _ _ _ W.drew
                  go_wp2_with fail
                  clear hmu
                  have HZ := Lib.hid hz2
                  clear hz2
                  have hpW := hr.hdr.lt
                  have heW := hEW.lt
                  have hem : eb ≠ mp := fun e => by
                    obtain ⟨es, cl, h3, _⟩ := hr.map
                    have h1 : W.heap[eb]? = some _ := hEW
                    rw [e, h3] at h1
                    simp at h1
                  have hl200 : l.length ≤ 200 := by have := HLK.out; omega
                  have hve : (Value.slice ao l.length cap).ownBlock ≠ some eb := fun e => by
                    have h1 := (World.ownsRow.lt hmk.rep.row _ e).2
                    have h2 := hbj.size
                    have h3 := HEB.out
                    omega
                  have hvp := hr.a2
                  have hE2 : Has w2' eb [.int .i64 x0, .int .i64 x1, .int .i64 x2, .int .i64 x3, .int .i64 x4, .int .i64 x5, .int .i64 x6, .int .i64 x7, .int .i64 x8, .int .i64 x9] 65 := hEW.of_block (hk2 _ hem)
                  have hh2 : Has w2' p [.int .i64 m, .int .i64 c, .slice ao l.length cap, .map (some mp), .int .i64 0] 56 := hr.hdr.of_block (hk2 _ hr.a1)
                  obtain ⟨S, hSd⟩ : ∃ S : World → Prop, ∀ w', S w' ↔ w'.heap[p]? = w2'.heap[p]? ∧ w'.heap[eb]? = w2'.heap[eb]? := ⟨_, fun _ => Iff.rfl⟩
                  have hS : S w2'.drew := (hSd _).2 ⟨rfl, rfl⟩
                  haveI : Nonempty (Met S) := ⟨⟨w2'.drew, hS⟩⟩
                  have h2 : ∀ z : Met S, z.w.cell? ⟨p, 2, none⟩ = some (.slice ao l.length cap) := fun z => (hh2.of_block ((hSd _).1 z.ok).1).cell 2
                  have q0 : ∀ z : Met S, z.w.cell? ⟨eb, 0, none⟩ = some (.int .i64 x0) := fun z => (hE2.of_block ((hSd _).1 z.ok).2).cell 0
                  have q1 : ∀ z : Met S, z.w.cell? ⟨eb, 1, none⟩ = some (.int .i64 x1) := fun z => (hE2.of_block ((hSd _).1 z.ok).2).cell 1
                  have q2 : ∀ z : Met S, z.w.cell? ⟨eb, 2, none⟩ = some (.int .i64 x2) := fun z => (hE2.of_block ((hSd _).1 z.ok).2).cell 2
                  have q3 : ∀ z : Met S, z.w.cell? ⟨eb, 3, none⟩ = some (.int .i64 x3) := fun z => (hE2.of_block ((hSd _).1 z.ok).2).cell 3
                  have q4 : ∀ z : Met S, z.w.cell? ⟨eb, 4, none⟩ = some (.int .i64 x4) := fun z => (hE2.of_block ((hSd _).1 z.ok).2).cell 4
                  have q5 : ∀ z : Met S, z.w.cell? ⟨eb, 5, none⟩ = some (.int .i64 x5) := fun z => (hE2.of_block ((hSd _).1 z.ok).2).cell 5
                  have q6 : ∀ z : Met S, z.w.cell? ⟨eb, 6, none⟩ = some (.int .i64 x6) := fun z => (hE2.of_block ((hSd _).1 z.ok).2).cell 6
                  have q7 : ∀ z : Met S, z.w.cell? ⟨eb, 7, none⟩ = some (.int .i64 x7) := fun z => (hE2.of_block ((hSd _).1 z.ok).2).cell 7
                  have q8 : ∀ z : Met S, z.w.cell? ⟨eb, 8, none⟩ = some (.int .i64 x8) := fun z => (hE2.of_block ((hSd _).1 z.ok).2).cell 8
                  have q9 : ∀ z : Met S, z.w.cell? ⟨eb, 9, none⟩ = some (.int .i64 x9) := fun z => (hE2.of_block ((hSd _).1 z.ok).2).cell 9
                  refine wp_region_sched (S) [10] ([0, 1, 2, 3, 4, 5].map (fun i => (i, 1)) ++ ((6, 2) :: (7, 2) :: ([8, 9].map (fun i => (i, 1)) ++ [(10, 2)]))) (by kernel_rfl) (by kernel_rfl) (fun dst _ _ _ _ h => by cases dst <;> exact h) ?_
                  refine wpS_take [0, 1, 2, 3, 4, 5] (hS) (by kernel_rfl) (by kernel_rfl) ?_
                  simp only [List.filterMap_cons, List.filterMap_nil, List.getElem?_toArray, List.getElem?_cons_zero, List.getElem?_cons_succ]
                  show wpQuiet _ _ _ _ [_, _, _, _, _, _] _
                  repeat (any_goals (first | go_big_quiet_step ((fail)) | quiet_step ((fail)) | (refine wpQuiet_step (fun K hK => ?_); go_simp; split <;> (refine hK _ ?_; clear hK K))))
                  all_goals (refine wpQuiet_nil ?_)
                  refine wpS_do rfl (fun K hK => ?_)
                  go_simp
                  have hl2w : eb < w2'.heap.size := by rw [HZ.out]; simpa using heW
                  have hpw : p < w2'.heap.size := by rw [HZ.out]; simpa using hpW
                  refine hK _ _ (fun _ _ => (hSd _).2 ⟨heap_alloc_far _ _ hpw, heap_alloc_far _ _ hl2w⟩) ?_
                  clear hK K
                  have hrow2 : w2'.ownsRow 0 65 10 (.slice ao l.length cap) l.length (flatE l) := ownsRow_of_block hr.row (fun g hg => hk2 g (fun e => hr.a3 (by rw [hg, e])))
                  obtain ⟨i0, hi, hz0, hz1, hz2⟩ := info_parts info_entry
                  refine wpS_do rfl (fun K hK => ?_)
                  refine step_append_lies _ rfl (.tmp 135) (.tmp 137) 54 rfl 0 65 i0 _ 10 80 Try.underlying54 hi hz0 hz1 hz2 rfl (by decide) (.slice ao l.length cap) l.length (flatE l) rfl ((hrow2.alloc _).drew) ⟨w2'.heap.size, 0, none⟩ 1 1 [.int .i64 x0, .int .i64 x1, .int .i64 x2, .int .i64 x3, .int .i64 x4, .int .i64 x5, .int .i64 x6, .int .i64 x7, .int .i64 x8, .int .i64 x9] rfl rfl (World.news_of_block (cs := #[.int .i64 x0, .int .i64 x1, .int .i64 x2, .int .i64 x3, .int .i64 x4, .int .i64 x5, .int .i64 x6, .int .i64 x7, .int .i64 x8, .int .i64 x9]) (t := 65) (fr := (0, 0)) (heap_alloc_new w2' _)) (by simp [Value.oneCell']) (by omega) (by unfold maxLen; omega) (by omega) (Nat.zero_le _) (w2'.heap.size + 1) (by simp) ?_
                  intro g cap' w3' hown3 hgrow hat hlt3
                  have hk3 : ∀ k, k < w2'.heap.size → (Value.slice ao l.length cap).ownBlock ≠ some k → w3'.heap[k]? = w2'.heap[k]? := fun k hk hne =>
                    (hgrow.block k (by simp; omega) (Ne.symm hne)).trans (heap_alloc_far _ _ hk)
                  have hS3 : S w3' := (hSd _).2 ⟨hk3 p hpw hvp, hk3 _ hl2w hve⟩
                  refine hK _ _ (fun _ _ => hS3) ?_
                  clear hK K
                  have hh3 : Has w3' p [.int .i64 m, .int .i64 c, .slice ao l.length cap, .map (some mp), .int .i64 0] 56 := hh2.of_block (hk3 p hpw hvp)
                  have c2 : w3'.cell? ⟨p, 2, none⟩ = some (.slice ao l.length cap) := hh3.cell 2
                  have f2 : w3'.frozen? ⟨p, 2, none⟩ = false := hh3.free 2
                  refine wpS_take [8, 9] (hS3) (by kernel_rfl) (by kernel_rfl) ?_
                  simp only [List.filterMap_cons, List.filterMap_nil, List.getElem?_toArray, List.getElem?_cons_zero, List.getElem?_cons_succ]
                  show wpQuiet _ _ _ _ [_, _] _
                  repeat (any_goals (first | go_big_quiet_step ((fail)) | quiet_step ((fail)) | (refine wpQuiet_step (fun K hK => ?_); go_simp; split <;> (refine hK _ ?_; clear hK K))))
                  all_goals (refine wpQuiet_nil ?_)
                  refine wpS_do rfl (fun K hK => ?_)
                  go_simp
                  refine hK _ _ (fun hh _ => by simp at hh) ?_
                  clear hK K
                  refine wpS_nil ?_
                  go_wp2_with fail
                  go_roundw
                  case rel =>
                    have hgp : g ≠ p := by
                      rintro rfl
                      rcases hat with h | h
                      · exact hvp h
                      · omega
                    have hmw := hr.map.lt
                    have hgm : g ≠ mp := by
                      rintro rfl
                      rcases hat with h | h
                      · exact hr.a3 h
                      · have := HZ.out; simp at this; omega
                    have hwW := hmW.bel.size
                    have hzz : w2'.heap.size = W.heap.size := by have := HZ.out; simpa using this
                    have hoq : ∀ q, oo.ownBlock = some q → w.heap.size ≤ q ∧ q < W.heap.size := fun q hq => World.ownsRow.lt hoW q hq
                    have e1 : flatE (l ++ [E]) = flatE l ++ E.cs := by simp [flatE]
                    have e2 : (l ++ [E]).length = l.length + 1 := by simp
                    have e3 : E.cs = [.int .i64 x0, .int .i64 x1, .int .i64 x2, .int .i64 x3, .int .i64 x4, .int .i64 x5, .int .i64 x6, .int .i64 x7, .int .i64 x8, .int .i64 x9] := by rw [HEE.out]; rfl
                    have e4 : E.d.id = x0 := by rw [HEE.out]
                    refine ⟨⟨k + 1, l ++ [E], .slice (some ⟨g, 0, none⟩) (l.length + 1) cap', by omega, by congr 1, HYES.out, ⟨⟨?_, ?_, ?_, hr.a1, ?_, ?_⟩, hmW.pn, hmW.mn, ?_, ?_⟩, ?_, ?_⟩⟩
                    · exact hh3.set 2 _
                    · show World.ownsRow _ 0 _ 10 _ (l ++ [E]).length (flatE (l ++ [E]))
                      rw [e1, e2, e3]
                      exact ownsRow_of_block hown3 (fun k hk => heap_setCell_far _ _ _ (fun e => hgp (by simpa [Value.ownBlock, e] using hk)))
                    · have hm3 := (hmap.of_block (w' := w3') (hk3 mp (by omega) hr.a3)).of_block (w' := w3'.setCell ⟨p, 2, none⟩ (.slice (some ⟨g, 0, none⟩) (l.length + 1) cap')) (heap_setCell_far _ _ _ hr.a1)
                      have ef : (fun m => if m = x0 then some (Value.int .i64 (l.length : Nat)) else (idx l m).map (fun i => Value.int .i64 (i : Nat))) = fun id => (idx (l ++ [E]) id).map (fun i => Value.int .i64 (i : Nat)) := by
                        funext id
                        rw [idx_push (by rw [e4]; exact HIDX.out), e4]
                        show _ = Option.map _ (if id = x0 then _ else _)
                        split <;> rfl
                      rw [ef] at hm3
                      exact hm3
                    · intro e; exact hgp (by simpa [Value.ownBlock] using e)
                    · intro e; exact hgm (by simpa [Value.ownBlock] using e)
                    · intro q hq
                      have : g = q := by simpa [Value.ownBlock] using hq
                      subst this
                      rcases hat with h | h
                      · exact hmW.vn _ h
                      · omega
                    · refine ⟨hgrow.os.trans (ho2.trans hmW.bel.os), hgrow.tape.trans (ht2.trans hmW.bel.tape), hgrow.output.trans (hu2.trans hmW.bel.output), ?_, ?_⟩
                      · have := hgrow.size; simp at this ⊢; omega
                      · intro q hq
                        have n1 : p ≠ q := fun e => by have := hmW.pn; omega
                        have n2 : q ≠ mp := fun e => by have := hmW.mn; omega
                        have n3 : (Value.slice ao l.length cap).ownBlock ≠ some q := fun e => by have := hmW.vn q e; omega
                        rw [heap_setCell_far _ _ _ n1, hk3 q (by omega) n3, hk2 q n2]
                        exact hmW.bel.block q hq
                    · refine ownsRow_of_block hoW (fun q hq => ?_)
                      obtain ⟨d1, d2, d3⟩ := hdW q hq
                      have := (hoq q hq).2
                      rw [heap_setCell_far _ _ _ (Ne.symm d1), hk3 q (by omega) d3, hk2 q d2]
                      rfl
                    · intro q hq
                      obtain ⟨d1, d2, d3⟩ := hdW q hq
                      have h1 := (hoq q hq).2
                      refine ⟨d1, d2, fun e => ?_⟩
                      have : g = q := by simpa [Value.ownBlock] using e
                      subst this
                      rcases hat with h | h
                      · exact d3 h
                      · omega
                  case measure => simp [intOf]; omega
          · obtain rfl : k = n := by omega
            have hse := HSE.out
            have hlk := rdL_len hl
            have hol : (ods l).length ≤ 200 := by
              have : (ods l).length ≤ l.length := by simp [ods]; exact List.length_filter_le _ _
              omega
            have hsi := sort_ints ho hol
            have hfin : readM bs m c = readFin m c (some l) := by rw [HR.out, Int.toNat_natCast, hl]
            have HFIN := Lib.hid hfin
            obtain ⟨os, hos⟩ : ∃ os, ods l = os := ⟨_, rfl⟩
            rw [hos] at hsi hol
            have HOS := Lib.hid hos
            clear hlk hfin hl ho hos
            go_wp2_with fail
            refine hsi.mono ?_
            rintro e w4 ⟨rfl, hoS, hkS⟩
            have hm4 : BookMade w w4 ⟨m, c, l, 0⟩ p mp v := ⟨hmk.rep.of_blocks (fun q hq => hkS.block q (hmk.rep.lt q hq) (fun e => by
              obtain ⟨d1, d2, d3⟩ := hd q e
              rcases hq with h | h | h
              · exact d1 h
              · exact d2 h
              · exact d3 h)), hmk.pn, hmk.mn, hmk.vn,
              ((Keeps.of_below (F := fun _ => False) hmk.bel).trans hkS (fun q hq e => by have := (World.ownsRow.lt hoS _ e).1; omega)).below (fun k hk => ⟨hk, id⟩)⟩
            clear hsi hkS hmk hd
            have hso := srt_oneTo os
            have hsl := srt_len os
            have HSO := Lib.hid hso
            obtain ⟨D, hD⟩ : ∃ D, srt os = D := ⟨_, rfl⟩
            rw [hD] at hsl hoS
            have HD := Lib.hid hD
            clear hso hD
            obtain ⟨N, hN⟩ : ∃ N, os.length = N := ⟨_, rfl⟩
            rw [hN] at hsl hol
            have HN := Lib.hid hN
            clear hN
            obtain ⟨a1, c1, hu11⟩ := hoS.shape
            rw [hsl] at hu11
            rw [hu11] at hoS ⊢
            have HSL := Lib.hid hsl
            clear hu11 hsl
            go_wp2_with fail
            go_loopw [145] (fun i wr => ChkRel D w4 i wr) (fun i _ => N - (intOf i).toNat)
            case atStart => exact ⟨0, Nat.zero_le _, rfl, by simp [oneTo], rfl⟩
            case round =>
              obtain ⟨j, hj, rfl, hpre, rfl⟩ := hrel
              by_cases hjn : j < N
              · obtain ⟨g, cap', hv', hle, hg, hcell⟩ := hoS.cells (i := j) (by rw [HSL.out]; exact hjn)
                rw [HSL.out] at hv'
                obtain ⟨rfl, hcc⟩ : a1 = some ⟨g, 0, none⟩ ∧ c1 = cap' := by simpa using hv'
                have hts := chk_succ D j (by rw [HSL.out]; exact hjn)
                have HTS := Lib.hid hts
                have HPRE := Lib.hid hpre
                have hne2 : D.getD j 0 ≠ (j : Int) + 1 → readM bs m c = none := fun hne => by
                  rw [HFIN.out]
                  show (if (ods l).Perm (oneTo (ods l).length) then _ else none) = none
                  rw [if_neg]
                  intro hp
                  rw [HOS.out] at hp
                  have h1 : srt os = oneTo os.length := HSO.out.2 hp
                  rw [HD.out, HN.out] at h1
                  apply hne
                  rw [h1]
                  simp [oneTo, List.getD_eq_getElem?_getD, hjn]
                have HNE2 := Lib.hid hne2
                clear hts hpre hne2 hcc hv' hle
                generalize D.getD j 0 = x at *
                by_cases hx : x = (j : Int) + 1
                · have hxx : (x != (j : Int) + 1) = false := by simp [hx]
                  have HX2 := Lib.hid hx
                  clear hx
                  go_wp2_with fail
                  go_roundw
                  case rel => exact ⟨j + 1, by rw [HSL.out]; omega, by go_num, by rw [HTS.out, HPRE.out, HX2.out]; simp [oneTo, List.range_succ], rfl⟩
                  case measure => simp [intOf]; omega
                · have hxx : (x != (j : Int) + 1) = true := by simp [hx]
                  have hrn := HNE2.out hx
                  have HRN := Lib.hid hrn
                  clear hx hrn
                  go_wp2_with fail
                  go_ret2
                  exact .inl ⟨HRN.out, rfl, hm4.bel⟩
              · obtain rfl : j = N := by have := HSL.out; omega
                have hyes : readM bs m c = some ⟨m, c, l, (j : Nat)⟩ := by
                  rw [HFIN.out]
                  show (if (ods l).Perm (oneTo (ods l).length) then some _ else none) = _
                  have e1 : D = oneTo os.length := by
                    rw [List.take_of_length_le (by rw [HSL.out]; exact Nat.le_refl _)] at hpre
                    rw [HN.out]; exact hpre
                  rw [if_pos (by rw [HOS.out]; exact HSO.out.1 (by rw [HD.out]; exact e1)), HOS.out, HN.out]
                have HYES := Lib.hid hyes
                clear hyes hpre
                have c4 : wr.cell? ⟨p, 4, none⟩ = some (.int .i64 0) := hm4.rep.hdr.cell 4
                have f4 : wr.frozen? ⟨p, 4, none⟩ = false := hm4.rep.hdr.free 4
                go_wp2_with fail
                go_ret2
                refine .inr ⟨_, HYES.out, p, mp, v, rfl, ⟨?_, ?_, ?_, hm4.rep.a1, hm4.rep.a2, hm4.rep.a3⟩, hm4.pn, hm4.mn, hm4.vn, ?_⟩
                · exact hm4.rep.hdr.set 4 _
                · exact ownsRow_of_block hm4.rep.row (fun q hq => heap_setCell_far _ _ _ (fun e => hm4.rep.a2 (by rw [hq, e])))
                · exact hm4.rep.map.of_block (heap_setCell_far _ _ _ hm4.rep.a1)
                · exact ((Keeps.of_below (F := fun q => q = p) hm4.bel).setCell 4 _ rfl).below (fun k hk => ⟨hk, fun e => by have := hm4.pn; omega⟩)
  · have hf : fitB m c = false := by simpa using hf
    have hr : readM bs m c = none := readM_small (.inl hf)
    have HR := Lib.hid hr
    have HF := Lib.hid hf
    clear hr hf
    go_enter Try.func16, Try.ntmps16
    go_wp2_with fail
    refine (new_any m c w).mono ?_
    rintro e w1 (⟨h, _⟩ | ⟨_, rfl, hb⟩)
    · have := HF.out; simp [h] at this
    · go_wp2_with fail
      go_ret2
      exact .inl ⟨HR.out, rfl, hb⟩

end Go.Proofs.Ytbeolkjegipldaa
