/- Remove. -/
import Derived.Test.YtbeolkjegipldaaDeal6
namespace Go.Proofs.Ytbeolkjegipldaa
open Go.RowKit DL

theorem info_int : (Try.prog.info? 3).map (fun i => (i.zero, i.size, i.bytes)) = some (some (.int .i64 0), 1, 8) := by kernel_rfl

/-- Behind k rounds. -/
def DL.Bk.rem (B : Bk) (mem : Int) (k : Nat) : Bk := { B with l := (B.l.take k).map (·.gone mem) ++ B.l.drop k }
def DL.Bk.remIds (B : Bk) (mem : Int) (k : Nat) : List Int := ((B.l.take k).filter (·.hit mem)).map (·.d.id)

theorem rem_zero (B : Bk) (mem : Int) : B.rem mem 0 = B := by simp [DL.Bk.rem]
theorem rem_len (B : Bk) (mem : Int) (k : Nat) : (B.rem mem k).l.length = B.l.length := by simp [DL.Bk.rem]; omega
theorem rem_nth (B : Bk) (mem : Int) (k : Nat) (hk : k < B.l.length) : nth (B.rem mem k).l k = nth B.l k := by
  simp only [DL.Bk.rem, nth, List.getD_eq_getElem?_getD]
  rw [List.getElem?_append_right (by simp; omega)]
  simp [Nat.min_eq_left (Nat.le_of_lt hk)]
theorem rem_succ (B : Bk) (mem : Int) (k : Nat) (hk : k < B.l.length) : B.rem mem (k + 1) = { B.rem mem k with l := (B.rem mem k).l.set k ((nth B.l k).gone mem) } := by
  simp only [DL.Bk.rem]
  congr 1
  rw [List.set_append_right _ _ (by simp; omega)]
  have e1 : k - (List.map (fun x => x.gone mem) (List.take k B.l)).length = 0 := by simp; omega
  rw [e1, nth_getElem hk, List.take_succ_eq_append_getElem hk, List.map_append, List.append_assoc]
  congr 1
  conv => rhs; rw [List.drop_eq_getElem_cons hk]
  rfl
theorem rem_succ_no (B : Bk) (mem : Int) (k : Nat) (hk : k < B.l.length) (hh : (nth B.l k).hit mem = false) : B.rem mem (k + 1) = B.rem mem k := by
  rw [rem_succ B mem k hk]
  have : (nth B.l k).gone mem = nth (B.rem mem k).l k := by rw [rem_nth B mem k hk]; simp [En.gone, hh]
  rw [this, nth_getElem (by rw [rem_len]; exact hk), List.set_getElem_self]
theorem rem_all (B : Bk) (mem : Int) : B.rem mem B.l.length = (B.remove mem).1 := by simp [DL.Bk.rem, Bk.remove]
theorem remIds_succ (B : Bk) (mem : Int) (k : Nat) (hk : k < B.l.length) : B.remIds mem (k + 1) = if (nth B.l k).hit mem then B.remIds mem k ++ [(nth B.l k).d.id] else B.remIds mem k := by
  simp only [DL.Bk.remIds]
  rw [List.take_succ_eq_append_getElem hk, List.filter_append, nth_getElem hk]
  split <;> simp_all
theorem remIds_all (B : Bk) (mem : Int) : B.remIds mem B.l.length = (B.remove mem).2 := by simp [DL.Bk.remIds, Bk.remove]
theorem remIds_len (B : Bk) (mem : Int) (k : Nat) : (B.remIds mem k).length ≤ k := by
  simp only [DL.Bk.remIds, List.length_map]
  exact Nat.le_trans (List.length_filter_le _ _) (by simp; omega)

/-- A slice of ints, made by the call. -/
def IntsNew (w0 w : World) (v : Value) (l : List Int) : Prop := w.ownsRow w0.heap.size 3 1 v l.length (l.map (Value.int .i64))

theorem news_one (w : World) (v : Value) (t : TypeId) {n : Nat} (hn : w.heap.size = n) : ∀ j u, [v][j]? = some u → (w.alloc (.cells #[v] t)).cell? ((⟨n, 0, none⟩ : Addr).add j) = some u := by
  subst hn
  exact World.news_of_block (cs := #[v]) (t := t) (fr := (0, 0)) (heap_alloc_new w _)

def RemRel (w : World) (p mp : Nat) (v : Value) (B : Bk) (mem : Int) (out i : Value) (wr : World) : Prop :=
  ∃ k : Nat, k ≤ B.l.length ∧ i = .int .i64 k ∧ IntsNew w wr out (B.remIds mem k) ∧ BookRep wr p (B.rem mem k) v mp ∧ Keeps (bookF p mp v) w wr

section
variable {w : World} {p : Nat} {B : Bk} {v : Value} {mp : Nat} (h : BookRep w p B v mp)
include h

def RmvPost (w : World) (p mp : Nat) (v : Value) (r : Bk × List Int) (e : Ending) (w' : World) : Prop :=
  ∃ o, e = .returned o ∧ IntsNew w w' o r.2 ∧ BookRep w' p r.1 v mp ∧ Keeps (bookF p mp v) w w'

set_option maxHeartbeats 4000000 in
set_option maxRecDepth 100000 in
theorem remove_any (mem : Int) (hI : B.Inv) :
    Calls Try.prog 23 #[.pointer (some ⟨p, 0, none⟩), .int .i64 mem] w (RmvPost w p mp v (B.remove mem)) := by
  obtain ⟨ao, cap, hv⟩ := h.slice
  have hlen := hI.len
  obtain ⟨L, hL⟩ : ∃ L, B.l.length = L := ⟨_, rfl⟩
  rw [hL] at hv hlen
  have h2 : w.cell? ⟨p, 2, none⟩ = some (.slice ao L cap) := by rw [← hv]; exact h.hdr.cell 2
  have HV := Lib.hid hv
  have HL := Lib.hid hL
  clear hv hL
  go_enter Try.func23, Try.ntmps23
  go_wp2_with fail
  go_loopw [5, 13] (fun out i wr => RemRel w p mp v B mem out i wr) (fun _ i _ => L - (intOf i).toNat)
  case atStart => exact ⟨0, Nat.zero_le _, rfl, World.ownsRow_nil _ _ _ _, by rw [rem_zero]; exact h, Keeps.refl _ _⟩
  case round =>
    obtain ⟨k, hk, rfl, hout, hr, hkp⟩ := hrel
    by_cases hlt : k < L
    · have hlt' : k < B.l.length := by rw [HL.out]; exact hlt
      obtain ⟨g, cap', cur, hv', _, hg, hle, hcm, hs, ht⟩ := (hr.row.2).resolve_left (by rintro ⟨_, h0⟩; rw [rem_len] at h0; omega)
      have hrl := rem_len B mem k
      have hvv := HV.out
      rw [hvv, rem_len] at hv'
      obtain ⟨rfl, hLL, rfl⟩ : ao = some ⟨g, 0, none⟩ ∧ L = B.l.length ∧ cap = cap' := by simpa using hv'
      clear hLL
      have hc : ∀ j, j < 10 → wr.cell? ⟨g, k * 10 + j, none⟩ = (DL.En.cs (nth B.l k))[j]? := fun j hj => by
        rw [cell_of_row wr g _ _ _ _ hg, ← rem_nth B mem k hlt', ← flatE_get (B.rem mem k).l k j (by omega) hj, ← ht, List.getElem?_take]
        rw [if_pos (by omega)]
        simp
      have q0 := hc 0 (by omega)
      have q1 := hc 1 (by omega)
      have q2 := hc 2 (by omega)
      have q7 := hc 7 (by omega)
      simp only [DL.En.cs, List.getElem?_cons_succ, List.getElem?_cons_zero, Nat.add_zero] at q0 q1 q2 q7
      have qp : wr.cell? ⟨p, 2, none⟩ = some (.slice (some ⟨g, 0, none⟩) L cap) := by rw [← hvv]; exact hr.hdr.cell 2
      have hm1 := remIds_succ B mem k hlt'
      have hm2 := remIds_len B mem k
      by_cases hh : (nth B.l k).hit mem = true
      · rw [if_pos hh] at hm1
        have hrs := rem_succ B mem k hlt'
        have hgn : (nth B.l k).gone mem = { nth B.l k with st := 4 } := by simp [En.gone, hh]
        rw [hgn] at hrs
        have hst : (nth B.l k).st < 3 := by simp [En.hit] at hh; exact hh.1
        have hab : ((nth B.l k).d.a == mem) = true ∨ (((nth B.l k).d.a == mem) = false ∧ ((nth B.l k).d.b == mem) = true) := by
          simp [En.hit] at hh
          by_cases e : (nth B.l k).d.a = mem
          · exact .inl (by simp [e])
          · exact .inr ⟨by simp [e], by simp; exact hh.2.resolve_left e⟩
        have hgw : g < w.heap.size := h.lt g (.inr (.inr (by rw [hvv]; rfl)))
        have hr0 := hr
        rw [hvv] at hr0
        have s1 := hr0.store (n := k) (j := 7) (e := { nth B.l k with st := 4 }) (u := .int .i64 4) (by rw [rem_len]; exact hlt') (by omega) (by rw [rem_nth B mem k hlt']; rfl) (by rw [rem_nth B mem k hlt'])
        rw [← hrs, ← hvv] at s1
        have fz := hr0.frozen
        have hkp1 := hkp.setCell (b := g) (k * 10 + 7) (.int .i64 4) (.inr (.inr (by rw [hvv]; rfl)))
        have hown1 : (wr.setCell ⟨g, k * 10 + 7, none⟩ (.int .i64 4)).ownsRow w.heap.size 3 1 u5 (B.remIds mem k).length ((B.remIds mem k).map (Value.int .i64)) :=
          ownsRow_of_block hout (fun q hq => heap_setCell_far _ _ _ (fun e => by have := (World.ownsRow.lt hout q hq).1; omega))
        have hsz := hkp.size
        have HM1 := Lib.hid hm1
        have S1 := Lib.hid s1
        generalize (nth B.l k).st = st at *
        generalize (nth B.l k).d.a = a at *
        generalize (nth B.l k).d.b = b at *
        generalize (nth B.l k).d.id = id at *
        obtain ⟨i0, hi, hz0, hz1, hz2⟩ := info_parts info_int
        clear hm1 hrs hc hh hs ht hg hvv hv' hrl hcm hle hgn s1 hr0
        rcases hab with ha | ⟨ha, hb⟩
        all_goals
          go_wp2_with (at_builtin; go_must (refine wpList_append_lies _ rfl (.tmp 48) (.tmp 54) 38 rfl w.heap.size 3 i0 (.int .i64 0) 1 8 Try.underlying38 hi hz0 hz1 hz2 rfl (by decide) u5 (B.remIds mem k).length ((B.remIds mem k).map (Value.int .i64)) rfl (hown1.alloc _) ⟨wr.heap.size, 0, none⟩ 1 1 [.int .i64 id] rfl rfl (news_one _ _ _ (by simp)) (by simp [Value.oneCell']) (by omega) (by unfold maxLen; omega) (by omega) (by simp; omega) _ rfl ?_); intro g2 cap2 w2 hown2 hgrow2 hat2 hlt2)
          go_roundw
          case rel =>
            have hrow : ∀ q, u5.ownBlock = some q → w.heap.size ≤ q := fun q hq => (World.ownsRow.lt hown1 q hq).1
            refine ⟨k + 1, by omega, by go_num, ?_, ?_, ?_⟩
            · rw [HM1.out]
              show World.ownsRow _ _ _ _ _ (_ ++ [_]).length (List.map _ (_ ++ [_]))
              rw [List.length_append, List.map_append]
              exact hown2
            · refine S1.out.of_blocks fun q hq => ?_
              have hq' := S1.out.lt q hq
              have hqw := h.lt q hq
              refine (hgrow2.block q (by simp at hq' ⊢; omega) (fun e => ?_)).trans (heap_alloc_far _ _ hq')
              have := hrow q e.symm
              omega
            · exact (hkp1.alloc _).grown hgrow2 (fun q hq => .inl (hrow q hq))
          case measure => simp [intOf]; omega
      · rw [if_neg hh] at hm1
        have hh : (nth B.l k).hit mem = false := by simpa using hh
        have hrs := rem_succ_no B mem k hlt' hh
        have hcase : (3 ≤ (nth B.l k).st) ∨ ((nth B.l k).st < 3 ∧ ((nth B.l k).d.a == mem) = false ∧ ((nth B.l k).d.b == mem) = false) := by
          by_cases e : 3 ≤ (nth B.l k).st
          · exact .inl e
          · right
            have e1 : (nth B.l k).st < 3 := by omega
            simp [En.hit, e1] at hh
            exact ⟨e1, by simp [hh.1], by simp [hh.2]⟩
        have HM1 := Lib.hid hm1
        have HRS := Lib.hid hrs
        generalize (nth B.l k).st = st at *
        generalize (nth B.l k).d.a = a at *
        generalize (nth B.l k).d.b = b at *
        clear hm1 hrs hc hh hs ht hg hvv hv' hrl hcm hle
        rcases hcase with hs | ⟨hs, ha, hb⟩
        all_goals
          go_wp2_with fail
          go_roundw
          case rel => exact ⟨k + 1, by omega, by go_num, by rw [HM1.out]; exact hout, by rw [HRS.out]; exact hr, hkp⟩
          case measure => simp [intOf]; omega
    · obtain rfl : k = L := by have := HL.out; omega
      go_wp2_with fail
      go_ret
      refine ⟨_, rfl, ?_, ?_, hkp⟩
      · have := remIds_all B mem; rw [HL.out] at this; rw [← this]; exact hout
      · have := rem_all B mem; rw [HL.out] at this; rw [← this]; exact hr

end
end Go.Proofs.Ytbeolkjegipldaa
