/- The reference's book: how it lies; At. -/
import Derived.Test.YtbeolkjegipldaaTab
import Derived.Test.YtbeolkjegipldaaDeal0
namespace Go.Proofs.Ytbeolkjegipldaa
open Go.RowKit DL

/-- The reference's entry. -/
def encR (e : En) : List Value := [.int .i64 e.d.id, .int .i64 e.d.a, .int .i64 e.d.b, .int .i64 e.d.sc, .int .i64 e.d.bc, .int .i64 e.d.sell, .int .i64 e.d.buy, .int .i64 e.st, .bool (decide (e.ak % 2 = 1)), .bool (decide (e.ak / 2 = 1)), .int .i64 e.od]

/-- The reference's book lies at p. -/
def refA (p : Nat) (B : Bk) : As := exA fun v : Value => (blkA p [.int .i64 B.m, .int .i64 B.c, v, .int .i64 B.k] 59).and (rowsA 61 11 encR v B.l)

theorem rows_shape {T : Type} {e K : Nat} {enc : T → List Value} {v : Value} {l : List T} {L : List As} {w : World} (h : St (rowsA e K enc v l :: L) w) : ∃ a cap, v = .slice a l.length cap ∧ (l ≠ [] → ∃ g, a = some ⟨g, 0, none⟩) := by
  have hr : w.ownsRow 0 e K v l.length (l.flatMap enc) := h.rows
  rcases hr.2 with ⟨rfl, h0⟩ | ⟨g, cap, cur, rfl, _⟩
  · exact ⟨none, 0, by rw [h0], fun hne => absurd (List.length_eq_zero_iff.1 h0) hne⟩
  · exact ⟨_, cap, rfl, fun _ => ⟨g, rfl⟩⟩

theorem St.andOpen {A B : As} {L : List As} {w : World} (h : St (A.and B :: L) w) : St (A :: B :: L) w := by
  unfold St at *
  show ∃ F, (A.and (B.and (As.all L))).at_ F w
  rw [← As.and_assoc]; exact h
theorem St.andShut {A B : As} {L : List As} {w : World} (h : St (A :: B :: L) w) : St (A.and B :: L) w := by
  unfold St at *
  show ∃ F, ((A.and B).and (As.all L)).at_ F w
  rw [As.and_assoc]; exact h

theorem St.refOpen {p : Nat} {B : Bk} {L : List As} {w : World} (h : St (refA p B :: L) w) :
    ∃ a cap, St (blkA p [.int .i64 B.m, .int .i64 B.c, .slice a B.l.length cap, .int .i64 B.k] 59 :: rowsA 61 11 encR (.slice a B.l.length cap) B.l :: L) w ∧ (B.l ≠ [] → ∃ g, a = some ⟨g, 0, none⟩) := by
  obtain ⟨v, h⟩ := h.ex
  have h := h.andOpen
  obtain ⟨a, cap, rfl, hg⟩ := rows_shape h.up1
  exact ⟨a, cap, h, hg⟩
theorem St.refShut {p : Nat} {m c k : Int} {l : List En} {v : Value} {L : List As} {w : World} (h : St (blkA p [.int .i64 m, .int .i64 c, v, .int .i64 k] 59 :: rowsA 61 11 encR v l :: L) w) : St (refA p ⟨m, c, l, k⟩ :: L) w :=
  St.ex_mk v h.andShut

/-- Where an Id stands; -1: nowhere. -/
def atI (l : List En) (id : Int) : Int := match idx l id with | some i => (i : Int) | none => -1

theorem nth_of {l : List En} {k : Nat} {x : En} (h : l[k]? = some x) : nth l k = x := by
  simp [nth, List.getD_eq_getElem?_getD, h]
theorem atI_at {l : List En} {k : Nat} {id : Int} (hk : k < l.length) (h : (nth l k).d.id = id) (hb : ∀ j, j < k → (nth l j).d.id ≠ id) : atI l id = (k : Int) := by
  have : idx l id = some k := by
    unfold idx
    rw [List.findIdx?_eq_some_iff_getElem]
    refine ⟨hk, by rw [← nth_getElem hk]; simpa using h, fun j hj => ?_⟩
    have := hb j hj
    rw [nth_getElem (by omega)] at this
    simpa using this
  simp [atI, this]
theorem atI_none {l : List En} {id : Int} (hb : ∀ j, j < l.length → (nth l j).d.id ≠ id) : atI l id = -1 := by
  have : idx l id = none := by
    unfold idx
    rw [List.findIdx?_eq_none_iff]
    intro e he
    obtain ⟨j, hj, rfl⟩ := List.mem_iff_getElem.1 he
    have := hb j hj
    rw [nth_getElem hj] at this
    simpa using this
  simp [atI, this]

set_option maxHeartbeats 1000000 in
set_option maxRecDepth 100000 in
theorem at_r {L : List As} {w : World} {p : Nat} {B : Bk} (h : St (refA p B :: L) w) (id : Int) (hlen : B.l.length ≤ 1000) :
    Calls Try.prog 28 #[.pointer (some ⟨p, 0, none⟩), .int .i64 id] w fun e w' => e = .returned (.int .i64 (atI B.l id)) ∧ St (refA p B :: L) w' := by
  obtain ⟨a, cap, h, hg⟩ := h.refOpen
  refine calls_of_XC Try.func28 rfl Try.ntmps28 [(0, .pointer (some ⟨p, 0, none⟩)), (1, .int .i64 id)] rfl ⟨rfl, rfl, trivial⟩ h ?_
  repeat' (first
    | (with_reducible first | refine XC_seq ?_ | refine XC_region ?_ | refine XL_nil ?_ | refine XN_sq ?_ | refine XC_skip ?_ | refine XC_block ?_ | refine XC_exit ?_ | refine XC_ret ?_ | refine XN_sq_ret ?_ | refine XN_sq_exit ?_ | refine XN_bk ?_ | refine XN_bk_ret ?_ | refine XN_bk_same ?_ | refine XN_qq_ret ?_ | refine XN_qq_exit ?_ | refine XC_label ?_ | refine XL_app ?_ | refine XL_app0 ?_)
    | ((with_reducible apply XN_bk_other); rfl)
    | ((with_reducible apply XL_y); rfl; (first | ((with_reducible first | apply Y_move | apply Y_assign | apply Y_nilCheck); rfl) | ((with_reducible apply Y_fieldR tabOK); rfl; rfl; rfl) | ((with_reducible apply Y_field tabOK); rfl; rfl; rfl) | ((with_reducible apply Y_load tabOK); rfl; rfl; rfl; (first | exact get0 | exact get1 | exact get2 | exact get3 | exact get4 | exact get5); rfl) | ((with_reducible apply Y_loadR tabOK); rfl; (first | exact get0 | exact get1 | exact get2 | exact get3 | exact get4 | exact get5); rfl; rfl; assumption; exact (fun _ => rfl); rfl) | ((with_reducible apply Y_len tabOK); rfl; rfl) | ((with_reducible apply Y_index tabOK); rfl; rfl; rfl; rfl; (first | assumption | omega)) | ((with_reducible first | apply Y_eql | apply Y_lss); rfl; rfl) | ((with_reducible apply Y_add); rfl; rfl; exact (in64 (by omega)))); rfl)
    | ((with_reducible apply XC_condT); rfl)
    | ((with_reducible apply XC_condF); rfl)
    | ((with_reducible apply XC_condP); rfl; exact (decide_eq_true (by (first | assumption | omega))))
    | ((with_reducible apply XC_condN); rfl; exact (decide_eq_false (by (first | assumption | omega))))
    | fail)
  refine XC_loopL (ι := Nat) (fun k => k ≤ B.l.length ∧ ∀ j, j < k → (nth B.l j).d.id ≠ id) (fun k => [(0, .pointer (some ⟨p, 0, none⟩)), (1, .int .i64 id), (5, .int .i64 (k : Nat))]) (fun k => B.l.length - k) 0 ?_ ?_ (fun k hk => ?_)
  · exact ⟨Nat.zero_le _, by omega⟩
  · exact ⟨rfl, rfl, rfl, trivial⟩
  by_cases hlt : k < B.l.length
  · obtain ⟨x, hx⟩ : ∃ x, B.l[k]? = some x := ⟨_, List.getElem?_eq_getElem hlt⟩
    obtain ⟨g, rfl⟩ := hg (fun e => by rw [e] at hlt; simp at hlt)
    have hxn : nth B.l k = x := nth_of hx
    by_cases hid : x.d.id = id
    · repeat' (first
        | (with_reducible first | refine XC_seq ?_ | refine XC_region ?_ | refine XL_nil ?_ | refine XN_sq ?_ | refine XC_skip ?_ | refine XC_block ?_ | refine XC_exit ?_ | refine XC_ret ?_ | refine XN_sq_ret ?_ | refine XN_sq_exit ?_ | refine XN_bk ?_ | refine XN_bk_ret ?_ | refine XN_bk_same ?_ | refine XN_qq_ret ?_ | refine XN_qq_exit ?_ | refine XC_label ?_ | refine XL_app ?_ | refine XL_app0 ?_)
        | ((with_reducible apply XN_bk_other); rfl)
        | ((with_reducible apply XL_y); rfl; (first | ((with_reducible first | apply Y_move | apply Y_assign | apply Y_nilCheck); rfl) | ((with_reducible apply Y_fieldR tabOK); rfl; rfl; rfl) | ((with_reducible apply Y_field tabOK); rfl; rfl; rfl) | ((with_reducible apply Y_load tabOK); rfl; rfl; rfl; (first | exact get0 | exact get1 | exact get2 | exact get3 | exact get4 | exact get5); rfl) | ((with_reducible apply Y_loadR tabOK); rfl; (first | exact get0 | exact get1 | exact get2 | exact get3 | exact get4 | exact get5); rfl; rfl; assumption; exact (fun _ => rfl); rfl) | ((with_reducible apply Y_len tabOK); rfl; rfl) | ((with_reducible apply Y_index tabOK); rfl; rfl; rfl; rfl; (first | assumption | omega)) | ((with_reducible first | apply Y_eql | apply Y_lss); rfl; rfl) | ((with_reducible apply Y_add); rfl; rfl; exact (in64 (by omega)))); rfl)
        | ((with_reducible apply XC_condT); rfl)
        | ((with_reducible apply XC_condF); rfl)
        | ((with_reducible apply XC_condP); rfl; exact (decide_eq_true (by (first | assumption | omega))))
        | ((with_reducible apply XC_condN); rfl; exact (decide_eq_false (by (first | assumption | omega))))
        | fail)
      refine XN_ret1 (.inl rfl) rfl rfl (fun w hw => ⟨?_, hw.refShut⟩)
      rw [atI_at hlt (by rw [hxn]; exact hid) hk.2]
    · repeat' (first
        | (with_reducible first | refine XC_seq ?_ | refine XC_region ?_ | refine XL_nil ?_ | refine XN_sq ?_ | refine XC_skip ?_ | refine XC_block ?_ | refine XC_exit ?_ | refine XC_ret ?_ | refine XN_sq_ret ?_ | refine XN_sq_exit ?_ | refine XN_bk ?_ | refine XN_bk_ret ?_ | refine XN_bk_same ?_ | refine XN_qq_ret ?_ | refine XN_qq_exit ?_ | refine XC_label ?_ | refine XL_app ?_ | refine XL_app0 ?_)
        | ((with_reducible apply XN_bk_other); rfl)
        | ((with_reducible apply XL_y); rfl; (first | ((with_reducible first | apply Y_move | apply Y_assign | apply Y_nilCheck); rfl) | ((with_reducible apply Y_fieldR tabOK); rfl; rfl; rfl) | ((with_reducible apply Y_field tabOK); rfl; rfl; rfl) | ((with_reducible apply Y_load tabOK); rfl; rfl; rfl; (first | exact get0 | exact get1 | exact get2 | exact get3 | exact get4 | exact get5); rfl) | ((with_reducible apply Y_loadR tabOK); rfl; (first | exact get0 | exact get1 | exact get2 | exact get3 | exact get4 | exact get5); rfl; rfl; assumption; exact (fun _ => rfl); rfl) | ((with_reducible apply Y_len tabOK); rfl; rfl) | ((with_reducible apply Y_index tabOK); rfl; rfl; rfl; rfl; (first | assumption | omega)) | ((with_reducible first | apply Y_eql | apply Y_lss); rfl; rfl) | ((with_reducible apply Y_add); rfl; rfl; exact (in64 (by omega)))); rfl)
        | ((with_reducible apply XC_condT); rfl)
        | ((with_reducible apply XC_condF); rfl)
        | ((with_reducible apply XC_condP); rfl; exact (decide_eq_true (by (first | assumption | omega))))
        | ((with_reducible apply XC_condN); rfl; exact (decide_eq_false (by (first | assumption | omega))))
        | fail)
      refine XN_round (k + 1) ⟨hlt, fun j hj => ?_⟩ (by omega) ⟨rfl, rfl, rfl, trivial⟩ (fun _ h => h)
      by_cases e : j = k
      · rw [e, hxn]; exact hid
      · exact hk.2 j (by omega)
  · repeat' (first
      | (with_reducible first | refine XC_seq ?_ | refine XC_region ?_ | refine XL_nil ?_ | refine XN_sq ?_ | refine XC_skip ?_ | refine XC_block ?_ | refine XC_exit ?_ | refine XC_ret ?_ | refine XN_sq_ret ?_ | refine XN_sq_exit ?_ | refine XN_bk ?_ | refine XN_bk_ret ?_ | refine XN_bk_same ?_ | refine XN_qq_ret ?_ | refine XN_qq_exit ?_ | refine XC_label ?_ | refine XL_app ?_ | refine XL_app0 ?_)
      | ((with_reducible apply XN_bk_other); rfl)
      | ((with_reducible apply XL_y); rfl; (first | ((with_reducible first | apply Y_move | apply Y_assign | apply Y_nilCheck); rfl) | ((with_reducible apply Y_fieldR tabOK); rfl; rfl; rfl) | ((with_reducible apply Y_field tabOK); rfl; rfl; rfl) | ((with_reducible apply Y_load tabOK); rfl; rfl; rfl; (first | exact get0 | exact get1 | exact get2 | exact get3 | exact get4 | exact get5); rfl) | ((with_reducible apply Y_loadR tabOK); rfl; (first | exact get0 | exact get1 | exact get2 | exact get3 | exact get4 | exact get5); rfl; rfl; assumption; exact (fun _ => rfl); rfl) | ((with_reducible apply Y_len tabOK); rfl; rfl) | ((with_reducible apply Y_index tabOK); rfl; rfl; rfl; rfl; (first | assumption | omega)) | ((with_reducible first | apply Y_eql | apply Y_lss); rfl; rfl) | ((with_reducible apply Y_add); rfl; rfl; exact (in64 (by omega)))); rfl)
      | ((with_reducible apply XC_condT); rfl)
      | ((with_reducible apply XC_condF); rfl)
      | ((with_reducible apply XC_condP); rfl; exact (decide_eq_true (by (first | assumption | omega))))
      | ((with_reducible apply XC_condN); rfl; exact (decide_eq_false (by (first | assumption | omega))))
      | fail)
    refine XN_ret1 (.inl rfl) rfl rfl (fun w hw => ⟨?_, hw.refShut⟩)
    rw [atI_none (fun j hj => hk.2 j (by omega))]

end Go.Proofs.Ytbeolkjegipldaa
