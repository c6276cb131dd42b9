/- The walk's rules, of memory: types by a table; loads, stores, new memory, calls. -/
import Derived.Test.YtbeolkjegipldaaEng
namespace Go.Proofs.Ytbeolkjegipldaa
open Go.RowKit

/-- What the rules need of a type. -/
inductive TD where
  | one                                            -- one cell, no struct and no array
  | str                                            -- a string
  | ptr                                            -- a pointer
  | st (fo : List (Nat × Nat)) (size : Nat)        -- a struct: each field's place and cells
  | sl (e K bytes : Nat)                           -- a slice, of elements of K cells
  | ar (len K size : Nat)                          -- an array

def tdOf : List (Nat × TD) → Nat → Option TD
  | [], _ => none
  | (k, v) :: r, t => match Nat.beq k t with | true => some v | false => tdOf r t

def sizeB (P : Program) (t K : Nat) : Bool := match P.info? t with | some i => Nat.beq i.size K | none => false
def bytesB (P : Program) (t K : Nat) : Bool := match P.info? t with | some i => Nat.beq i.bytes K | none => false
def zeroB (P : Program) (t K : Nat) : Bool := match P.info? t with | some i => (match i.zero with | some z => Nat.beq z.cells.size K | none => false) | none => false
def fosB (P : Program) : List Field → List (Nat × Nat) → Bool
  | [], [] => true
  | f :: fs, (o, k) :: r => Nat.beq f.offset o && sizeB P f.type k && !Nat.beq k 0 && fosB P fs r
  | _, _ => false
def checkT (P : Program) (t : Nat) : TD → Bool
  | .one => (match P.underlying t with | some (.struct _) | some (.array _ _) | none => false | _ => true) && sizeB P t 1
  | .ptr => (match P.underlying t with | some (.pointer _) => true | _ => false) && sizeB P t 1
  | .str => (match P.underlying t with | some .string => true | _ => false) && sizeB P t 1
  | .st fo size => (match P.underlying t with | some (.struct fs) => fosB P fs.toList fo | _ => false) && sizeB P t size
  | .sl e K bytes => (match P.underlying t with | some (.slice e') => Nat.beq e' e | _ => false) && sizeB P t 1 && sizeB P e K && bytesB P e bytes && zeroB P e K && !Nat.beq K 0
  | .ar len K size => (match P.underlying t with | some (.array l e) => Nat.beq l len && sizeB P e K && !Nat.beq K 0 | _ => false) && sizeB P t size
def checkTab (P : Program) : List (Nat × TD) → Bool
  | [] => true
  | (t, d) :: r => checkT P t d && checkTab P r

theorem tab_ok {P : Program} : ∀ {tab : List (Nat × TD)} {t : Nat} {d : TD}, checkTab P tab = true → tdOf tab t = some d → checkT P t d = true
  | [], _, _, _, h => by simp [tdOf] at h
  | (k, v) :: r, t, d, hc, h => by
    simp only [checkTab, Bool.and_eq_true] at hc
    simp only [tdOf] at h
    split at h
    · rename_i e
      obtain rfl := Nat.eq_of_beq_eq_true e
      obtain rfl := Option.some.inj h
      exact hc.1
    · exact tab_ok hc.2 h

theorem sizeB_run {P : Program} {t K : Nat} (h : sizeB P t K = true) (w : World) : (sizeOf t).run P w = .ok K w := by
  unfold sizeB at h
  split at h
  · rename_i i hi
    have := Nat.eq_of_beq_eq_true h
    simp [sizeOf, typeInfo, hi, this]
  · cases h
theorem sizeB_info {P : Program} {t K : Nat} (h : sizeB P t K = true) : (P.info? t).map (·.size) = some K := by
  unfold sizeB at h
  split at h
  · rename_i i hi
    have := Nat.eq_of_beq_eq_true h
    simp [hi, this]
  · cases h

/-- One cell: slices, too. -/
def isOne : TD → Bool | .one => true | .str => true | .ptr => true | .sl _ _ _ => true | _ => false
theorem one_agg {P : Program} {t : Nat} {d : TD} (h : checkT P t d = true) (ho : isOne d = true) (w : World) : (isAgg t).run P w = .ok false w ∧ (sizeOf t).run P w = .ok 1 w := by
  cases d with
  | one =>
    simp only [checkT, Bool.and_eq_true] at h
    refine ⟨?_, sizeB_run h.2 w⟩
    have h1 := h.1
    cases hu : P.underlying t with
    | none => rw [hu] at h1; cases h1
    | some x => rw [hu] at h1; cases x <;> simp [isAgg, underlying, hu] at h1 ⊢
  | ptr =>
    simp only [checkT, Bool.and_eq_true] at h
    refine ⟨?_, sizeB_run h.2 w⟩
    have h1 := h.1
    cases hu : P.underlying t with
    | none => rw [hu] at h1; cases h1
    | some x => rw [hu] at h1; cases x <;> simp [isAgg, underlying, hu] at h1 ⊢
  | str =>
    simp only [checkT, Bool.and_eq_true] at h
    refine ⟨?_, sizeB_run h.2 w⟩
    have h1 := h.1
    cases hu : P.underlying t with
    | none => rw [hu] at h1; cases h1
    | some x => rw [hu] at h1; cases x <;> simp [isAgg, underlying, hu] at h1 ⊢
  | sl e K b =>
    simp only [checkT, Bool.and_eq_true] at h
    refine ⟨?_, sizeB_run h.1.1.1.1.2 w⟩
    have h1 := h.1.1.1.1.1
    cases hu : P.underlying t with
    | none => rw [hu] at h1; cases h1
    | some x => rw [hu] at h1; cases x <;> simp [isAgg, underlying, hu] at h1 ⊢
  | _ => cases ho
/-- A struct or an array, of so many cells. -/
def aggSize : TD → Option Nat | .st _ k => some k | .ar _ _ k => some k | _ => none
theorem agg_agg {P : Program} {t k : Nat} {d : TD} (h : checkT P t d = true) (ho : aggSize d = some k) (w : World) : (isAgg t).run P w = .ok true w ∧ (sizeOf t).run P w = .ok k w := by
  cases d with
  | st fo size =>
    obtain rfl : size = k := by simpa [aggSize] using ho
    simp only [checkT, Bool.and_eq_true] at h
    refine ⟨?_, sizeB_run h.2 w⟩
    have h1 := h.1
    cases hu : P.underlying t with
    | none => rw [hu] at h1; cases h1
    | some x => rw [hu] at h1; cases x <;> simp [isAgg, underlying, hu] at h1 ⊢
  | ar len K size =>
    obtain rfl : size = k := by simpa [aggSize] using ho
    simp only [checkT, Bool.and_eq_true] at h
    refine ⟨?_, sizeB_run h.2 w⟩
    have h1 := h.1
    cases hu : P.underlying t with
    | none => rw [hu] at h1; cases h1
    | some x => rw [hu] at h1; cases x <;> simp [isAgg, underlying, hu] at h1 ⊢
  | _ => simp [aggSize] at ho

theorem fosB_get {P : Program} : ∀ {fs : List Field} {fo : List (Nat × Nat)}, fosB P fs fo = true → ∀ {i o k : Nat}, fo[i]? = some (o, k) → ∃ f, fs[i]? = some f ∧ f.offset = o ∧ sizeB P f.type k = true ∧ k ≠ 0
  | [], [], _, i, o, k, h => by simp at h
  | [], _ :: _, h, _, _, _, _ => by simp [fosB] at h
  | _ :: _, [], h, _, _, _, _ => by simp [fosB] at h
  | f :: fs, (o', k') :: r, h, i, o, k, hi => by
    simp only [fosB, Bool.and_eq_true] at h
    cases i with
    | zero =>
      obtain ⟨rfl, rfl⟩ : o' = o ∧ k' = k := by simpa using hi
      refine ⟨f, rfl, Nat.eq_of_beq_eq_true h.1.1.1, h.1.1.2, fun e => ?_⟩
      rw [e] at h; simp at h
    | succ i => exact fosB_get h.2 (by simpa using hi)

theorem add_any (b o n : Nat) : (⟨b, o, none⟩ : Addr).add n = ⟨b, o + n, none⟩ := by
  unfold Addr.add; split
  · rename_i h; subst h; rfl
  · rfl

theorem run_fieldAt {P : Program} {t i o k size : Nat} {fo : List (Nat × Nat)} (h : checkT P t (.st fo size) = true) (hi : fo[i]? = some (o, k)) (b off : Nat) (w : World) :
    (Instr.fieldAt t (.pointer (some ⟨b, off, none⟩)) i).run P w = .ok (.pointer (some ⟨b, off + o, none⟩)) w := by
  simp only [checkT, Bool.and_eq_true] at h
  have h1 := h.1
  split at h1
  · rename_i fs hu
    obtain ⟨f, hf, rfl, hk, h0⟩ := fosB_get h1 hi
    have hf' : fs[i]? = some f := by simpa using hf
    have := sizeB_run hk w
    simp [Instr.fieldAt, underlying, hu, hf', Instr.sureAddr, fieldPlace, this, h0, add_any]
  · cases h1

def evs (s : Sl) : List Operand → Option (List Value)
  | [] => some []
  | x :: r => match ev s x with | some v => (match evs s r with | some l => some (v :: l) | none => none) | none => none

theorem Rp.evs {n : Nat} {s : Sl} {a : Act} (h : Rp n s a) : ∀ {l : List Operand} {vs : List Value}, Proofs.Ytbeolkjegipldaa.evs s l = some vs → l.map a.eval = vs
  | [], vs, he => by simp [Proofs.Ytbeolkjegipldaa.evs] at he; simp [he]
  | x :: r, vs, he => by
    simp only [Proofs.Ytbeolkjegipldaa.evs] at he
    split at he
    · rename_i v hv
      split at he
      · rename_i l hl
        obtain rfl := Option.some.inj he
        rw [List.map_cons, h.ev hv, h.evs hl]
      · cases he
    · cases he

/-- The value, cell by cell, that a place of k cells holds. -/
def takeL : Nat → List Value → Option (List Value)
  | 0, _ => some []
  | k + 1, v :: r => (takeL k r).map (v :: ·)
  | _ + 1, [] => none
theorem takeL_get : ∀ {k : Nat} {l vs : List Value}, takeL k l = some vs → vs.length = k ∧ ∀ (j : Nat) v, vs[j]? = some v → l[j]? = some v
  | 0, l, vs, h => by simp [takeL] at h; subst h; simp
  | k + 1, [], vs, h => by simp [takeL] at h
  | k + 1, v :: r, vs, h => by
    simp only [takeL, Option.map_eq_some_iff] at h
    obtain ⟨l', h1, rfl⟩ := h
    obtain ⟨h2, h3⟩ := takeL_get h1
    refine ⟨by simp [h2], fun j u hu => ?_⟩
    cases j with
    | zero => simpa using hu
    | succ j => simpa using h3 j u (by simpa using hu)

/-- Cells from o on are others. -/
def putL : List Value → Nat → List Value → List Value
  | c, 0, [] => c
  | _ :: c, 0, v :: r => v :: putL c 0 r
  | a :: c, o + 1, r => a :: putL c o r
  | [], _, _ => []
theorem putL_set : ∀ (c : List Value) (o : Nat) (v : Value) (r : List Value), putL c o (v :: r) = putL (c.set o v) (o + 1) r
  | [], 0, v, r => by simp [putL]
  | [], o + 1, v, r => by simp [putL]
  | a :: c, 0, v, r => by cases r <;> simp [putL]
  | a :: c, o + 1, v, r => by simp only [List.set_cons_succ]; rw [putL, putL_set c o v r]; rfl
theorem putL_nil : ∀ (c : List Value) (o : Nat), putL c o [] = c
  | [], 0 => rfl
  | [], _ + 1 => rfl
  | a :: c, 0 => rfl
  | a :: c, o + 1 => by rw [putL, putL_nil c o]

theorem St.at_ {L : List As} {w : World} (h : St L w) {i : Nat} {p : Nat} {cs : List Value} {T : TypeId} (hi : L[i]? = some (blkA p cs T)) : Has w p cs T := (h.pick i hi).has
theorem St.row_at {L : List As} {w : World} (h : St L w) {i : Nat} {e : TypeId} {size : Nat} {v : Value} {m : Nat} {xs : List Value} (hi : L[i]? = some (rowA e size v m xs)) : w.ownsRow 0 e size v m xs := (h.pick i hi).row

theorem perm_set {α : Type} : ∀ (L : List α) (i : Nat) {x : α} (y : α), L[i]? = some x → (y :: L.eraseIdx i).Perm (L.set i y)
  | [], i, x, y, h => by simp at h
  | a :: L, 0, x, y, h => List.Perm.refl _
  | a :: L, i + 1, x, y, h => (List.Perm.swap a y _).trans ((perm_set L i y (by simpa using h)).cons a)
theorem St.put {L : List As} {w w' : World} (h : St L w) {i : Nat} {A B : As} (hi : L[i]? = some A) (hs : ∀ M, St (A :: M) w → St (B :: M) w') : St (L.set i B) w' :=
  (hs _ (h.pick i hi)).perm (perm_set L i B hi)

theorem run_loadCells_takeL {P : Program} {w : World} {p o k : Nat} {cs vs : List Value} {T : TypeId} (hh : Has w p cs T) (hv : takeL k (cs.drop o) = some vs) : (loadCells ⟨p, o, none⟩ k).run P w = .ok vs.toArray w := by
  obtain ⟨h1, h2⟩ := takeL_get hv
  rw [← h1]
  refine run_loadCells_list w _ vs (fun j v hj => ?_)
  rw [add_any, hh.cell]
  have := h2 j v hj
  rw [List.getElem?_drop] at this
  exact this

theorem run_storeCells_put {P : Program} {p : Nat} {T : TypeId} : ∀ (vs : List Value) (o i : Nat) (cs : List Value) (L : List As) (w : World), St (blkA p cs T :: L) w → o + i + vs.length ≤ cs.length → vs.all (·.oneCell') = true →
    ∃ w', (storeCells ⟨p, o, none⟩ vs i).run P w = .ok () w' ∧ St (blkA p (putL cs (o + i) vs) T :: L) w'
  | [], o, i, cs, L, w, h, _, _ => ⟨w, by simp [storeCells], by rw [putL_nil]; exact h⟩
  | v :: r, o, i, cs, L, w, h, hl, h1 => by
    simp only [List.length_cons] at hl
    simp only [List.all_cons, Bool.and_eq_true] at h1
    have hs := h.set (o + i) v
    have hc : w.cell? ⟨p, o + i, none⟩ = some (cs[o + i]'(by omega)) := by rw [h.has.cell]; exact List.getElem?_eq_getElem _
    have hf := h.has.free (o + i)
    obtain ⟨w', hr, hst⟩ := run_storeCells_put (P := P) r o (i + 1) (cs.set (o + i) v) L _ hs (by rw [List.length_set]; omega) h1.2
    refine ⟨w', ?_, ?_⟩
    · simp only [storeCells, Sem.run_bind, add_any]
      rw [run_store P w _ v _ h1.1, hc, hf]
      exact hr
    · rw [putL_set]; exact hst

section
variable {P : Program} {n : Nat} {tab : List (Nat × TD)} (hT : checkTab P tab = true) {Q : Exit → Act → World → Prop} {s : Sl} {L : List As} {all rest : List Oper} {d : Option Tmp} {ty : TypeId} {pos : String} {af : Array Edge}
include hT

theorem Y_field {t i o k size p off : Nat} {fo : List (Nat × Nat)} {x : Operand} (ht : tdOf tab t = some (.st fo size)) (hi : fo[i]? = some (o, k)) (hx : ev s x = some (.pointer (some ⟨p, off, none⟩))) : Yl P n s L ⟨d, .fieldAddr t x i, ty, pos, af, none⟩ (.pointer (some ⟨p, off + o, none⟩)) :=
  Yl_mk fun a w ha _ => by simp only [execOp, ha.ev hx, Sem.run_bind, run_fieldAt (tab_ok hT ht) hi]; rfl

theorem Y_load {t p o : Nat} {td : TD} {x : Operand} {cs : List Value} {v : Value} {T : TypeId} (i : Nat) (ht : tdOf tab t = some td) (h1 : isOne td = true) (hx : ev s x = some (.pointer (some ⟨p, o, none⟩))) (hi : L[i]? = some (blkA p cs T)) (hv : cs[o]? = some v) : Yl P n s L ⟨d, .load t x, ty, pos, af, none⟩ v :=
  Yl_mk fun a w ha hw => by
    have hc : w.cell? ⟨p, o, none⟩ = some v := by rw [(hw.at_ hi).cell]; exact hv
    simp [execOp, ha.ev hx, Instr.loadAt, Instr.sureAddr, loadVar, (one_agg (tab_ok hT ht) h1 w).1, hc]

theorem Y_loadS {t p o k : Nat} {td : TD} {x : Operand} {cs vs : List Value} {T : TypeId} (i : Nat) (ht : tdOf tab t = some td) (h1 : aggSize td = some k) (hx : ev s x = some (.pointer (some ⟨p, o, none⟩))) (hi : L[i]? = some (blkA p cs T)) (hv : takeL k (cs.drop o) = some vs) : Yl P n s L ⟨d, .load t x, ty, pos, af, none⟩ (.agg vs.toArray) :=
  Yl_mk fun a w ha hw => by
    have hh := agg_agg (tab_ok hT ht) h1 w
    simp [execOp, ha.ev hx, Instr.loadAt, Instr.sureAddr, loadVar, hh.1, hh.2, run_loadCells_takeL (P := P) (hw.at_ hi) hv]

theorem E_store {t p o : Nat} {td : TD} {x y : Operand} {cs : List Value} {u v : Value} {T : TypeId} (i : Nat) (ht : tdOf tab t = some td) (h1 : isOne td = true) (hx : ev s x = some (.pointer (some ⟨p, o, none⟩))) (hy : ev s y = some v) (hi : L[i]? = some (blkA p cs T)) (hu : cs[o]? = some u) (hv : v.oneCell' = true) : Ef P n s L ⟨none, .store t x y, ty, pos, af, none⟩ (fun _ : Unit => undef) (fun _ => L.set i (blkA p (cs.set o v) T)) :=
  Ef_skip rfl (fun a w ha hw => by
    have hh := hw.at_ hi
    have hc : w.cell? ⟨p, o, none⟩ = some u := by rw [hh.cell]; exact hu
    refine ⟨w.setCell ⟨p, o, none⟩ v, ?_, hw.put hi fun M hM => hM.set o v⟩
    have hcs : v.cells = #[v] := by cases v <;> first | rfl | cases hv
    have hsz := (one_agg (tab_ok hT ht) h1 w).2
    simp only [execOp, ha.ev hx, ha.ev hy, Instr.storeAt, Instr.sureAddr, storeVar, Sem.run_bind, Sem.run_pure, hsz, hcs, Result.andThen_ok]
    simp [storeCells, add_any, run_store P w _ v _ hv, hc, hh.free o])

theorem E_storeS {t p o k : Nat} {td : TD} {x y : Operand} {cs vs : List Value} {T : TypeId} (i : Nat) (ht : tdOf tab t = some td) (h1 : aggSize td = some k) (hx : ev s x = some (.pointer (some ⟨p, o, none⟩))) (hy : ev s y = some (.agg vs.toArray)) (hi : L[i]? = some (blkA p cs T)) (hl : Nat.ble (o + vs.length) cs.length = true) (hk : vs.length = k) (hv : vs.all (·.oneCell') = true) : Ef P n s L ⟨none, .store t x y, ty, pos, af, none⟩ (fun _ : Unit => undef) (fun _ => L.set i (blkA p (putL cs o vs) T)) :=
  Ef_skip rfl (fun a w ha hw => by
    obtain ⟨w', hr, hst⟩ := run_storeCells_put (P := P) vs o 0 cs _ w (hw.pick i hi) (by have := Nat.le_of_ble_eq_true hl; omega) hv
    refine ⟨w', ?_, ?_⟩
    · have hsz := (agg_agg (tab_ok hT ht) h1 w).2
      simp only [execOp, ha.ev hx, ha.ev hy, Instr.storeAt, Instr.sureAddr, storeVar, Sem.run_bind, Sem.run_pure, hsz, Result.andThen_ok, Value.cells, List.size_toArray, hk]
      simp [hr]
    · exact hst.perm (perm_set L i _ hi))

omit hT in
/-- New memory for a value. -/
theorem E_box {t : TypeId} {x : Operand} {v : Value} (hx : ev s x = some v) (cs : List Value) (hc : v.cells = cs.toArray) : Ef P n s L ⟨d, .box t x, ty, pos, af, none⟩ (fun g : Nat => .pointer (some ⟨g, 0, none⟩)) (fun g => blkA g cs t :: L) :=
  Ef_run (fun a w ha hw => by
    refine ⟨w.heap.size, w.alloc (.cells v.cells t), ?_, by rw [hc]; exact hw.alloc cs t⟩
    simp only [execOp, ha.ev hx, Instr.box, newVar, newRow, newObj]
    rfl)

theorem Y_index {t e K bytes g k len cap : Nat} {x y : Operand} {ki : IntKind} {i : Int} (ht : tdOf tab t = some (.sl e K bytes)) (hx : ev s x = some (.slice (some ⟨g, 0, none⟩) len cap)) (hy : ev s y = some (.int ki i)) (hk : i = (k : Int)) (hlt : k < len) : Yl P n s L ⟨d, .indexAddr t x y, ty, pos, af, none⟩ (.pointer (some ⟨g, k * K + 0, none⟩)) :=
  Yl_mk fun a w ha _ => by
    have hc := tab_ok hT ht
    simp only [checkT, Bool.and_eq_true] at hc
    have hu : P.underlying t = some (.slice e) := by
      have h1 := hc.1.1.1.1.1
      split at h1
      · rename_i e' he; rw [he, Nat.eq_of_beq_eq_true h1]
      · cases h1
    have hs := sizeB_run hc.1.1.1.2 w
    subst hk
    simp [execOp, ha.ev hx, ha.ev hy, Instr.indexAt, asIntOf, underlying, hu, hlt, hs, add_any]

theorem Y_fieldR {t i o k size g q K j : Nat} {fo : List (Nat × Nat)} {x : Operand} (ht : tdOf tab t = some (.st fo size)) (hi : fo[i]? = some (o, k)) (hx : ev s x = some (.pointer (some ⟨g, q * K + j, none⟩))) : Yl P n s L ⟨d, .fieldAddr t x i, ty, pos, af, none⟩ (.pointer (some ⟨g, q * K + (j + o), none⟩)) := by
  have := Y_field (P := P) (n := n) (L := L) (d := d) (ty := ty) (pos := pos) (af := af) hT ht hi hx
  rw [Nat.add_assoc] at this; exact this

theorem sl_und {t e K bytes : Nat} (ht : tdOf tab t = some (.sl e K bytes)) : P.underlying t = some (.slice e) := by
  have hc := tab_ok hT ht
  simp only [checkT, Bool.and_eq_true] at hc
  have h1 := hc.1.1.1.1.1
  split at h1
  · rename_i e' he; rw [he, Nat.eq_of_beq_eq_true h1]
  · cases h1
theorem str_und {t : Nat} (ht : tdOf tab t = some .str) : P.underlying t = some .string := by
  have hc := tab_ok hT ht
  simp only [checkT, Bool.and_eq_true] at hc
  have h1 := hc.1
  split at h1
  · rename_i he; exact he
  · cases h1

theorem Y_len {x : Operand} {t e K bytes : Nat} {a : Option Addr} {len cap : Nat} (ht : tdOf tab t = some (.sl e K bytes)) (hx : ev s x = some (.slice a len cap)) : Yl P n s L ⟨d, .call { callee := .builtin .len, args := #[x], argTypes := #[t] }, ty, pos, af, none⟩ (.int .i64 (len : Nat)) :=
  Yl_mk fun act w ha _ => by
    have hu := sl_und hT ht
    simp [execOp, resolve, invoke, builtin, Builtin.len_, ha.ev hx, underlying, hu, goInt]
theorem Y_lenS {x : Operand} {t : Nat} {b : ByteArray} (ht : tdOf tab t = some .str) (hx : ev s x = some (.string b)) : Yl P n s L ⟨d, .call { callee := .builtin .len, args := #[x], argTypes := #[t] }, ty, pos, af, none⟩ (.int .i64 (b.size : Nat)) :=
  Yl_mk fun act w ha _ => by
    have hu := str_und hT ht
    simp [execOp, resolve, invoke, builtin, Builtin.len_, ha.ev hx, underlying, hu, goInt]

omit hT in
/-- A call. -/
theorem E_call {ι : Type} {f : FuncId} {l : List Operand} {ts : Array TypeId} {vs : List Value} {args : Array Value} {v : ι → Value} {L' : ι → List As} (hl : evs s l = some vs) (hf : (match P.funcs[f]? with | some fn => fn.body.isSome && !(fn.name == "runtime.NumGoroutine") | none => false) = true) (hargs : vs.toArray = args)
    (hc : ∀ w, St L w → Calls P f args w fun e w' => ∃ x, e = .returned (v x) ∧ St (L' x) w') :
    Ef P n s L ⟨d, .call { callee := .value (.func f), args := l.toArray, argTypes := ts }, ty, pos, af, none⟩ v L' := Ef_mk fun a w K Q ha hw hK => by
  subst hargs
  have he : (execOp a.eval ⟨d, .call { callee := .value (.func f), args := l.toArray, argTypes := ts }, ty, pos, af, none⟩).run P w = .ok (.enter f vs.toArray) w := by
    have h1 : l.toArray.map a.eval = vs.toArray := by rw [← ha.evs hl]; simp
    cases hfn : P.funcs[f]? with
    | none => rw [hfn] at hf; cases hf
    | some fn =>
      rw [hfn] at hf
      simp only [Bool.and_eq_true, Bool.not_eq_true'] at hf
      have hb : ¬ fn.body = none := by have := hf.1; cases hq : fn.body <;> simp_all
      have hne : ¬ fn.name = "runtime.NumGoroutine" := by simpa using hf.2
      simp [execOp, resolve, Act.eval, Deferred.ofValue, invoke, callFunc, hfn, h1]
      rw [if_neg hne, if_neg hb]
  unfold Oper.wp
  rw [he, Oper.upon_enter]
  refine (hc w hw).mono ?_
  rintro e w' ⟨x, rfl, hst⟩
  exact hK x w' hst
omit hT in
theorem E_call0 {f : FuncId} {l : List Operand} {ts : Array TypeId} {vs : List Value} {args : Array Value} {v : Value} {L' : List As} (hl : evs s l = some vs) (hf : (match P.funcs[f]? with | some fn => fn.body.isSome && !(fn.name == "runtime.NumGoroutine") | none => false) = true) (hargs : vs.toArray = args)
    (hc : ∀ w, St L w → Calls P f args w fun e w' => e = .returned v ∧ St L' w') :
    Ef P n s L ⟨d, .call { callee := .value (.func f), args := l.toArray, argTypes := ts }, ty, pos, af, none⟩ (fun _ : Unit => v) (fun _ => L') :=
  E_call hl hf hargs (fun w hw => (hc w hw).mono fun e w' ⟨h1, h2⟩ => ⟨(), h1, h2⟩)

end
end Go.Proofs.Ytbeolkjegipldaa
