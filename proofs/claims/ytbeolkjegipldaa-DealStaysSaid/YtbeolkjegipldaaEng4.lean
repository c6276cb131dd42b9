/- The walk's rules: zero values, literals of structs and slices, comparisons of other kinds, calls in two forms. -/
import Derived.Test.YtbeolkjegipldaaEng3
import Derived.Great.BuildSlice
import Derived.Laws.Tables
namespace Go.Proofs.Ytbeolkjegipldaa
open Go.RowKit

/-- Are values the same? (of the kinds that a zero value has) -/
def eqZ : Value → Value → Bool
  | .int k n, .int k' n' => decide (k = k') && decide (n = n')
  | .bool a, .bool b => a == b
  | .string a, .string b => a.data.toList.isEmpty && b.data.toList.isEmpty
  | .pointer none, .pointer none => true
  | .slice none a b, .slice none c d => Nat.beq a c && Nat.beq b d
  | .map none, .map none => true
  | .nilFunc, .nilFunc => true
  | .nilIface, .nilIface => true
  | _, _ => false
theorem eqZ_eq {a b : Value} (h : eqZ a b = true) : a = b := by
  unfold eqZ at h
  split at h
  · simp at h; rw [h.1, h.2]
  · simp at h; rw [h]
  · rename_i a b
    simp at h
    have : a.data = b.data := by rw [h.1, h.2]
    have : a = b := by cases a; cases b; simp at this; rw [this]
    rw [this]
  · rfl
  · simp only [Bool.and_eq_true] at h; rw [Nat.eq_of_beq_eq_true h.1, Nat.eq_of_beq_eq_true h.2]
  · rfl
  · rfl
  · rfl
  · cases h
def eqZs : List Value → List Value → Bool
  | [], [] => true
  | a :: l, b :: r => eqZ a b && eqZs l r
  | _, _ => false
theorem eqZs_eq : ∀ {l r : List Value}, eqZs l r = true → l = r
  | [], [], _ => rfl
  | [], _ :: _, h => by simp [eqZs] at h
  | _ :: _, [], h => by simp [eqZs] at h
  | a :: l, b :: r, h => by simp only [eqZs, Bool.and_eq_true] at h; rw [eqZ_eq h.1, eqZs_eq h.2]

def zOf : List (Nat × List Value) → Nat → Option (List Value)
  | [], _ => none
  | (k, v) :: r, t => match Nat.beq k t with | true => some v | false => zOf r t
def checkZ (P : Program) : List (Nat × List Value) → Bool
  | [] => true
  | (t, cs) :: r => (match P.info? t with | some i => (match i.zero with | some z => eqZs z.cells.toList cs | none => false) | none => false) && checkZ P r
theorem z_ok {P : Program} : ∀ {zt : List (Nat × List Value)} {t : Nat} {cs : List Value}, checkZ P zt = true → zOf zt t = some cs → ∃ i z, P.info? t = some i ∧ i.zero = some z ∧ z.cells = cs.toArray
  | [], _, _, _, h => by simp [zOf] at h
  | (k, v) :: r, t, cs, hc, h => by
    simp only [checkZ, Bool.and_eq_true] at hc
    simp only [zOf] at h
    split at h
    · rename_i e
      obtain rfl := Nat.eq_of_beq_eq_true e
      obtain rfl := Option.some.inj h
      have h1 := hc.1
      split at h1
      · rename_i i hi
        split at h1
        · rename_i z hz
          exact ⟨i, z, hi, hz, by rw [← eqZs_eq h1]⟩
        · cases h1
      · cases h1
    · exact z_ok hc.2 h

def fillL (pl : Nat → Option (Nat × Nat)) : List Value → List (Nat × Value) → Option (List Value)
  | cs, [] => some cs
  | cs, (i, v) :: r => match pl i with
    | some (off, size) => match Nat.beq v.cells.toList.length size && Nat.ble (off + size) cs.length with
      | true => fillL pl (putL cs off v.cells.toList) r
      | false => none
    | none => none

theorem putL_len : ∀ (c : List Value) (o : Nat) (r : List Value), (putL c o r).length = c.length
  | [], 0, [] => rfl
  | [], _ + 1, [] => rfl
  | [], 0, _ :: _ => rfl
  | [], _ + 1, _ :: _ => rfl
  | _ :: _, 0, [] => rfl
  | _ :: c, 0, _ :: r => by simp [putL, putL_len c 0 r]
  | _ :: c, o + 1, r => by rw [putL, List.length_cons, putL_len c o r, List.length_cons]

theorem foldl_putL (off : Nat) : ∀ (vs : List Value) (k : Nat) (cs : List Value), (vs.zipIdx k).foldl (fun (a : Array Value) (x : Value × Nat) => a.setIfInBounds (off + x.2) x.1) cs.toArray = (putL cs (off + k) vs).toArray
  | [], k, cs => by rw [putL_nil]; rfl
  | v :: r, k, cs => by
    rw [List.zipIdx_cons, List.foldl_cons, putL_set]
    have := foldl_putL off r (k + 1) (cs.set (off + k) v)
    rw [← Nat.add_assoc] at this
    rw [← this]
    simp

theorem fill_eq {pl : Nat → Option (Nat × Nat)} : ∀ {ps : List (Nat × Value)} {cs cs' : List Value}, fillL pl cs ps = some cs' → Instr.fill pl cs.toArray ps = some cs'.toArray
  | [], cs, cs', h => by simp only [fillL] at h; obtain rfl := Option.some.inj h; rfl
  | (i, v) :: r, cs, cs', h => by
    simp only [fillL] at h
    split at h
    · rename_i off size hp
      split at h
      · rename_i hb
        simp only [Bool.and_eq_true] at hb
        have h1 := Nat.eq_of_beq_eq_true hb.1
        have h2 := Nat.le_of_ble_eq_true hb.2
        have ih := fill_eq h
        have hn : ¬ ((decide (v.cells.size ≠ size) || decide (off + v.cells.size > cs.toArray.size)) = true) := by
          simp only [Array.length_toList] at h1
          simp only [List.size_toArray, Bool.or_eq_true, decide_eq_true_eq]
          omega
        simp only [Instr.fill, hp]
        rw [if_neg hn, ← ih]
        congr 1
        have := foldl_putL off v.cells.toList 0 cs
        rw [Nat.add_zero] at this
        rw [← this, ← Array.foldl_toList, Array.toList_zipIdx]
      · cases h
    · cases h

/-- A literal's parts, evaluated. -/
def evp (s : Sl) : List (Nat × Operand) → Option (List (Nat × Value))
  | [] => some []
  | (i, x) :: r => match ev s x with | some v => (match evp s r with | some l => some ((i, v) :: l) | none => none) | none => none
theorem Rp.evp {n : Nat} {s : Sl} {a : Act} (h : Rp n s a) : ∀ {l : List (Nat × Operand)} {vs : List (Nat × Value)}, Proofs.Ytbeolkjegipldaa.evp s l = some vs → l.map (fun x => (x.1, a.eval x.2)) = vs
  | [], vs, he => by simp [Proofs.Ytbeolkjegipldaa.evp] at he; simp [he]
  | (i, x) :: r, vs, he => by
    simp only [Proofs.Ytbeolkjegipldaa.evp] at he
    split at he
    · rename_i v hv
      split at he
      · rename_i l hl
        obtain rfl := Option.some.inj he
        rw [List.map_cons, h.ev hv, h.evp hl]
      · cases he
    · cases he

def repL (zs : List Value) : Nat → List Value
  | 0 => []
  | k + 1 => zs ++ repL zs k

theorem repL_eq {zs : List Value} {K : Nat} (hK : zs.length = K) (h0 : 0 < K) : ∀ len : Nat, repL zs len = (List.range (len * K)).map fun i => zs.toArray[i % zs.toArray.size]!
  | 0 => by simp [repL]
  | k + 1 => by
    rw [repL, repL_eq hK h0 k, Nat.add_mul, Nat.one_mul, Nat.add_comm (k * K) K, List.range_add, List.map_append]
    congr 1
    · apply List.ext_getElem?
      intro i
      by_cases hi : i < K
      · rw [List.getElem?_eq_getElem (by omega)]
        have : i % K = i := Nat.mod_eq_of_lt hi
        simp [hi, hK, this, getElem!_def, List.getElem?_eq_getElem (show i < zs.length by omega)]
      · rw [List.getElem?_eq_none (by omega), List.getElem?_eq_none (by simp; omega)]
    · rw [List.map_map]
      apply List.map_congr_left
      intro i _
      simp [hK]

section
variable {P : Program} {n : Nat} {tab : List (Nat × TD)} (hT : checkTab P tab = true) {zt : List (Nat × List Value)} (hZ : checkZ P zt = true) {Q : Exit → Act → World → Prop} {s : Sl} {L : List As} {all rest : List Oper} {d : Option Tmp} {ty : TypeId} {pos : String} {af : Array Edge}

include hZ in
/-- New memory, zero. -/
theorem E_alloc {t : TypeId} {cs : List Value} (hc : zOf zt t = some cs) : Ef P n s L ⟨d, .alloc t, ty, pos, af, none⟩ (fun g : Nat => .pointer (some ⟨g, 0, none⟩)) (fun g => blkA g cs t :: L) :=
  Ef_run (fun a w ha hw => by
    obtain ⟨i, z, h1, h2, h3⟩ := z_ok hZ hc
    refine ⟨w.heap.size, w.alloc (.cells z.cells t), ?_, by rw [h3]; exact hw.alloc cs t⟩
    simp [execOp, Instr.alloc, zeroValue, typeInfo, h1, h2, newVar, newRow, newObj]
    rfl)

include hT hZ in
theorem E_slice {t e K bytes len : Nat} {l : List (Nat × Operand)} {ps : List (Nat × Value)} {zs cs : List Value} (ht : tdOf tab t = some (.sl e K bytes)) (hz : zOf zt e = some zs) (hp : evp s l = some ps) (hf : fillL (fun i => some (i * K, K)) (repL zs len) ps = some cs) (hl : Nat.ble (len * K) 16777216 = true) : Ef P n s L ⟨d, .buildSlice t len l.toArray, ty, pos, af, none⟩ (fun g : Nat => .slice (some ⟨g, 0, none⟩) len len) (fun g => blkA g cs e :: L) :=
  E_buildSlice ht cs (by
    intro a w ha
    have hc := tab_ok hT ht
    simp only [checkT, Bool.and_eq_true, Bool.not_eq_true'] at hc
    obtain ⟨⟨⟨⟨⟨_, _⟩, hsz⟩, _⟩, hze⟩, hk0⟩ := hc
    have hu := sl_und hT ht
    obtain ⟨i, z, h1, h2, h3⟩ := z_ok hZ hz
    have hk : zs.length = K := by
      unfold zeroB at hze
      simp only [h1, h2] at hze
      have := Nat.eq_of_beq_eq_true hze
      rw [h3] at this; simpa using this
    have hkp : 0 < K := Nat.pos_of_ne_zero fun e0 => by rw [e0] at hk0; simp at hk0
    have hs := sizeB_run hsz w
    have hle := Nat.le_of_ble_eq_true hl
    have hparts : (l.toArray.map fun x => (x.1, a.eval x.2)).toList = ps := by rw [← ha.evp hp]; simp
    have hfill := fill_eq hf
    rw [repL_eq hk hkp] at hfill
    have hsi : i.size = K := by
      unfold sizeB at hsz
      simp only [h1] at hsz
      exact Nat.eq_of_beq_eq_true hsz
    by_cases hl0 : len * K = 0
    · have hl1 : len = 0 := by rcases Nat.mul_eq_zero.1 hl0 with h | h <;> omega
      subst hl1
      have hfill0 : Instr.fill (fun i => some (i * K, K)) #[] ps = some cs.toArray := by
        rw [← hfill]; congr 1; simp
      simp only [Instr.buildSlice, Sem.run_bind, run_underlying hu, Result.andThen_ok]
      have hparts' : (l.toArray.map fun x => (x.1, a.eval x.2)).toList = ps := hparts
      simp [hs, newRow]
      rw [show (List.map (fun x => (x.1, a.eval x.2)) l) = ps by rw [← hparts']; simp]
      rw [show (Array.map (fun _ => (default : Value)) (Array.range 0)) = #[] by apply Array.ext'; simp, hfill0]
      rfl
    · have hrng : (Array.range (len * K)).map (fun i => z.cells[i % z.cells.size]!) = ((List.range (len * K)).map fun i => zs.toArray[i % zs.toArray.size]!).toArray := by
        rw [h3]
        apply Array.ext'
        simp
      refine run_buildSlice w t e len _ cs.toArray i z hu h1 h2 (by rw [hsi]; omega) (by rw [hsi]; omega) ?_
      rw [hsi, hrng]
      rw [← hfill]
      congr 1)

theorem fosB_places {P : Program} : ∀ {fs : List Field} {fo : List (Nat × Nat)}, fosB P fs fo = true → fs.mapM (fun f => (P.info? f.type).map fun i => (f.offset, i.size)) = some fo
  | [], [], _ => rfl
  | [], _ :: _, h => by simp [fosB] at h
  | _ :: _, [], h => by simp [fosB] at h
  | f :: fs, (o, k) :: r, h => by
    simp only [fosB, Bool.and_eq_true] at h
    have ih := fosB_places h.2
    have h1 := sizeB_info h.1.1.2
    have h2 := Nat.eq_of_beq_eq_true h.1.1.1
    cases hi : P.info? f.type with
    | none => rw [hi] at h1; simp at h1
    | some i =>
      rw [hi] at h1
      simp at h1
      simp [List.mapM_cons, hi, ih, h1, h2]

include hT hZ in
theorem Y_build {t size : Nat} {fo : List (Nat × Nat)} {l : List (Nat × Operand)} {ps : List (Nat × Value)} {zs cs : List Value} (ht : tdOf tab t = some (.st fo size)) (hz : zOf zt t = some zs) (hp : evp s l = some ps) (hf : fillL (fun i => fo[i]?) zs ps = some cs) : Yl P n s L ⟨d, .build t l.toArray, ty, pos, af, none⟩ (.agg cs.toArray) :=
  Yl_mk fun a w ha _ => by
    have hc := tab_ok hT ht
    simp only [checkT, Bool.and_eq_true] at hc
    obtain ⟨i, z, h1, h2, h3⟩ := z_ok hZ hz
    have hb : P.built t ps = some cs.toArray := by
      have hc1 := hc.1
      split at hc1
      · rename_i fs hu
        unfold Program.built
        simp only [h1, hu, h2, fosB_places hc1, h3]
        have := fill_eq hf
        simpa using this
      · cases hc1
    have hparts : (l.toArray.map fun (x : Nat × Operand) => (x.1, a.eval x.2)).toList = ps := by rw [← ha.evp hp]; simp
    simp only [execOp, Sem.run_bind]
    rw [run_build w t _ cs.toArray (by rw [← hb]; congr 1)]
    rfl

theorem Y_bin {op : BinOp} {x y : Operand} {t t' : TypeId} {a b v : Value} (hx : ev s x = some a) (hy : ev s y = some b) (hr : ∀ w, (do eqGuard op t x y a b; binOp op t a b : Sem Value).run P w = .ok v w) : Yl P n s L ⟨d, .binOp op t x y t', ty, pos, af, none⟩ v :=
  Yl_mk fun act w ha _ => by
    have := hr w
    simp only [execOp, ha.ev hx, ha.ev hy]
    rw [Sem.run_bind, this]; rfl


end
theorem get0 {A : As} {L : List As} : (A :: L)[0]? = some A := rfl
theorem get1 {B0 A : As} {L : List As} : (B0 :: A :: L)[1]? = some A := rfl
theorem get2 {B0 B1 A : As} {L : List As} : (B0 :: B1 :: A :: L)[2]? = some A := rfl
theorem get3 {B0 B1 B2 A : As} {L : List As} : (B0 :: B1 :: B2 :: A :: L)[3]? = some A := rfl
theorem get4 {B0 B1 B2 B3 A : As} {L : List As} : (B0 :: B1 :: B2 :: B3 :: A :: L)[4]? = some A := rfl
theorem get5 {B0 B1 B2 B3 B4 A : As} {L : List As} : (B0 :: B1 :: B2 :: B3 :: B4 :: A :: L)[5]? = some A := rfl
end Go.Proofs.Ytbeolkjegipldaa
