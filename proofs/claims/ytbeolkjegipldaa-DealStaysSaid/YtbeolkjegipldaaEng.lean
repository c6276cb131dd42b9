/- A walk by rules: what the slots hold, what memory holds, one rule for each kind of operation. -/
import Derived.Test.YtbeolkjegipldaaStar
import Derived.IntWalk
namespace Go.Proofs.Ytbeolkjegipldaa
open Go.RowKit

/-- What is known of the slots, the latest first. -/
abbrev Sl := List (Nat × Value)

def gt : Sl → Nat → Option Value
  | [], _ => none
  | (k, v) :: r, t => match Nat.beq k t with | true => some v | false => gt r t

structure Rp (n : Nat) (s : Sl) (a : Act) : Prop where
  defers : a.defers = []
  size : a.tmps.size = n
  at_ : ∀ t v, gt s t = some v → a.tmps[t]? = some v

def ev (s : Sl) : Operand → Option Value
  | .tmp t => gt s t
  | .const v => some v
  | .func f => some (.func (.func f) #[] #[])
  | .global g => some (.pointer (some ⟨g, 0, none⟩))

theorem Rp.ev {n : Nat} {s : Sl} {a : Act} (h : Rp n s a) {x : Operand} {v : Value} (he : ev s x = some v) : a.eval x = v := by
  cases x with
  | tmp t => have := h.at_ t v he; simp [Act.eval, this]
  | const u => simp [Proofs.Ytbeolkjegipldaa.ev] at he; simp [Act.eval, he]
  | func f => simp [Proofs.Ytbeolkjegipldaa.ev] at he; simp [Act.eval, he]
  | global g => simp [Proofs.Ytbeolkjegipldaa.ev] at he; simp [Act.eval, he]

def putS (dst : Option Nat) (v : Value) (s : Sl) : Sl := match dst with | some d => (d, v) :: s | none => s
def okD (n : Nat) (dst : Option Nat) : Bool := match dst with | some d => Nat.blt d n | none => true

theorem Rp.put {n : Nat} {s : Sl} {a : Act} (h : Rp n s a) {dst : Option Nat} (hd : okD n dst = true) (v : Value) : Rp n (putS dst v s) (a.put dst v) := by
  cases dst with
  | none => exact h
  | some d =>
    have hd : d < n := by rw [← Nat.blt_eq]; exact hd
    refine ⟨h.defers, by simp [Act.put, h.size], fun t u ht => ?_⟩
    simp only [putS, gt] at ht
    split at ht
    · rename_i e
      have e := Nat.eq_of_beq_eq_true e
      subst e
      obtain rfl := Option.some.inj ht
      simp [Act.put, h.size, hd]
    · rename_i e
      have e : d ≠ t := fun e' => by rw [e', Nat.beq_refl] at e; cases e
      simp only [Act.put]
      rw [Array.getElem?_setIfInBounds_ne e]
      exact h.at_ t u ht

theorem Rp.weak {n : Nat} {s s' : Sl} {a : Act} (h : Rp n s a) (hs : ∀ t v, gt s' t = some v → gt s t = some v) : Rp n s' a := ⟨h.defers, h.size, fun t v ht => h.at_ t v (hs t v ht)⟩

/-- Are all of s' in s? (for slots that are forgotten) -/
def AllIn (s : Sl) : Sl → Prop
  | [] => True
  | (k, v) :: r => gt s k = some v ∧ AllIn s r
theorem gt_of_all {s : Sl} : ∀ {s' : Sl}, AllIn s s' → ∀ t v, gt s' t = some v → gt s t = some v
  | [], _, t, v, h => by simp [gt] at h
  | (k, u) :: r, hp, t, v, h => by
    simp only [gt] at h
    split at h
    · rename_i e
      have e := Nat.eq_of_beq_eq_true e
      subst e
      obtain rfl := Option.some.inj h
      exact hp.1
    · exact gt_of_all hp.2 t v h
def ArgsIn (args : Array Value) : Sl → Prop
  | [] => True
  | (k, v) :: r => args[k]? = some v ∧ ArgsIn args r
theorem args_of_all {args : Array Value} : ∀ {s' : Sl}, ArgsIn args s' → ∀ t v, gt s' t = some v → args[t]? = some v
  | [], _, t, v, h => by simp [gt] at h
  | (k, u) :: r, hp, t, v, h => by
    simp only [gt] at h
    split at h
    · rename_i e
      have e := Nat.eq_of_beq_eq_true e
      subst e
      obtain rfl := Option.some.inj h
      exact hp.1
    · exact args_of_all hp.2 t v h

section
variable {P : Program} {n : Nat}

def XN (n : Nat) (Q : Exit → Act → World → Prop) (e : Exit) (s : Sl) (L : List As) : Prop := ∀ a w, Rp n s a → St L w → Q e a w
def XC (P : Program) (n : Nat) (c : Code) (Q : Exit → Act → World → Prop) (s : Sl) (L : List As) : Prop := ∀ a w, Rp n s a → St L w → c.wp P Q a w
def XL (P : Program) (n : Nat) (Q : Exit → Act → World → Prop) (all rest : List Oper) (s : Sl) (L : List As) : Prop := ∀ a w, Rp n s a → St L w → wpList P all.toArray Q rest a w

/-- What is still to come: code that follows, the block that is left, or (a loop's round, a piece's end) something else. -/
inductive Fr where
  | sq (y : Code)
  | bk (id : Nat)
  | qq (N : Act → World → Prop)
def den (P : Program) : List Fr → (Exit → Act → World → Prop) → Exit → Act → World → Prop
  | [], R => R
  | .sq y :: ks, R => Exit.then (y.wp P (den P ks R)) (den P ks R)
  | .bk id :: ks, R => Exit.inBlock id (den P ks R)
  | .qq N :: ks, R => Exit.then N (den P ks R)

variable {Q R : Exit → Act → World → Prop} {s : Sl} {L : List As} {ks : List Fr}

theorem XN_end {e : Exit} (h : XN n R e s L) : XN n (den P [] R) e s L := h
theorem XC_seq {x y : Code} (h : XC P n x (den P (.sq y :: ks) R) s L) : XC P n (.seq x y) (den P ks R) s L := fun a w ha hw => wp_seq (h a w ha hw)
theorem XN_sq {y : Code} (h : XC P n y (den P ks R) s L) : XN n (den P (.sq y :: ks) R) .normal s L := h
theorem XN_sq_ret {y : Code} (h : XN n (den P ks R) .ret s L) : XN n (den P (.sq y :: ks) R) .ret s L := h
theorem XN_sq_exit {y : Code} {id : Nat} (h : XN n (den P ks R) (.exit id) s L) : XN n (den P (.sq y :: ks) R) (.exit id) s L := h
theorem XN_qq_ret {N : Act → World → Prop} (h : XN n (den P ks R) .ret s L) : XN n (den P (.qq N :: ks) R) .ret s L := h
theorem XN_qq_exit {N : Act → World → Prop} {id : Nat} (h : XN n (den P ks R) (.exit id) s L) : XN n (den P (.qq N :: ks) R) (.exit id) s L := h
theorem XN_bk {id : Nat} (h : XN n (den P ks R) .normal s L) : XN n (den P (.bk id :: ks) R) .normal s L := h
theorem XN_bk_ret {id : Nat} (h : XN n (den P ks R) .ret s L) : XN n (den P (.bk id :: ks) R) .ret s L := h
theorem XN_bk_same {id : Nat} (h : XN n (den P ks R) .normal s L) : XN n (den P (.bk id :: ks) R) (.exit id) s L := fun a w ha hw => by
  show (if id = id then _ else _); rw [if_pos rfl]; exact h a w ha hw
theorem XN_bk_other {id id' : Nat} (hne : Nat.beq id' id = false) (h : XN n (den P ks R) (.exit id') s L) : XN n (den P (.bk id :: ks) R) (.exit id') s L := fun a w ha hw => by
  show (if id' = id then _ else _); rw [if_neg (fun e => by rw [e, Nat.beq_refl] at hne; cases hne)]; exact h a w ha hw
theorem XC_skip (h : XN n Q .normal s L) : XC P n .skip Q s L := fun a w ha hw => wp_skip (h a w ha hw)
theorem XC_label {l : Nat} (h : XN n Q .normal s L) : XC P n (.label l) Q s L := fun a w ha hw => wp_label (h a w ha hw)
theorem XC_exit {id : Nat} (h : XN n Q (.exit id) s L) : XC P n (.exit id) Q s L := fun a w ha hw => wp_exit (h a w ha hw)
theorem XC_ret (h : XN n Q .ret s L) : XC P n .ret Q s L := fun a w ha hw => wp_ret (h a w ha hw)
theorem XC_block {id : Nat} {c : Code} (h : XC P n c (den P (.bk id :: ks) R) s L) : XC P n (.block id c) (den P ks R) s L := fun a w ha hw => wp_block (h a w ha hw)
theorem XC_cond {c : Operand} {x y : Code} {b : Bool} (hc : ev s c = some (.bool b)) (h1 : b = true → XC P n x Q s L) (h2 : b = false → XC P n y Q s L) : XC P n (.cond c x y) Q s L :=
  fun a w ha hw => wp_cond_split (ha.ev hc) (fun h => h1 h a w ha hw) (fun h => h2 h a w ha hw)
theorem XC_condT {c : Operand} {x y : Code} (hc : ev s c = some (.bool true)) (h1 : XC P n x Q s L) : XC P n (.cond c x y) Q s L := fun a w ha hw => wp_cond_true (ha.ev hc) (h1 a w ha hw)
theorem XC_condF {c : Operand} {x y : Code} (hc : ev s c = some (.bool false)) (h1 : XC P n y Q s L) : XC P n (.cond c x y) Q s L := fun a w ha hw => wp_cond_false (ha.ev hc) (h1 a w ha hw)
theorem XC_condD {c : Operand} {x y : Code} {p : Prop} {ip : Decidable p} (hc : ev s c = some (.bool (decide p))) (h1 : p → XC P n x Q s L) (h2 : ¬ p → XC P n y Q s L) : XC P n (.cond c x y) Q s L :=
  XC_cond hc (fun h => h1 (of_decide_eq_true h)) (fun h => h2 (of_decide_eq_false h))
theorem XC_condP {c : Operand} {x y : Code} {b : Bool} (hc : ev s c = some (.bool b)) (hb : b = true) (h1 : XC P n x Q s L) : XC P n (.cond c x y) Q s L := XC_condT (by rw [hc, hb]) h1
theorem XC_condN {c : Operand} {x y : Code} {b : Bool} (hc : ev s c = some (.bool b)) (hb : b = false) (h1 : XC P n y Q s L) : XC P n (.cond c x y) Q s L := XC_condF (by rw [hc, hb]) h1
theorem XC_region {id : Nat} {l : List Oper} (h : XL P n Q l l s L) : XC P n (.region id l.toArray false) Q s L := fun a w ha hw => wp_region_lit (h a w ha hw)
theorem XC_weak {c : Code} {s' : Sl} {L' : List As} (h : XC P n c Q s' L') (hs : ∀ t v, gt s' t = some v → gt s t = some v) (hL : ∀ w, St L w → St L' w) : XC P n c Q s L := fun a w ha hw => h a w (ha.weak hs) (hL w hw)
/-- Only these slots are kept, in this order. -/
theorem XC_only {c : Code} (s' : Sl) (h : XC P n c Q s' L) (hs : AllIn s s') : XC P n c Q s L := XC_weak h (gt_of_all hs) (fun _ h => h)
theorem XC_perm {c : Code} (L' : List As) (h : XC P n c Q s L') (hp : L.Perm L') : XC P n c Q s L := XC_weak h (fun _ _ h => h) (fun _ h => h.perm hp)
theorem XC_up {c : Code} (i : Nat) {A : As} (hi : L[i]? = some A) (h : XC P n c Q s (A :: L.eraseIdx i)) : XC P n c Q s L := XC_perm _ h (perm_pick L i hi)

/-- What a round must hand on. -/
def lpN {ι : Type} (n : Nat) (inv : ι → Prop) (sI : ι → Sl) (LI : ι → List As) (m : ι → Nat) (x : ι) (a : Act) (w : World) : Prop := ∃ y, inv y ∧ m y < m x ∧ Rp n (sI y) a ∧ St (LI y) w
/-- The loop: what it keeps, told by x; each round comes to a lesser one. -/
theorem XC_loop {c : Code} {ι : Type} (inv : ι → Prop) (sI : ι → Sl) (LI : ι → List As) (m : ι → Nat) (x0 : ι) (h0 : inv x0) (hs : AllIn s (sI x0)) (hL : ∀ w, St L w → St (LI x0) w)
    (round : ∀ x, inv x → XC P n c (den P (.qq (lpN n inv sI LI m x) :: ks) R) (sI x) (LI x)) : XC P n (.loop c) (den P ks R) s L := by
  intro a w ha hw
  refine wp_loop_ghost (fun k a w => ∃ x, inv x ∧ m x = k ∧ Rp n (sI x) a ∧ St (LI x) w) (m x0) ⟨x0, h0, rfl, ha.weak (gt_of_all hs), hL w hw⟩ ?_
  rintro k a w ⟨x, hx, rfl, ha, hw⟩
  refine wp_mono (round x hx a w ha hw) ?_
  intro e a' w' hq
  cases e with
  | normal => obtain ⟨y, hi, hlt, hy⟩ := hq; exact ⟨m y, hlt, y, hi, rfl, hy⟩
  | _ => exact hq
theorem XN_round {ι : Type} {inv : ι → Prop} {sI : ι → Sl} {LI : ι → List As} {m : ι → Nat} {x : ι} (y : ι) (hi : inv y) (hlt : m y < m x) (hs : AllIn s (sI y)) (hL : ∀ w, St L w → St (LI y) w) :
    XN n (den P (.qq (lpN n inv sI LI m x) :: ks) R) .normal s L := fun a w ha hw => ⟨y, hi, hlt, ha.weak (gt_of_all hs), hL w hw⟩
theorem XC_loopL {c : Code} {ι : Type} (inv : ι → Prop) (sI : ι → Sl) (m : ι → Nat) (x0 : ι) (h0 : inv x0) (hs : AllIn s (sI x0))
    (round : ∀ x, inv x → XC P n c (den P (.qq (lpN n inv sI (fun _ => L) m x) :: ks) R) (sI x) L) : XC P n (.loop c) (den P ks R) s L := XC_loop inv sI (fun _ => L) m x0 h0 hs (fun _ h => h) round
/-- What a piece of code comes to. -/
def mdN {ι : Type} (n : Nat) (inv : ι → Prop) (sM : ι → Sl) (LM : ι → List As) (a : Act) (w : World) : Prop := ∃ y, inv y ∧ Rp n (sM y) a ∧ St (LM y) w
theorem XC_mid {x y : Code} {ι : Type} (inv : ι → Prop) (sM : ι → Sl) (LM : ι → List As) (h : XC P n x (den P (.qq (mdN n inv sM LM) :: ks) R) s L) (hk : ∀ z, inv z → XC P n y (den P ks R) (sM z) (LM z)) :
    XC P n (.seq x y) (den P ks R) s L := fun a w ha hw => wp_seq (wp_mono (h a w ha hw) fun e a' w' hq => by
  cases e with
  | normal => obtain ⟨z, hi, h1, h2⟩ := hq; exact hk z hi a' w' h1 h2
  | _ => exact hq)
theorem XN_mid {ι : Type} {inv : ι → Prop} {sM : ι → Sl} {LM : ι → List As} (y : ι) (hi : inv y) (hs : AllIn s (sM y)) (hL : ∀ w, St L w → St (LM y) w) :
    XN n (den P (.qq (mdN n inv sM LM) :: ks) R) .normal s L := fun a w ha hw => ⟨y, hi, ha.weak (gt_of_all hs), hL w hw⟩

/-- A call begins. -/
theorem calls_of_XC {f : FuncId} {fn : Func} {c : Code} {args : Array Value} {w : World} {R : Ending → World → Prop} (hf : P.funcs[f]? = some fn) (hb : fn.body = some c) (hm : fn.ntmps = n) (s : Sl) (hn : Nat.ble args.size n = true)
    (hs : ArgsIn args s) (hw : St L w) (h : XC P n c (den P [] (bodyPost P fn R)) s L) : Calls P f args w R := by
  subst hm
  have hn := Nat.le_of_ble_eq_true hn
  refine calls_of_wp hf hb (h _ w ⟨rfl, by simp; omega, fun t v ht => ?_⟩ hw)
  have h2 := args_of_all hs t v ht
  have h3 : t < args.size := (Array.getElem?_eq_some_iff.1 h2).1
  rw [Array.getElem?_append_left h3]
  exact h2

/-! ### Operations -/
variable {all rest : List Oper}

theorem XL_nil (h : XN n Q .normal s L) : XL P n Q all [] s L := fun a w ha hw => h a w ha hw

/-- It computes, or reads, v. -/
def Yl (P : Program) (n : Nat) (s : Sl) (L : List As) (o : Oper) (v : Value) : Prop := ∀ a w, Rp n s a → St L w → (execOp a.eval o).run P w = .ok (.value v) w
/-- It comes to one of these values, with such memory. -/
def Ef {ι : Type} (P : Program) (n : Nat) (s : Sl) (L : List As) (o : Oper) (v : ι → Value) (L' : ι → List As) : Prop :=
  ∀ (a : Act) (w : World) (K : Act → World → Prop) (Q : Exit → Act → World → Prop), Rp n s a → St L w → (∀ x w', St (L' x) w' → K (a.put o.dst (v x)) w') → o.wp P a w K Q

theorem Yl_mk {o : Oper} {v : Value} (h : ∀ a w, Rp n s a → St L w → (execOp a.eval o).run P w = .ok (.value v) w) : Yl P n s L o v := h
theorem Ef_mk {ι : Type} {o : Oper} {v : ι → Value} {L' : ι → List As} (h : ∀ (a : Act) (w : World) (K : Act → World → Prop) (Q : Exit → Act → World → Prop), Rp n s a → St L w → (∀ x w', St (L' x) w' → K (a.put o.dst (v x)) w') → o.wp P a w K Q) : Ef P n s L o v L' := h
theorem Ef_run {ι : Type} {o : Oper} {v : ι → Value} {L' : ι → List As} (hv : ∀ a w, Rp n s a → St L w → ∃ x w', (execOp a.eval o).run P w = .ok (.value (v x)) w' ∧ St (L' x) w') : Ef P n s L o v L' := fun a w K Q ha hw hK => by
  obtain ⟨x, w', hr, hst⟩ := hv a w ha hw
  unfold Oper.wp
  rw [hr, Oper.upon_value]
  exact hK x w' hst
theorem Ef_skip {o : Oper} {L' : List As} (hd : o.dst = none) (hv : ∀ a w, Rp n s a → St L w → ∃ w', (execOp a.eval o).run P w = .ok .skip w' ∧ St L' w') : Ef P n s L o (fun _ : Unit => undef) (fun _ => L') := fun a w K Q ha hw hK => by
  obtain ⟨w', hr, hst⟩ := hv a w ha hw
  unfold Oper.wp
  rw [hr, Oper.upon_skip]
  exact hK () w' hst

theorem XL_y {o : Oper} {v : Value} (hg : o.guard = none) (hv : Yl P n s L o v) (hd : okD n o.dst = true) (h : XL P n Q all rest (putS o.dst v s) L) : XL P n Q all (o :: rest) s L := fun a w ha hw => by
  have hw' : Region.wanted o (yielded all.toArray a.tmps) = true := by simp [Region.wanted, hg]
  simp only [wpList, hw', if_true]
  left
  unfold Oper.wp
  rw [hv a w ha hw, Oper.upon_value]
  exact h _ w (ha.put hd v) hw
theorem XL_e {ι : Type} {o : Oper} {v : ι → Value} {L' : ι → List As} (hg : o.guard = none) (he : Ef P n s L o v L') (hd : okD n o.dst = true) (h : ∀ x, XL P n Q all rest (putS o.dst (v x) s) (L' x)) : XL P n Q all (o :: rest) s L := fun a w ha hw => by
  have hw' : Region.wanted o (yielded all.toArray a.tmps) = true := by simp [Region.wanted, hg]
  simp only [wpList, hw', if_true]
  left
  exact he a w _ Q ha hw fun x w' hst => h x _ w' (ha.put hd _) hst

section ops
variable {d : Option Tmp} {ty : TypeId} {pos : String} {af : Array Edge}

/-- A guarded operation: wanted or not. -/
theorem XL_guard {op : Op} {j : Nat} {want b : Bool} {t : Tmp} (hj : (all[j]?).bind (·.dst) = some t) (hb : gt s t = some (.bool b)) (hd : okD n d = true)
    (h1 : b = want → XL P n Q all (⟨d, op, ty, pos, af, none⟩ :: rest) ((t, .bool want) :: s) L) (h2 : b = !want → XL P n Q all rest (putS d undef ((t, .bool (!want)) :: s)) L) :
    XL P n Q all (⟨d, op, ty, pos, af, some (j, want)⟩ :: rest) s L := fun a w ha hw => by
  have hy : yielded all.toArray a.tmps j = some b := by
    unfold yielded
    simp only [List.getElem?_toArray, hj, Option.bind_some, ha.at_ t _ hb]
  have hwd : Region.wanted ⟨d, op, ty, pos, af, some (j, want)⟩ (yielded all.toArray a.tmps) = (b == want) := by
    simp only [Region.wanted, hy]; cases b <;> cases want <;> rfl
  have hst : ∀ c, b = c → Rp n ((t, .bool c) :: s) a := fun c hc => ⟨ha.defers, ha.size, fun u v hu => by
    simp only [gt] at hu
    split at hu
    · rename_i e
      have e := Nat.eq_of_beq_eq_true e
      subst e
      obtain rfl := Option.some.inj hu
      rw [← hc]; exact ha.at_ t _ hb
    · exact ha.at_ u v hu⟩
  by_cases e : b = want
  · have h3 := h1 e a w (hst _ e) hw
    have hw0 : Region.wanted ⟨d, op, ty, pos, af, none⟩ (yielded all.toArray a.tmps) = true := rfl
    simp only [wpList, hw0, if_true] at h3
    simp only [wpList, hwd, e, beq_self_eq_true, if_true]
    exact h3
  · have e' : b = !want := by cases b <;> cases want <;> simp_all
    have h3 := h2 e' _ w ((hst _ e').put hd undef) hw
    have e2 : (b == want) = false := by simpa using e
    simp only [wpList, hwd, e2, Bool.false_eq_true, if_false]
    exact h3

theorem XL_guardY {op : Op} {j : Nat} {want : Bool} {t : Tmp} (hj : (all[j]?).bind (·.dst) = some t) (hb : gt s t = some (.bool want)) (hd : okD n d = true)
    (h1 : XL P n Q all (⟨d, op, ty, pos, af, none⟩ :: rest) s L) : XL P n Q all (⟨d, op, ty, pos, af, some (j, want)⟩ :: rest) s L := fun a w ha hw => by
  have hy : yielded all.toArray a.tmps j = some want := by
    unfold yielded
    simp only [List.getElem?_toArray, hj, Option.bind_some, ha.at_ t _ hb]
  have hwd : Region.wanted ⟨d, op, ty, pos, af, some (j, want)⟩ (yielded all.toArray a.tmps) = true := by
    simp only [Region.wanted, hy]; cases want <;> rfl
  have h3 := h1 a w ha hw
  have hw0 : Region.wanted ⟨d, op, ty, pos, af, none⟩ (yielded all.toArray a.tmps) = true := rfl
  simp only [wpList, hw0, if_true] at h3
  simp only [wpList, hwd, if_true]
  exact h3
theorem XL_guardN {op : Op} {j : Nat} {want b : Bool} {t : Tmp} (hj : (all[j]?).bind (·.dst) = some t) (hb : gt s t = some (.bool b)) (hne : b = !want) (hd : okD n d = true)
    (h1 : XL P n Q all rest (putS d undef s) L) : XL P n Q all (⟨d, op, ty, pos, af, some (j, want)⟩ :: rest) s L := fun a w ha hw => by
  have hy : yielded all.toArray a.tmps j = some b := by
    unfold yielded
    simp only [List.getElem?_toArray, hj, Option.bind_some, ha.at_ t _ hb]
  have hwd : Region.wanted ⟨d, op, ty, pos, af, some (j, want)⟩ (yielded all.toArray a.tmps) = false := by
    simp only [Region.wanted, hy, hne]; cases want <;> rfl
  simp only [wpList, hwd, Bool.false_eq_true, if_false]
  exact h1 _ w (ha.put hd undef) hw

theorem Y_move {x : Operand} {v : Value} (hx : ev s x = some v) : Yl P n s L ⟨d, .move x, ty, pos, af, none⟩ v :=
  fun a w ha _ => by simp [execOp, ha.ev hx]
theorem Y_assign {x : Operand} {v : Value} (hx : ev s x = some v) : Yl P n s L ⟨d, .assign x, ty, pos, af, none⟩ v :=
  fun a w ha _ => by simp [execOp, ha.ev hx]
theorem Y_pick {c x y : Operand} {b : Bool} {v : Value} (hc : ev s c = some (.bool b)) (hv : (if b then ev s x else ev s y) = some v) : Yl P n s L ⟨d, .pick c x y, ty, pos, af, none⟩ v :=
  fun a w ha _ => by
    cases b
    · simp at hv; simp [execOp, ha.ev hc, asBool, ha.ev hv]
    · simp at hv; simp [execOp, ha.ev hc, asBool, ha.ev hv]
theorem Y_pickT {c x y : Operand} {v : Value} (hc : ev s c = some (.bool true)) (hv : ev s x = some v) : Yl P n s L ⟨d, .pick c x y, ty, pos, af, none⟩ v := Y_pick hc (b := true) hv
theorem Y_pickF {c x y : Operand} {v : Value} (hc : ev s c = some (.bool false)) (hv : ev s y = some v) : Yl P n s L ⟨d, .pick c x y, ty, pos, af, none⟩ v := Y_pick hc (b := false) hv

theorem Y_not {x : Operand} {b : Bool} {t : TypeId} (hx : ev s x = some (.bool b)) : Yl P n s L ⟨d, .unOp .not t x, ty, pos, af, none⟩ (.bool (!b)) :=
  fun a w ha _ => by simp [execOp, ha.ev hx, Op.unary]

theorem guardInt (op : BinOp) (t : TypeId) (x y : Operand) (k k' : IntKind) (a b : Int) : eqGuard op t x y (.int k a) (.int k' b) = pure () := by
  unfold eqGuard; split <;> rfl

theorem in64 {x : Int} (h : -9223372036854775808 ≤ x ∧ x ≤ 9223372036854775807) : IntKind.i64.wrap x = x := by
  have := IntWalk.i64_in x h
  exact this

theorem Y_add {x y : Operand} {k : IntKind} {a b c : Int} {t t' : TypeId} (hx : ev s x = some (.int k a)) (hy : ev s y = some (.int k b)) (hc : k.wrap (a + b) = c) : Yl P n s L ⟨d, .binOp .add t x y t', ty, pos, af, none⟩ (.int k c) :=
  fun _ w ha _ => by simp [execOp, ha.ev hx, ha.ev hy, guardInt, binOp, Op.intArith, hc]
theorem Y_sub {x y : Operand} {k : IntKind} {a b c : Int} {t t' : TypeId} (hx : ev s x = some (.int k a)) (hy : ev s y = some (.int k b)) (hc : k.wrap (a - b) = c) : Yl P n s L ⟨d, .binOp .sub t x y t', ty, pos, af, none⟩ (.int k c) :=
  fun _ w ha _ => by simp [execOp, ha.ev hx, ha.ev hy, guardInt, binOp, Op.intArith, hc]
theorem Y_mul {x y : Operand} {k : IntKind} {a b c : Int} {t t' : TypeId} (hx : ev s x = some (.int k a)) (hy : ev s y = some (.int k b)) (hc : k.wrap (a * b) = c) : Yl P n s L ⟨d, .binOp .mul t x y t', ty, pos, af, none⟩ (.int k c) :=
  fun _ w ha _ => by simp [execOp, ha.ev hx, ha.ev hy, guardInt, binOp, Op.intArith, hc]
theorem Y_eql {x y : Operand} {k : IntKind} {a b : Int} {t t' : TypeId} (hx : ev s x = some (.int k a)) (hy : ev s y = some (.int k b)) : Yl P n s L ⟨d, .binOp .eql t x y t', ty, pos, af, none⟩ (.bool (decide (a = b))) :=
  fun _ w ha _ => by simp [execOp, ha.ev hx, ha.ev hy, guardInt, binOp, Op.intCmp]; rfl
theorem Y_neq {x y : Operand} {k : IntKind} {a b : Int} {t t' : TypeId} (hx : ev s x = some (.int k a)) (hy : ev s y = some (.int k b)) : Yl P n s L ⟨d, .binOp .neq t x y t', ty, pos, af, none⟩ (.bool (decide (a ≠ b))) :=
  fun _ w ha _ => by simp [execOp, ha.ev hx, ha.ev hy, guardInt, binOp, Op.intCmp]; rfl
theorem Y_lss {x y : Operand} {k : IntKind} {a b : Int} {t t' : TypeId} (hx : ev s x = some (.int k a)) (hy : ev s y = some (.int k b)) : Yl P n s L ⟨d, .binOp .lss t x y t', ty, pos, af, none⟩ (.bool (decide (a < b))) :=
  fun _ w ha _ => by simp [execOp, ha.ev hx, ha.ev hy, guardInt, binOp, Op.intCmp]
theorem Y_leq {x y : Operand} {k : IntKind} {a b : Int} {t t' : TypeId} (hx : ev s x = some (.int k a)) (hy : ev s y = some (.int k b)) : Yl P n s L ⟨d, .binOp .leq t x y t', ty, pos, af, none⟩ (.bool (decide (a ≤ b))) :=
  fun _ w ha _ => by simp [execOp, ha.ev hx, ha.ev hy, guardInt, binOp, Op.intCmp]
theorem Y_gtr {x y : Operand} {k : IntKind} {a b : Int} {t t' : TypeId} (hx : ev s x = some (.int k a)) (hy : ev s y = some (.int k b)) : Yl P n s L ⟨d, .binOp .gtr t x y t', ty, pos, af, none⟩ (.bool (decide (b < a))) :=
  fun _ w ha _ => by simp [execOp, ha.ev hx, ha.ev hy, guardInt, binOp, Op.intCmp]
theorem Y_geq {x y : Operand} {k : IntKind} {a b : Int} {t t' : TypeId} (hx : ev s x = some (.int k a)) (hy : ev s y = some (.int k b)) : Yl P n s L ⟨d, .binOp .geq t x y t', ty, pos, af, none⟩ (.bool (decide (b ≤ a))) :=
  fun _ w ha _ => by simp [execOp, ha.ev hx, ha.ev hy, guardInt, binOp, Op.intCmp]

theorem Y_nilCheck {x : Operand} {p : Addr} (hx : ev s x = some (.pointer (some p))) : Yl P n s L ⟨d, .nilCheck x, ty, pos, af, none⟩ (.pointer (some p)) :=
  fun _ w ha _ => by simp [execOp, ha.ev hx]
theorem Y_extract {x : Operand} {vs : Array Value} {i : Nat} {v : Value} (hx : ev s x = some (.tuple vs)) (hv : vs[i]? = some v) : Yl P n s L ⟨d, .extract x i, ty, pos, af, none⟩ v :=
  fun _ w ha _ => by simp [execOp, ha.ev hx, Instr.extract, hv]

end ops
end
theorem den_panic {P : Program} {fn : Func} {R : Ending → World → Prop} (dst : Option Tmp) (v : Value) (c : List PanicEntry) (a : Act) (w : World) : ∀ ks : List Fr, den P ks (bodyPost P fn R) (.panic c) (Act.put a dst v) w → den P ks (bodyPost P fn R) (.panic c) a w
  | [], h => by cases dst <;> exact h
  | .sq y :: ks, h => den_panic dst v c a w ks h
  | .bk id :: ks, h => den_panic dst v c a w ks h
  | .qq N :: ks, h => den_panic dst v c a w ks h
attribute [irreducible] den lpN mdN Yl Ef
end Go.Proofs.Ytbeolkjegipldaa
