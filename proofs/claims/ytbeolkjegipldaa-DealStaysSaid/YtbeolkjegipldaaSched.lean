/- A region that draws its order, by one schedule: what only reads or computes is taken first, what writes or makes memory stands in one forced order. -/
import Derived.OrdersHeld
import Derived.Deep.Quiet
import Derived.Laws.World
namespace Go.Proofs.Ytbeolkjegipldaa
open Go

section
variable {α : Type} {P : Program} {ops : Array Oper} {Q : Exit → Act → World → Prop} {md : Region.Mode} {S : World → Prop} {brk : Nat → Bool}

/-- j waits for k, through so many edges. -/
def waitsT (md : Region.Mode) (ops : Array Oper) : Nat → Nat → Nat → Bool
  | 0, _, _ => false
  | n + 1, j, k => match ops[j]? with
    | none => false
    | some o => o.after.any fun e => Region.binds md e && (e.on == k || waitsT md ops n e.on k)

/-- Whoever has come up, all for which it waits have. -/
def ClosedL (md : Region.Mode) (ops : Array Oper) (listed : Array Bool) : Prop :=
  ∀ j oj, ops[j]? = some oj → listed.getD j true = true → ∀ e ∈ oj.after, Region.binds md e = true → listed.getD e.on false = true

theorem waits_listed {listed : Array Bool} (hc : ClosedL md ops listed) : ∀ (n j k : Nat) (oj : Oper), ops[j]? = some oj →
    (∀ e ∈ oj.after, Region.binds md e = true → listed.getD e.on false = true) → waitsT md ops n j k = true → listed.getD k false = true
  | 0, _, _, _, _, _, h => by simp [waitsT] at h
  | n + 1, j, k, oj, hj, hall, h => by
    simp only [waitsT, hj] at h
    obtain ⟨e, he, hb⟩ := Array.any_eq_true'.1 h
    simp only [Bool.and_eq_true, Bool.or_eq_true, beq_iff_eq] at hb
    obtain ⟨hb, hk⟩ := hb
    have h1 := hall e he hb
    rcases hk with hk | hk
    · rw [← hk]; exact h1
    · cases ho : ops[e.on]? with
      | none =>
        cases n with
        | zero => simp [waitsT] at hk
        | succ n => simp [waitsT, ho] at hk
      | some oe =>
        have h2 : listed.getD e.on true = true := by
          have h1' := h1
          cases hl : listed[e.on]? with
          | none => simp [hl] at h1'
          | some b => simp [hl] at h1' ⊢; exact h1'
        exact waits_listed hc n e.on k oe ho (hc e.on oe ho h2) hk

theorem ClosedL.set {listed : Array Bool} (hc : ClosedL md ops listed) {i : Nat} (hi : i ∈ Region.ready md ops listed) : ClosedL md ops (listed.setIfInBounds i true) := by
  intro j oj hj hl e he hb
  by_cases hij : i = j
  · subst hij
    obtain ⟨_, o, ho, hall⟩ := mem_ready.1 hi
    rw [hj] at ho
    obtain rfl := Option.some.inj ho
    exact getD_set_true (hall e he hb)
  · rw [getD_set_ne true hij] at hl
    exact getD_set_true (hc j oj hj hl e he hb)

/-- Whatever order is picked from here on; each that may not break S keeps it. -/
def wpAnyG (P : Program) (md : Region.Mode) (ops : Array Oper) (Q : Exit → Act → World → Prop) (S : World → Prop) (brk : Nat → Bool) : Nat → Array Bool → Act → World → Prop
  | 0, listed, a, w => Region.ready md ops listed = [] ∧ Q .normal a w
  | fuel + 1, listed, a, w =>
    (Region.ready md ops listed = [] → Q .normal a w) ∧
    ∀ i ∈ Region.ready md ops listed, wpOp P ops Q i (fun a' w' => (brk i = false → S w → S w') ∧ wpAnyG P md ops Q S brk fuel (listed.setIfInBounds i true) a' w') a w

theorem wpAny_of_G : ∀ (fuel : Nat) (listed : Array Bool) (a : Act) (w : World), wpAnyG P md ops Q S brk fuel listed a w → wpAny P md ops Q fuel listed a w
  | 0, _, _, _, h => h
  | fuel + 1, _, _, _, h => ⟨h.1, fun i hi => wpOp_mono (fun a' w' h' => wpAny_of_G fuel _ a' w' h'.2) (h.2 i hi)⟩

/-- Taken first: in each world of the class C it yields v; C is every world, or it is S, and whoever may come before keeps S. -/
theorem wpAnyG_first {C : World → Prop} {N i : Nat} {oi : Oper} {v : Value} (hi : ops[i]? = some oi) (hsel : ∀ (j : Nat) (o : Oper) cs b, ops[j]? = some o → o.op ≠ .select cs b)
    (hQ : ∀ c a w, Q (.panic c) (a.put oi.dst v) w → Q (.panic c) a w) :
    ∀ (fuel : Nat) (listed : Array Bool) (a : Act) (w : World),
      ((∀ w, C w) ∨ (C = S ∧ ∀ j, j ≠ i → listed.getD j true = false → waitsT md ops N j i = false → brk j = false)) →
      ClosedL md ops listed →
      (∀ j oj, ops[j]? = some oj → j ≠ i → listed.getD j true = false → (∀ e ∈ oj.after, Region.binds md e = true → e.on ≠ i) → oi.apart ops oj = true) →
      i ∈ Region.ready md ops listed → YieldsIf P ops C oi v a → C w →
      wpAnyG P md ops Q S brk fuel (listed.setIfInBounds i true) (a.put oi.dst v) w → wpAnyG P md ops Q S brk (fuel + 1) listed a w := by
  intro fuel
  induction fuel with
  | zero =>
    intro listed a w _ _ _ hr hy hC H
    refine ⟨fun h => (by rw [h] at hr; cases hr), fun j hj => ?_⟩
    by_cases hji : j = i
    · subst hji; exact hy.wpOp hi hC ⟨fun _ h => h, H⟩
    · have := ready_mono hj hji
      rw [H.1] at this
      cases this
  | succ fuel ih =>
    intro listed a w hcl hclo hfree hr hy hC H
    refine ⟨fun h => (by rw [h] at hr; cases hr), fun j hj => ?_⟩
    by_cases hji : j = i
    · subst hji; exact hy.wpOp hi hC ⟨fun _ h => h, H⟩
    · have h1 := H.2 j (ready_mono hj hji)
      obtain ⟨hjun, oj, hoj, hall⟩ := mem_ready.1 hj
      have hi0 := (mem_ready.1 hr).1
      have hi0' : listed.getD i false = false := by
        cases hl : listed[i]? with
        | none => simp [hl]
        | some b => simp [hl] at hi0 ⊢; exact hi0
      have hnot : ∀ e ∈ oj.after, Region.binds md e = true → e.on ≠ i := fun e he hb heq => by
        have h1 := hall e he hb
        rw [heq, hi0'] at h1
        cases h1
      have hw : waitsT md ops N j i = false := by
        cases hh : waitsT md ops N j i with
        | false => rfl
        | true =>
          have := waits_listed hclo N j i oj hoj hall hh
          rw [hi0'] at this; cases this
      have h2 := wpOp_putIf hoj (hfree j oj hoj hji hjun hnot) (fun cs b => hsel i oi cs b hi) (fun cs b => hsel j oj cs b hoj) hQ hy h1
      have hfree' : ∀ k ok, ops[k]? = some ok → k ≠ i → (listed.setIfInBounds j true).getD k true = false →
          (∀ e ∈ ok.after, Region.binds md e = true → e.on ≠ i) → oi.apart ops ok = true := fun k ok hk hki hun hno => by
        refine hfree k ok hk hki ?_ hno
        by_cases hjk : j = k
        · subst hjk; exact hjun
        · rw [getD_set_ne true hjk] at hun; exact hun
      have hcl' : (∀ w, C w) ∨ (C = S ∧ ∀ k, k ≠ i → (listed.setIfInBounds j true).getD k true = false → waitsT md ops N k i = false → brk k = false) := by
        refine hcl.imp id fun ⟨e, hk⟩ => ⟨e, fun k hki hun hwk => hk k hki ?_ hwk⟩
        by_cases hjk : j = k
        · subst hjk; exact hjun
        · rw [getD_set_ne true hjk] at hun; exact hun
      refine wpOp_mono (fun a' w' h3 => ⟨h3.2.1, ih (listed.setIfInBounds j true) a' w' hcl' (hclo.set hj) hfree' (ready_mono hr (Ne.symm hji)) h3.1 ?_ ?_⟩) h2
      · rcases hcl with hcl | ⟨e, hk⟩
        · exact hcl w'
        · rw [e] at hC ⊢; exact h3.2.1 (hk j hji hjun hw) hC
      · rw [Array.setIfInBounds_comm _ _ hji]
        exact h3.2.2

/-- What may be taken: it computes, or reads. -/
def takeable (o : Oper) : Bool :=
  match o.op with
  | .move _ | .assign _ | .pick .. | .build .. | .load .. | .nilCheck _ | .binOp .. | .unOp .. | .convert .. | .fieldAddr .. | .field .. | .indexAddr .. | .index .. | .lookup .. | .extract .. | .slice .. => true
  | .call { callee := .builtin .len, .. } | .call { callee := .builtin .min, .. } | .call { callee := .builtin .max, .. } => true
  | _ => false

theorem run_value_of {s : Sem Value} {w w' : World} {x : Next} (h : (do pure (Next.value (← s)) : Sem Next).run P w = .ok x w') : ∃ v, x = .value v := by
  simp only [Sem.run_bind] at h
  cases hs : s.run P w with
  | ok v w1 => rw [hs] at h; simp [Result.andThen] at h; exact ⟨v, h.1.symm⟩
  | halt y w1 => rw [hs] at h; simp [Result.andThen] at h

theorem andThen_value {r : Result α} {f : α → Value} {w' : World} {x : Next} (h : (r.andThen fun a w1 => Result.ok (Next.value (f a)) w1) = .ok x w') : ∃ v, x = .value v := by
  cases r with
  | ok v w1 => simp [Result.andThen] at h; exact ⟨_, h.1.symm⟩
  | halt y w1 => simp [Result.andThen] at h

theorem nilCheck_value {o : Oper} {y : Operand} (ho : o.op = .nilCheck y) {ρ : Operand → Value} {w w' : World} {x : Next} (h : (execOp ρ o).run P w = .ok x w') : ∃ v, x = .value v := by
  simp only [execOp, ho] at h
  split at h
  · simp [runtimePanic] at h
  · simp [runtimePanic] at h
  · simp [runtimePanic] at h
  · split at h
    · simp [runtimePanic] at h
    · simp only [Sem.run_bind] at h
      cases h1 : Sem.run P program w with
      | halt y w1 => rw [h1] at h; simp [Result.andThen] at h
      | ok pr w1 =>
        rw [h1] at h
        simp only [Result.andThen_ok] at h
        generalize (Sem.run P (nilAhead _ _ _ _) w1) = rr at h
        cases rr with
        | halt y w2 => simp [Result.andThen] at h
        | ok b w2 =>
          simp only [Result.andThen_ok] at h
          split at h
          · simp [unsupported] at h
          · simp at h; exact ⟨_, h.1.symm⟩
    · simp at h; exact ⟨_, h.1.symm⟩
  · simp at h; exact ⟨_, h.1.symm⟩

theorem takeable_value {o : Oper} (ht : takeable o = true) {ρ : Operand → Value} {w w' : World} {x : Next} (h : (execOp ρ o).run P w = .ok x w') : ∃ v, x = .value v := by
  obtain ⟨dst, op, type, pos, after, guard⟩ := o
  cases op <;> simp only [takeable, Bool.false_eq_true] at ht
  case nilCheck y => exact nilCheck_value rfl h
  case pick c a b =>
    simp only [execOp, Sem.run_bind, Sem.run_pure] at h
    exact andThen_value h
  case call c =>
    obtain ⟨callee, args, argTypes⟩ := c
    cases callee with
    | value f => simp at ht
    | invoke r m => simp at ht
    | builtin b =>
      cases b <;> simp at ht
      all_goals
        simp only [execOp, resolve, Sem.run_bind, Sem.run_pure, Result.andThen_ok, invoke, builtin] at h
        exact andThen_value h
  all_goals first
    | (simp only [execOp] at h; exact run_value_of h)
    | (simp [execOp] at h; exact ⟨_, h.1.symm⟩)

theorem YieldsIf.of_quiet {C : World → Prop} {o : Oper} {a : Act} (ht : takeable o = true) {K : Act → Prop}
    (h : if Region.wanted o (yielded ops a.tmps) then o.quiet P a C K else K (a.put o.dst undef)) : ∃ v, YieldsIf P ops C o v a ∧ K (a.put o.dst v) := by
  by_cases hw : Region.wanted o (yielded ops a.tmps) = true
  · rw [if_pos hw] at h
    obtain ⟨v, h1, h2⟩ := h
    refine ⟨v, .inl ⟨hw, fun w hC => ?_⟩, h2⟩
    have h3 := h1 w hC
    unfold Oper.quietAt at h3
    cases hr : (execOp a.eval o).run P w with
    | halt x w' => rw [hr] at h3; simp [Oper.quietUpon] at h3
    | ok x w' =>
      obtain ⟨u, rfl⟩ := takeable_value ht hr
      rw [hr] at h3
      simp only [Oper.quietUpon] at h3
      rw [h3.1, h3.2]
  · rw [if_neg hw] at h
    exact ⟨undef, .inr ⟨by simpa using hw, rfl⟩, h⟩

/-- One schedule: (i, 0): taken, in whatever world; (i, 1): taken, in the worlds that meet S; else the only one that may come up. -/
def wpS (P : Program) (ops : Array Oper) (Q : Exit → Act → World → Prop) (S : World → Prop) (brk : Nat → Bool) : List (Nat × Nat) → Act → World → Prop
  | [], a, w => Q .normal a w
  | (i, 0) :: r, a, w => ∃ o v, ops[i]? = some o ∧ YieldsIf P ops (fun _ => True) o v a ∧ wpS P ops Q S brk r (a.put o.dst v) w
  | (i, 1) :: r, a, w => S w ∧ ∃ o v, ops[i]? = some o ∧ YieldsIf P ops S o v a ∧ wpS P ops Q S brk r (a.put o.dst v) w
  | (i, _ + 2) :: r, a, w => wpOp P ops Q i (fun a' w' => (brk i = false → S w → S w') ∧ wpS P ops Q S brk r a' w') a w

/-- May the schedule stand for all orders? -/
def schedB (md : Region.Mode) (ops : Array Oper) (brk : Nat → Bool) (N : Nat) : List (Nat × Nat) → Array Bool → Bool
  | [], listed => (Region.ready md ops listed).isEmpty
  | (i, k) :: r, listed => (Region.ready md ops listed).contains i &&
      (match k with
        | 0 => Region.free md ops listed i
        | 1 => Region.free md ops listed i && (List.range ops.size).all (fun j => j == i || listed.getD j true || waitsT md ops N j i || !brk j)
        | _ => Region.ready md ops listed == [i]) &&
      schedB md ops brk N r (listed.setIfInBounds i true)

theorem wpAnyG_of_sched {N : Nat} (hs : Region.noSelect ops = true) (hQ : ∀ dst v c a w, Q (.panic c) (Act.put a dst v) w → Q (.panic c) a w) (hbig : ∀ j, ops.size ≤ j → brk j = false) :
    ∀ (l : List (Nat × Nat)) (listed : Array Bool) (a : Act) (w : World), ClosedL md ops listed → schedB md ops brk N l listed = true → wpS P ops Q S brk l a w →
      wpAnyG P md ops Q S brk l.length listed a w
  | [], _, _, _, _, hB, h => ⟨by simpa [schedB] using hB, h⟩
  | (i, 0) :: r, listed, a, w, hc, hB, h => by
    simp only [schedB, Bool.and_eq_true] at hB
    obtain ⟨⟨hr, hf⟩, hB'⟩ := hB
    obtain ⟨o, v, ho, hy, hK⟩ := h
    have hr' : i ∈ Region.ready md ops listed := by simpa using hr
    exact wpAnyG_first (N := N) ho (Region.noSelect_spec hs) (fun c a w => hQ _ _ c a w) r.length listed a w (.inl fun _ => trivial) hc (Region.free_spec ho hf) hr' hy trivial
      (wpAnyG_of_sched hs hQ hbig r _ _ _ (hc.set hr') hB' hK)
  | (i, 1) :: r, listed, a, w, hc, hB, h => by
    simp only [schedB, Bool.and_eq_true] at hB
    obtain ⟨⟨hr, hf, hk⟩, hB'⟩ := hB
    obtain ⟨hS, o, v, ho, hy, hK⟩ := h
    have hr' : i ∈ Region.ready md ops listed := by simpa using hr
    refine wpAnyG_first (N := N) ho (Region.noSelect_spec hs) (fun c a w => hQ _ _ c a w) r.length listed a w (.inr ⟨rfl, fun j hji hun hw => ?_⟩) hc (Region.free_spec ho hf) hr' hy hS
      (wpAnyG_of_sched hs hQ hbig r _ _ _ (hc.set hr') hB' hK)
    rcases Nat.lt_or_ge j ops.size with hj | hj
    · simp only [List.all_eq_true, List.mem_range] at hk
      have := hk j hj
      simp only [Bool.or_eq_true, beq_iff_eq, hji, false_or, hun, hw, Bool.false_eq_true, Bool.not_eq_true'] at this
      exact this
    · exact hbig j hj
  | (i, k + 2) :: r, listed, a, w, hc, hB, h => by
    simp only [schedB, Bool.and_eq_true, beq_iff_eq] at hB
    obtain ⟨⟨_, hr⟩, hB'⟩ := hB
    have hr' : i ∈ Region.ready md ops listed := by rw [hr]; simp
    refine ⟨fun h0 => (by rw [h0] at hr; cases hr), fun j hj => ?_⟩
    rw [hr] at hj
    obtain rfl := List.mem_singleton.1 hj
    exact wpOp_mono (fun a' w' h' => ⟨h'.1, wpAnyG_of_sched hs hQ hbig r _ a' w' (hc.set hr') hB' h'.2⟩) h

theorem closed_start (n : Nat) (hn : ops.size ≤ n) : ClosedL md ops (Array.replicate n false) := by
  intro j oj hj hl
  have hlt : j < ops.size := (Array.getElem?_eq_some_iff.1 hj).1
  simp [show j < n by omega] at hl

/-- The region, by one schedule; brks: the places that may break S. -/
theorem wp_region_sched {id : Nat} {a : Act} {w : World} {l : List Oper} (S : World → Prop) (brks : List Nat) (steps : List (Nat × Nat)) (hm : P.follows .mixedOrders = true)
    (hB : (Region.noSelect l.toArray && (brks.all fun j => decide (j < l.toArray.size)) && steps.length == l.toArray.size && schedB .any l.toArray (fun j => brks.contains j) l.toArray.size steps (Array.replicate l.toArray.size false)) = true)
    (hQ : ∀ dst v c a w, Q (.panic c) (Act.put a dst v) w → Q (.panic c) a w)
    (h : wpS P l.toArray Q S (fun j => brks.contains j) steps a w.drew) : (Code.region id l.toArray true).wp P Q a w := by
  simp only [Bool.and_eq_true, beq_iff_eq] at hB
  obtain ⟨⟨⟨hs, hb⟩, hl⟩, hB⟩ := hB
  refine wp_region_any hm (wpAny_of_G (S := S) (brk := fun j => brks.contains j) _ _ _ _ ?_)
  rw [← hl]
  refine wpAnyG_of_sched (N := l.toArray.size) hs hQ (fun j hj => ?_) steps _ a _ (closed_start _ (by omega)) (by rw [hl]; exact hB) h
  cases hc : brks.contains j with
  | false => rfl
  | true =>
    have := (List.all_eq_true.1 hb) j (by simpa using hc)
    simp at this hj
    omega

/-- A world that meets S. (A structure of its own: simp lays it not apart.) -/
structure Met (S : World → Prop) where
  w : World
  ok : S w

/-- Some are taken, in the worlds that meet S: by the quiet walk. -/
theorem wpS_quiet {a : Act} {w : World} (is : List Nat) {r : List (Nat × Nat)} (hS : S w) (lo : List Oper) (hlo : is.map (fun i => ops[i]?) = lo.map some) (ht : lo.all takeable = true)
    (h : wpQuiet P ops (fun w' => ∃ x : Met S, w' = x.w) (fun a' => wpS P ops Q S brk r a' w) lo a) : wpS P ops Q S brk (is.map (fun i => (i, 1)) ++ r) a w := by
  induction is generalizing lo a with
  | nil =>
    cases lo with
    | nil => exact h
    | cons o lo => simp at hlo
  | cons i is ih =>
    cases lo with
    | nil => simp at hlo
    | cons o lo =>
      simp only [List.map_cons, List.cons.injEq] at hlo
      simp only [List.all_cons, Bool.and_eq_true] at ht
      simp only [wpQuiet] at h
      have hC : (fun w' => ∃ x : Met S, w' = x.w) = S := by
        funext w'
        exact propext ⟨fun ⟨x, hx⟩ => hx ▸ x.ok, fun hw => ⟨⟨w', hw⟩, rfl⟩⟩
      obtain ⟨v, hy, hK⟩ := YieldsIf.of_quiet ht.1 h
      rw [hC] at hy
      exact ⟨hS, o, v, hlo.1, hy, ih lo hlo.2 ht.2 hK⟩

/-- .. in whatever world. -/
theorem wpS_quiet0 {a : Act} {w : World} (is : List Nat) {r : List (Nat × Nat)} (lo : List Oper) (hlo : is.map (fun i => ops[i]?) = lo.map some) (ht : lo.all takeable = true)
    (h : wpQuiet P ops (fun w' => ∃ x : World, w' = x) (fun a' => wpS P ops Q S brk r a' w) lo a) : wpS P ops Q S brk (is.map (fun i => (i, 0)) ++ r) a w := by
  induction is generalizing lo a with
  | nil =>
    cases lo with
    | nil => exact h
    | cons o lo => simp at hlo
  | cons i is ih =>
    cases lo with
    | nil => simp at hlo
    | cons o lo =>
      simp only [List.map_cons, List.cons.injEq] at hlo
      simp only [List.all_cons, Bool.and_eq_true] at ht
      simp only [wpQuiet] at h
      have hC : (fun w' => ∃ x : World, w' = x) = fun _ => True := by
        funext w'
        exact propext ⟨fun _ => trivial, fun _ => ⟨w', rfl⟩⟩
      obtain ⟨v, hy, hK⟩ := YieldsIf.of_quiet ht.1 h
      rw [hC] at hy
      exact ⟨o, v, hlo.1, hy, ih lo hlo.2 ht.2 hK⟩

/-- The one that must come up. -/
theorem wpS_do {a : Act} {w : World} {i : Nat} {r : List (Nat × Nat)} {o : Oper} (ho : ops[i]? = some o)
    (h : ∀ K : Act → World → Prop, (∀ a' w', (brk i = false → S w → S w') → wpS P ops Q S brk r a' w' → K a' w') → if Region.wanted o (yielded ops a.tmps) = true then o.wp P a w K Q else K (a.put o.dst undef) w) :
    wpS P ops Q S brk ((i, 2) :: r) a w := by
  have h1 := h (fun a' w' => (brk i = false → S w → S w') ∧ wpS P ops Q S brk r a' w') (fun a' w' h1 h2 => ⟨h1, h2⟩)
  show wpOp P ops Q i _ a w
  unfold wpOp
  simp only [ho]
  by_cases hw : Region.wanted o (yielded ops a.tmps) = true
  · rw [if_pos hw] at h1 ⊢; exact .inl h1
  · rw [if_neg hw] at h1 ⊢; exact h1

theorem wpS_nil {a : Act} {w : World} (h : Q .normal a w) : wpS P ops Q S brk [] a w := h

theorem hlo_of {ops : Array Oper} {is : List Nat} (h : is.all (fun i => decide (i < ops.size)) = true) : is.map (fun i => ops[i]?) = (is.filterMap (fun i => ops[i]?)).map some := by
  induction is with
  | nil => rfl
  | cons i is ih =>
    simp only [List.all_cons, Bool.and_eq_true, decide_eq_true_eq] at h
    have := ih h.2
    simp [Array.getElem?_eq_getElem h.1, this]

theorem wpS_take {a : Act} {w : World} (is : List Nat) {r : List (Nat × Nat)} (hS : S w) (hn : is.all (fun i => decide (i < ops.size)) = true) (ht : (is.filterMap (fun i => ops[i]?)).all takeable = true)
    (h : wpQuiet P ops (fun w' => ∃ x : Met S, w' = x.w) (fun a' => wpS P ops Q S brk r a' w) (is.filterMap (fun i => ops[i]?)) a) : wpS P ops Q S brk (is.map (fun i => (i, 1)) ++ r) a w :=
  wpS_quiet is hS _ (hlo_of hn) ht h


end
end Go.Proofs.Ytbeolkjegipldaa
