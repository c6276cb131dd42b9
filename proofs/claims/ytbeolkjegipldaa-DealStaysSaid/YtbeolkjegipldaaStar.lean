/- Assertions over memory, each with the blocks that it takes; lists of them, apart from one another. -/
import Derived.Test.YtbeolkjegipldaaBase
namespace Go.Proofs.Ytbeolkjegipldaa
open Go.RowKit

/-- The blocks of F are as they were; new blocks may be there. -/
structure Kp (F : Nat → Prop) (w w' : World) : Prop where
  os : w'.os = w.os
  tape : w'.tape = w.tape
  output : w'.output = w.output
  size : w.heap.size ≤ w'.heap.size
  block : ∀ k, F k → w'.heap[k]? = w.heap[k]?

theorem Kp.refl (F : Nat → Prop) (w : World) : Kp F w w := ⟨rfl, rfl, rfl, Nat.le_refl _, fun _ _ => rfl⟩
theorem Kp.trans {F : Nat → Prop} {a b c : World} (h : Kp F a b) (k : Kp F b c) : Kp F a c :=
  ⟨k.os.trans h.os, k.tape.trans h.tape, k.output.trans h.output, Nat.le_trans h.size k.size, fun i hi => (k.block i hi).trans (h.block i hi)⟩
theorem Kp.mono {F G : Nat → Prop} {w w' : World} (h : Kp F w w') (hs : ∀ k, G k → F k) : Kp G w w' :=
  ⟨h.os, h.tape, h.output, h.size, fun k hk => h.block k (hs k hk)⟩
theorem Kp.of_keeps {F G : Nat → Prop} {w w' : World} (h : Keeps F w w') (hs : ∀ k, G k → k < w.heap.size ∧ ¬ F k) : Kp G w w' :=
  ⟨h.os, h.tape, h.output, h.size, fun k hk => h.block k (hs k hk).1 (hs k hk).2⟩

/-- An assertion: what holds of the memory, and which blocks it takes. -/
structure As where
  at_ : (Nat → Prop) → World → Prop
  kp : ∀ {F w w'}, at_ F w → Kp F w w' → at_ F w'
  lt : ∀ {F w}, at_ F w → ∀ k, F k → k < w.heap.size

theorem As.eq {A B : As} (h : A.at_ = B.at_) : A = B := by
  cases A; cases B; cases h; rfl

def As.emp : As := ⟨fun F _ => ∀ k, ¬ F k, fun h _ => h, fun h k hk => (h k hk).elim⟩

def As.and (A B : As) : As :=
  ⟨fun F w => ∃ F1 F2, A.at_ F1 w ∧ B.at_ F2 w ∧ (∀ k, F1 k → ¬ F2 k) ∧ (∀ k, F k ↔ F1 k ∨ F2 k),
    fun ⟨F1, F2, h1, h2, hd, hf⟩ hk => ⟨F1, F2, A.kp h1 (hk.mono fun k h => (hf k).2 (.inl h)), B.kp h2 (hk.mono fun k h => (hf k).2 (.inr h)), hd, hf⟩,
    fun ⟨F1, F2, h1, h2, hd, hf⟩ k hk => ((hf k).1 hk).elim (A.lt h1 k) (B.lt h2 k)⟩

def As.all : List As → As
  | [] => As.emp
  | A :: L => A.and (As.all L)

theorem As.and_comm (A B : As) : A.and B = B.and A := by
  refine As.eq (funext fun F => funext fun w => propext ?_)
  constructor <;> rintro ⟨F1, F2, h1, h2, hd, hf⟩ <;> exact ⟨F2, F1, h2, h1, fun k a b => hd k b a, fun k => (hf k).trans Or.comm⟩

theorem As.and_assoc (A B C : As) : (A.and B).and C = A.and (B.and C) := by
  refine As.eq (funext fun F => funext fun w => propext ?_)
  constructor
  · rintro ⟨F1, F2, ⟨G1, G2, g1, g2, gd, gf⟩, h2, hd, hf⟩
    refine ⟨G1, fun k => G2 k ∨ F2 k, g1, ⟨G2, F2, g2, h2, fun k a b => hd k ((gf k).2 (.inr a)) b, fun k => Iff.rfl⟩, ?_, ?_⟩
    · rintro k a (b | b)
      · exact gd k a b
      · exact hd k ((gf k).2 (.inl a)) b
    · intro k; rw [hf k, gf k]; exact or_assoc
  · rintro ⟨F1, F2, h1, ⟨G1, G2, g1, g2, gd, gf⟩, hd, hf⟩
    refine ⟨fun k => F1 k ∨ G1 k, G2, ⟨F1, G1, h1, g1, fun k a b => hd k a ((gf k).2 (.inl b)), fun k => Iff.rfl⟩, g2, ?_, ?_⟩
    · rintro k (a | a) b
      · exact hd k a ((gf k).2 (.inr b))
      · exact gd k a b
    · intro k; rw [hf k, gf k]; exact or_assoc.symm

theorem As.and_emp (A : As) : A.and As.emp = A := by
  refine As.eq (funext fun F => funext fun w => propext ?_)
  constructor
  · rintro ⟨F1, F2, h1, h2, hd, hf⟩
    have e : F = F1 := funext fun k => propext ((hf k).trans ⟨fun h => h.elim id fun h => (h2 k h).elim, .inl⟩)
    rw [e]; exact h1
  · intro h
    exact ⟨F, fun _ => False, h, fun _ h => h, fun _ _ h => h, fun k => (or_false _).to_iff.symm⟩

theorem As.emp_and (A : As) : As.emp.and A = A := by rw [As.and_comm, As.and_emp]

theorem As.all_append (L M : List As) : As.all (L ++ M) = (As.all L).and (As.all M) := by
  induction L with
  | nil => exact (As.emp_and _).symm
  | cons A L ih => show A.and (As.all (L ++ M)) = _; rw [ih]; exact (As.and_assoc _ _ _).symm

theorem As.all_perm {L M : List As} (h : L.Perm M) : As.all L = As.all M := by
  induction h with
  | nil => rfl
  | cons A _ ih => exact congrArg (As.and A) ih
  | swap A B l => show B.and (A.and (As.all l)) = A.and (B.and (As.all l)); rw [← As.and_assoc, ← As.and_assoc, As.and_comm B A]
  | trans _ _ ih1 ih2 => exact ih1.trans ih2

/-- Memory holds all of these, apart from one another. -/
def St (L : List As) (w : World) : Prop := ∃ F, (As.all L).at_ F w

theorem St.perm {L M : List As} {w : World} (h : St L w) (hp : L.Perm M) : St M w := by unfold St; rw [← As.all_perm hp]; exact h

/-- The one at place i comes first. -/
theorem perm_pick {α : Type} : ∀ (L : List α) (i : Nat) {x : α}, L[i]? = some x → L.Perm (x :: L.eraseIdx i)
  | [], i, x, h => by simp at h
  | a :: L, 0, x, h => by obtain rfl : a = x := by simpa using h
                          exact List.Perm.refl _
  | a :: L, i + 1, x, h => ((perm_pick L i (by simpa using h)).cons a).trans (List.Perm.swap x a _)
theorem St.pick {L : List As} {w : World} (h : St L w) (i : Nat) {A : As} (hi : L[i]? = some A) : St (A :: L.eraseIdx i) w := h.perm (perm_pick L i hi)
theorem St.up1 {A B : As} {L : List As} {w : World} (h : St (A :: B :: L) w) : St (B :: A :: L) w := h.perm (List.Perm.swap B A L)
theorem St.up2 {A B C : As} {L : List As} {w : World} (h : St (A :: B :: C :: L) w) : St (C :: A :: B :: L) w := h.pick 2 rfl
theorem St.up3 {A B C D : As} {L : List As} {w : World} (h : St (A :: B :: C :: D :: L) w) : St (D :: A :: B :: C :: L) w := h.pick 3 rfl
theorem St.up4 {A B C D E : As} {L : List As} {w : World} (h : St (A :: B :: C :: D :: E :: L) w) : St (E :: A :: B :: C :: D :: L) w := h.pick 4 rfl
theorem St.up5 {A B C D E F : As} {L : List As} {w : World} (h : St (A :: B :: C :: D :: E :: F :: L) w) : St (F :: A :: B :: C :: D :: E :: L) w := h.pick 5 rfl
theorem St.down1 {A B : As} {L : List As} {w : World} (h : St (A :: B :: L) w) : St (B :: A :: L) w := h.up1
theorem St.down2 {A B C : As} {L : List As} {w : World} (h : St (C :: A :: B :: L) w) : St (A :: B :: C :: L) w := h.perm ((perm_pick [A, B, C] 2 rfl).symm.append_right L)
theorem St.down3 {A B C D : As} {L : List As} {w : World} (h : St (D :: A :: B :: C :: L) w) : St (A :: B :: C :: D :: L) w := h.perm ((perm_pick [A, B, C, D] 3 rfl).symm.append_right L)
/-- Some come first, in the order named. -/
theorem St.packs {L M : List As} {w : World} (h : St (L ++ M) w) : St (L ++ [As.all M]) w := by
  unfold St at *
  rw [As.all_append] at *
  rw [show As.all [As.all M] = As.all M from As.and_emp _]; exact h
theorem St.unpacks {L M : List As} {w : World} (h : St (L ++ [As.all M]) w) : St (L ++ M) w := by
  unfold St at *
  rw [As.all_append] at *
  rw [show As.all [As.all M] = As.all M from As.and_emp _] at h; exact h
theorem St.pack {A : As} {M : List As} {w : World} (h : St (A :: M) w) : St [A, As.all M] w := St.packs (L := [A]) h
theorem St.unpack {A : As} {M : List As} {w : World} (h : St [A, As.all M] w) : St (A :: M) w := St.unpacks (L := [A]) h
theorem St.pack0 {M : List As} {w : World} (h : St M w) : St [As.all M] w := St.packs (L := []) h
theorem St.unpack0 {M : List As} {w : World} (h : St [As.all M] w) : St M w := St.unpacks (L := []) h
theorem St.pack2 {A B : As} {M : List As} {w : World} (h : St (A :: B :: M) w) : St [A, B, As.all M] w := St.packs (L := [A, B]) h
theorem St.unpack2 {A B : As} {M : List As} {w : World} (h : St [A, B, As.all M] w) : St (A :: B :: M) w := St.unpacks (L := [A, B]) h

theorem St.two {A R : As} {w : World} : St [A, R] w ↔ ∃ F G, A.at_ F w ∧ R.at_ G w ∧ ∀ k, F k → ¬ G k := by
  unfold St
  rw [show As.all [A, R] = A.and R from congrArg A.and (As.and_emp R)]
  constructor
  · rintro ⟨_, F, G, h1, h2, hd, _⟩; exact ⟨F, G, h1, h2, hd⟩
  · rintro ⟨F, G, h1, h2, hd⟩; exact ⟨_, F, G, h1, h2, hd, fun _ => Iff.rfl⟩

theorem St.cons {A : As} {L : List As} {w : World} : St (A :: L) w ↔ ∃ F G, A.at_ F w ∧ (As.all L).at_ G w ∧ ∀ k, F k → ¬ G k := by
  constructor
  · rintro ⟨_, F, G, h1, h2, hd, _⟩; exact ⟨F, G, h1, h2, hd⟩
  · rintro ⟨F, G, h1, h2, hd⟩; exact ⟨_, F, G, h1, h2, hd, fun _ => Iff.rfl⟩

/-- THE STEP: what turns A into B, and touches A's blocks and new ones alone, leaves the others. -/
theorem St.step {A B : As} {L : List As} {w w' : World} (h : St (A :: L) w) (hs : ∀ F, A.at_ F w → ∃ G, B.at_ G w' ∧ Keeps F w w' ∧ ∀ k, G k → F k ∨ w.heap.size ≤ k) : St (B :: L) w' := by
  obtain ⟨F, FL, h1, h2, hd⟩ := St.cons.1 h
  obtain ⟨G, hG, hk, hn⟩ := hs F h1
  refine St.cons.2 ⟨G, FL, hG, (As.all L).kp h2 (Kp.of_keeps hk fun k hL => ⟨(As.all L).lt h2 k hL, fun hF => hd k hF hL⟩), fun k hg hL => ?_⟩
  rcases hn k hg with hF | hs
  · exact hd k hF hL
  · have := (As.all L).lt h2 k hL; omega

/-- What comes first is opened; what is made of it may stand in its place. -/
theorem St.open {A : As} {L : List As} {w : World} (h : St (A :: L) w) :
    ∃ F, A.at_ F w ∧ ∀ {B : As} {w' : World} {G : Nat → Prop}, B.at_ G w' → Keeps F w w' → (∀ k, G k → F k ∨ w.heap.size ≤ k) → St (B :: L) w' := by
  obtain ⟨F, FL, h1, h2, hd⟩ := St.cons.1 h
  refine ⟨F, h1, fun {B w' G} hG hk hn => St.cons.2 ⟨G, FL, hG, (As.all L).kp h2 (Kp.of_keeps hk fun k hL => ⟨(As.all L).lt h2 k hL, fun hF => hd k hF hL⟩), fun k hg hL => ?_⟩⟩
  rcases hn k hg with hF | hs
  · exact hd k hF hL
  · have := (As.all L).lt h2 k hL; omega

theorem St.below {L : List As} {w w' : World} (h : St L w) (hb : Below w.heap.size w w') : St L w' := by
  obtain ⟨F, h⟩ := h
  exact ⟨F, (As.all L).kp h (Kp.of_keeps (Keeps.of_below (F := fun _ => False) hb) fun k hk => ⟨(As.all L).lt h k hk, id⟩)⟩
theorem St.drew {L : List As} {w : World} (h : St L w) : St L w.drew := h.below (Below.refl _ _).drew
theorem St.drewN {L : List As} {w : World} (h : St L w) (n : Nat) : St L (w.drewN n) := h.below (below_drewN (Below.refl _ _) n)
theorem St.tail {A : As} {L : List As} {w : World} (h : St (A :: L) w) : St L w := by
  obtain ⟨_, FL, _, h2, _⟩ := St.cons.1 h; exact ⟨FL, h2⟩
theorem St.drop {L : List As} {w : World} (h : St L w) (n : Nat) : St (L.drop n) w := by
  induction n generalizing L with
  | zero => exact h
  | succ n ih => cases L with
    | nil => exact h
    | cons A L => exact ih h.tail
/-- New memory: it comes first. -/
theorem St.made {B : As} {L : List As} {w w' : World} (h : St L w) (hs : Below w.heap.size w w' ∧ ∃ G, B.at_ G w' ∧ ∀ k, G k → w.heap.size ≤ k) : St (B :: L) w' := by
  obtain ⟨hb, G, hG, hn⟩ := hs
  refine St.step (A := As.emp) (w := w) ?_ fun F hF => ⟨G, hG, Keeps.of_below hb, fun k hk => .inr (hn k hk)⟩
  unfold St; rw [show As.all (As.emp :: L) = As.all L from As.emp_and _]; exact h

/-- Block p holds just these cells, and may be written. -/
def blkA (p : Nat) (cs : List Value) (t : TypeId) : As :=
  ⟨fun F w => Has w p cs t ∧ ∀ k, F k ↔ k = p, fun ⟨h, hf⟩ hk => ⟨h.of_block (hk.block p ((hf p).2 rfl)), hf⟩, fun ⟨h, hf⟩ k hk => by rw [(hf k).1 hk]; exact h.lt⟩

/-- The slice v of n elements owns the cells xs. -/
def rowA (e : TypeId) (size : Nat) (v : Value) (n : Nat) (xs : List Value) : As :=
  ⟨fun F w => w.ownsRow 0 e size v n xs ∧ ∀ k, F k ↔ v.ownBlock = some k,
   fun ⟨h, hf⟩ hk => by
    refine ⟨⟨h.1, h.2.imp_right ?_⟩, hf⟩
    rintro ⟨g, cap, cur, hv, hb, hr, rest⟩
    refine ⟨g, cap, cur, hv, hb, (hk.block g ((hf g).2 (by rw [hv]; rfl))).trans hr, rest⟩,
   fun ⟨h, hf⟩ k hk => (World.ownsRow.lt h k ((hf k).1 hk)).2⟩

/-- A map from ints, that stands for f. -/
def mapA (b : Nat) (f : Int → Option Value) : As :=
  ⟨fun F w => MapI w b f ∧ ∀ k, F k ↔ k = b, fun ⟨h, hf⟩ hk => ⟨h.of_block (hk.block b ((hf b).2 rfl)), hf⟩, fun ⟨h, hf⟩ k hk => by rw [(hf k).1 hk]; exact h.lt⟩

/-- All that was there at w0 is as it was. -/
def oldA (w0 : World) : As :=
  ⟨fun F w => Below w0.heap.size w0 w ∧ ∀ k, F k ↔ k < w0.heap.size,
   fun ⟨h, hf⟩ hk => ⟨h.trans ⟨hk.os, hk.tape, hk.output, hk.size, fun k hlt => hk.block k ((hf k).2 hlt)⟩, hf⟩,
   fun ⟨h, hf⟩ k hk => Nat.lt_of_lt_of_le ((hf k).1 hk) h.size⟩

/-- Something of a kind. -/
def exA {α : Type} (f : α → As) : As :=
  ⟨fun F w => ∃ x, (f x).at_ F w, fun ⟨x, h⟩ hk => ⟨x, (f x).kp h hk⟩, fun ⟨x, h⟩ k hk => (f x).lt h k hk⟩

theorem St.old (w : World) : St [oldA w] w := by
  unfold St; rw [show As.all [oldA w] = oldA w from As.and_emp _]
  exact ⟨_, Below.refl _ _, fun _ => Iff.rfl⟩
theorem St.old_below {w0 w : World} {L : List As} (h : St (oldA w0 :: L) w) : Below w0.heap.size w0 w := by
  obtain ⟨F, _, h, _⟩ := St.cons.1 h; exact h.1
theorem St.ex {α : Type} {f : α → As} {L : List As} {w : World} (h : St (exA f :: L) w) : ∃ x, St (f x :: L) w := by
  obtain ⟨F, G, ⟨x, h1⟩, h2, hd⟩ := St.cons.1 h; exact ⟨x, St.cons.2 ⟨F, G, h1, h2, hd⟩⟩
theorem St.ex_mk {α : Type} {f : α → As} {L : List As} {w : World} (x : α) (h : St (f x :: L) w) : St (exA f :: L) w := by
  obtain ⟨F, G, h1, h2, hd⟩ := St.cons.1 h; exact St.cons.2 ⟨F, G, ⟨x, h1⟩, h2, hd⟩

theorem St.has {p : Nat} {cs : List Value} {t : TypeId} {L : List As} {w : World} (h : St (blkA p cs t :: L) w) : Has w p cs t := by
  obtain ⟨F, G, h1, _⟩ := St.cons.1 h; exact h1.1
theorem St.row {e : TypeId} {size : Nat} {v : Value} {n : Nat} {xs : List Value} {L : List As} {w : World} (h : St (rowA e size v n xs :: L) w) : w.ownsRow 0 e size v n xs := by
  obtain ⟨F, G, h1, _⟩ := St.cons.1 h; exact h1.1
theorem St.map {b : Nat} {f : Int → Option Value} {L : List As} {w : World} (h : St (mapA b f :: L) w) : MapI w b f := by
  obtain ⟨F, G, h1, _⟩ := St.cons.1 h; exact h1.1
theorem St.blk_ne {p q : Nat} {cs ds : List Value} {t u : TypeId} {L : List As} {w : World} (h : St (blkA p cs t :: blkA q ds u :: L) w) : p ≠ q := by
  obtain ⟨F, _, h1, ⟨G, _, h2, _, _, hg⟩, hd⟩ := St.cons.1 h
  intro e
  exact hd p ((h1.2 p).2 rfl) ((hg p).2 (.inl ((h2.2 p).2 e)))
theorem St.blk_row_ne {p : Nat} {cs : List Value} {t : TypeId} {e : TypeId} {size : Nat} {v : Value} {n : Nat} {xs : List Value} {L : List As} {w : World} (h : St (blkA p cs t :: rowA e size v n xs :: L) w) : v.ownBlock ≠ some p := by
  obtain ⟨F, _, h1, ⟨G, _, h2, _, _, hg⟩, hd⟩ := St.cons.1 h
  intro e
  exact hd p ((h1.2 p).2 rfl) ((hg p).2 (.inl ((h2.2 p).2 e)))
theorem St.row_row_ne {e e' : TypeId} {size size' : Nat} {v v' : Value} {n n' : Nat} {xs xs' : List Value} {L : List As} {w : World} (h : St (rowA e size v n xs :: rowA e' size' v' n' xs' :: L) w) {g : Nat} (hg : v.ownBlock = some g) : v'.ownBlock ≠ some g := by
  obtain ⟨F, _, h1, ⟨G, _, h2, _, _, hf⟩, hd⟩ := St.cons.1 h
  intro e
  exact hd g ((h1.2 g).2 hg) ((hf g).2 (.inl ((h2.2 g).2 e)))
theorem St.blk_map_ne {p b : Nat} {cs : List Value} {t : TypeId} {f : Int → Option Value} {L : List As} {w : World} (h : St (blkA p cs t :: mapA b f :: L) w) : p ≠ b := by
  obtain ⟨F, _, h1, ⟨G, _, h2, _, _, hg⟩, hd⟩ := St.cons.1 h
  intro e
  exact hd p ((h1.2 p).2 rfl) ((hg p).2 (.inl ((h2.2 p).2 e)))

theorem blkA_fp {p : Nat} {cs : List Value} {t : TypeId} {F : Nat → Prop} {w : World} (h : (blkA p cs t).at_ F w) : ∀ k, F k ↔ k = p := h.2

/-- A store into a block that is known whole. -/
theorem St.set {p : Nat} {cs : List Value} {t : TypeId} {L : List As} {w : World} (h : St (blkA p cs t :: L) w) (i : Nat) (v : Value) : St (blkA p (cs.set i v) t :: L) (w.setCell ⟨p, i, none⟩ v) :=
  h.step fun F hF => ⟨F, ⟨hF.1.set i v, hF.2⟩, (Keeps.refl F w).setCell i v ((hF.2 p).2 rfl), fun k hk => .inl hk⟩

/-- A store into a row of elements. -/
theorem St.rowSet {e : TypeId} {size : Nat} {g len cap n : Nat} {xs : List Value} {L : List As} {w : World} (h : St (rowA e size (.slice (some ⟨g, 0, none⟩) len cap) n xs :: L) w) (i : Nat) (v : Value) (hi : i < xs.length) : St (rowA e size (.slice (some ⟨g, 0, none⟩) len cap) n (xs.set i v) :: L) (w.setCell ⟨g, i, none⟩ v) := by
  refine h.step fun F hF => ⟨F, ⟨⟨by rw [List.length_set]; exact hF.1.1, ?_⟩, hF.2⟩, (Keeps.refl F w).setCell i v ((hF.2 g).2 rfl), fun k hk => .inl hk⟩
  rcases hF.1.2 with ⟨hv, _⟩ | ⟨g', cap', cur, hv, hb, hg, hle, hm, hs, ht⟩
  · simp at hv
  · obtain ⟨rfl, rfl, rfl⟩ : g = g' ∧ len = n ∧ cap = cap' := by simpa using hv
    refine .inr ⟨g, cap, cur.setIfInBounds i v, rfl, hb, ?_, hle, hm, by simpa using hs, ?_⟩
    · have hlt : g < w.heap.size := lt_of_block hg
      have h' : w.heap[g] = .cells cur e (0, 0) := by rw [Array.getElem?_eq_getElem hlt] at hg; exact Option.some.inj hg
      show (w.heap.modify g _)[g]? = _
      rw [Array.getElem?_eq_getElem (by simpa using hlt), Array.getElem_modify_self, h']
      simp
    · rw [Array.toList_setIfInBounds, List.take_set, ht]

theorem St.alloc {L : List As} {w : World} (h : St L w) (cs : List Value) (t : TypeId) : St (blkA w.heap.size cs t :: L) (w.alloc (.cells cs.toArray t)) :=
  h.made ⟨(Below.refl _ _).alloc (Nat.le_refl _) _, fun k => k = w.heap.size, ⟨Has.new w cs t, fun _ => Iff.rfl⟩, fun k hk => by rw [hk]; exact Nat.le_refl _⟩

/-- An append, or another call that makes v' of v. -/
theorem St.grown {e : TypeId} {size : Nat} {v v' : Value} {n n' : Nat} {xs xs' : List Value} {L : List As} {w w' : World} (h : St (rowA e size v n xs :: L) w) (ho : w'.ownsRow 0 e size v' n' xs') (hg : w.grownBy w' v.ownBlock)
    (hat : ∀ g, v'.ownBlock = some g → v.ownBlock = some g ∨ w.heap.size ≤ g) : St (rowA e size v' n' xs' :: L) w' := by
  refine h.step fun F hF => ⟨fun k => v'.ownBlock = some k, ⟨ho, fun _ => Iff.rfl⟩, (Keeps.refl F w).grown hg (fun k hk => .inr ((hF.2 k).2 hk)), fun k hk => (hat k hk).imp_left fun h => (hF.2 k).2 h⟩

theorem St.nil (e : TypeId) (size : Nat) {L : List As} {w : World} (h : St L w) : St (rowA e size (.slice none 0 0) 0 [] :: L) w :=
  h.made ⟨Below.refl _ _, fun _ => False, ⟨World.ownsRow_nil _ _ _ _, fun k => by simp [Value.ownBlock]⟩, fun k hk => hk.elim⟩

attribute [irreducible] blkA mapA oldA
end Go.Proofs.Ytbeolkjegipldaa
