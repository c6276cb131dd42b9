/- The book of instructions, plainly: what each call makes of it, and what holds of every book. -/
namespace Go.Proofs.Ytbeolkjegipldaa
namespace DL

/-- An instruction. -/
structure Dl where
  id : Int
  a : Int
  b : Int
  sc : Int
  bc : Int
  sell : Int
  buy : Int
  deriving DecidableEq

/-- An entry of a book: an instruction, its state, who asked (1 its A, 2 its B), the how-manieth it was to be matched. -/
structure En where
  d : Dl
  st : Int
  ak : Int
  od : Int
  deriving DecidableEq

def En.zero : En := ⟨⟨0,0,0,0,0,0,0⟩,0,0,0⟩

/-- A book: sizes, entries, how many were matched. -/
structure Bk where
  m : Int
  c : Int
  l : List En
  k : Int

def twoB (a b most : Int) : Bool := decide (0 ≤ a ∧ 0 ≤ b ∧ a < most ∧ b < most ∧ a ≠ b)

def mayB (m c : Int) (d : Dl) : Bool :=
  decide (1 ≤ d.id ∧ d.id ≤ 2147483647) && twoB d.a d.b m && twoB d.sc d.bc c && decide (1 ≤ d.sell ∧ 1 ≤ d.buy)

def mirr (d : Dl) : Dl := ⟨d.id, d.b, d.a, d.bc, d.sc, d.buy, d.sell⟩

def idx (l : List En) (id : Int) : Option Nat := l.findIdx? (fun e => e.d.id == id)

def nth (l : List En) (i : Nat) : En := l.getD i En.zero

/-- Submit: the book behind it, whether it matched, the error. -/
def Bk.submit (B : Bk) (d : Dl) : Bk × Bool × Int :=
  if mayB B.m B.c d = false then (B, false, 1) else
  match idx B.l d.id with
  | none => if B.l.length = 200 then (B, false, 4) else ({ B with l := B.l ++ [⟨d, 1, 0, 0⟩] }, false, 0)
  | some i =>
    if (nth B.l i).st ≠ 1 ∨ (nth B.l i).d.a = d.a then (B, false, 6)
    else if (nth B.l i).d ≠ mirr d then (B, false, 12)
    else ({ B with l := B.l.set i { nth B.l i with st := 2, od := B.k + 1 }, k := B.k + 1 }, true, 0)

def En.who (x : En) (mem : Int) : Int := if mem = x.d.a then 1 else if mem = x.d.b ∧ x.st ≠ 1 then 2 else 0

def En.asks (x : En) (w : Int) : Bool := if w = 1 then decide (x.ak % 2 = 1) else decide (x.ak / 2 = 1)

/-- Rescind: the book, the state told, the error. -/
def Bk.rescind (B : Bk) (mem id : Int) : Bk × Int × Int :=
  match idx B.l id with
  | none => (B, 0, 5)
  | some i =>
    let x := nth B.l i
    if x.who mem = 0 then (B, 0, 5)
    else if 3 ≤ x.st then (B, 0, 7)
    else if x.st = 1 then ({ B with l := B.l.set i { x with st := 4 } }, 4, 0)
    else if x.asks (x.who mem) then (B, 0, 6)
    else if x.ak + x.who mem = 3 then ({ B with l := B.l.set i { x with ak := 3, st := 4 } }, 4, 0)
    else ({ B with l := B.l.set i { x with ak := x.ak + x.who mem } }, x.st, 0)

def Bk.settle (B : Bk) (id : Int) : Bk × Int :=
  match idx B.l id with
  | none => (B, 5)
  | some i => if (nth B.l i).st ≠ 2 then (B, 7) else ({ B with l := B.l.set i { nth B.l i with st := 3 } }, 0)

def En.hit (x : En) (mem : Int) : Bool := decide (x.st < 3 ∧ (x.d.a = mem ∨ x.d.b = mem))
def En.gone (x : En) (mem : Int) : En := if x.hit mem then { x with st := 4 } else x

def Bk.remove (B : Bk) (mem : Int) : Bk × List Int :=
  ({ B with l := B.l.map (·.gone mem) }, (B.l.filter (·.hit mem)).map (·.d.id))

def Bk.state (B : Bk) (id : Int) : Int := match idx B.l id with | none => 0 | some i => (nth B.l i).st

def Bk.deal (B : Bk) (id : Int) : Dl × Bool := match idx B.l id with | none => (⟨0,0,0,0,0,0,0⟩, false) | some i => ((nth B.l i).d, true)

/-- The matched ones, in the order in which they were matched. -/
def byOrd (l : List En) (k : Nat) : List Int := (List.range k).flatMap fun (n : Nat) => (l.filter fun e => decide (e.od = (n : Int) + 1) && decide (e.st = 2)).map (·.d.id)

def Bk.all (B : Bk) (s : Int) : List Int := if s = 2 then byOrd B.l B.k.toNat else (B.l.filter fun e => decide (e.st = s)).map (·.d.id)

def En.could (x : En) : Prop :=
  (x.st = 1 ∧ x.ak = 0 ∧ x.od = 0) ∨ ((x.st = 2 ∨ x.st = 3) ∧ x.ak < 3 ∧ 0 < x.od) ∨ (x.st = 4 ∧ x.ak ≤ 3 ∧ (0 < x.od ∨ x.ak = 0))

/-- What holds of every book. -/
structure Bk.Inv (B : Bk) : Prop where
  m1 : 1 ≤ B.m
  m2 : B.m ≤ 16
  c1 : 1 ≤ B.c
  c2 : B.c ≤ 8
  len : B.l.length ≤ 200
  may : ∀ e ∈ B.l, mayB B.m B.c e.d = true
  could : ∀ e ∈ B.l, e.could
  ak0 : ∀ e ∈ B.l, 0 ≤ e.ak
  od0 : ∀ e ∈ B.l, 0 ≤ e.od
  ids : (B.l.map (·.d.id)).Nodup
  ord : List.Perm ((B.l.filter (fun e => decide (0 < e.od))).map (·.od)) ((List.range B.k.toNat).map (fun (n : Nat) => (n : Int) + 1))
  k0 : 0 ≤ B.k

theorem idx_some {l : List En} {id : Int} {i : Nat} (h : idx l id = some i) : i < l.length ∧ (nth l i).d.id = id := by
  unfold idx at h
  rw [List.findIdx?_eq_some_iff_getElem] at h
  obtain ⟨hi, he, _⟩ := h
  refine ⟨hi, ?_⟩
  simp only [nth, List.getD_eq_getElem?_getD, List.getElem?_eq_getElem hi, Option.getD_some]
  simpa using he

theorem idx_none {l : List En} {id : Int} (h : idx l id = none) : ∀ e ∈ l, e.d.id ≠ id := by
  unfold idx at h
  rw [List.findIdx?_eq_none_iff] at h
  intro e he
  simpa using h e he

theorem idx_push {l : List En} {e : En} (h : idx l e.d.id = none) (id : Int) : idx (l ++ [e]) id = if id = e.d.id then some l.length else idx l id := by
  unfold idx at *
  rw [List.findIdx?_append]
  by_cases hid : id = e.d.id
  · subst hid
    rw [h, if_pos rfl]
    simp
  · rw [if_neg hid]
    have : (e.d.id == id) = false := by simpa using fun h => hid h.symm
    simp [this]

theorem idx_map (l : List En) (id : Int) : idx l id = (l.map (·.d.id)).findIdx? (fun k => k == id) := by
  unfold idx
  rw [List.findIdx?_map]
  rfl

theorem nth_set_same {l : List En} {n : Nat} {e : En} (hn : n < l.length) : nth (l.set n e) n = e := by
  simp [nth, hn]

theorem nth_set_ne {l : List En} {n m : Nat} {e : En} (hne : n ≠ m) : nth (l.set n e) m = nth l m := by
  simp [nth, List.getElem?_set_ne hne]

theorem nth_mem {l : List En} {i : Nat} (h : i < l.length) : nth l i ∈ l := by
  simp only [nth, List.getD_eq_getElem?_getD, List.getElem?_eq_getElem h, Option.getD_some]
  exact List.getElem_mem h

theorem nth_getElem {l : List En} {i : Nat} (h : i < l.length) : nth l i = l[i] := by
  simp only [nth, List.getD_eq_getElem?_getD, List.getElem?_eq_getElem h, Option.getD_some]

/-- Another entry of the same Id is the same place. -/
theorem map_id_set {l : List En} {i : Nat} {x : En} (hi : i < l.length) (hx : x.d.id = (nth l i).d.id) : (l.set i x).map (·.d.id) = l.map (·.d.id) := by
  rw [List.map_set]
  apply List.ext_getElem
  · simp
  · intro j h1 h2
    rw [List.getElem_set]
    split
    · next h => subst h; simp [hx, nth_getElem hi]
    · rfl

theorem idx_set {l : List En} {n : Nat} {e : En} (hn : n < l.length) (hid : e.d.id = (nth l n).d.id) (id : Int) : idx (l.set n e) id = idx l id := by
  rw [idx_map, idx_map, map_id_set hn hid]

theorem mem_set {l : List En} {i : Nat} {x e : En} (h : e ∈ l.set i x) : e ∈ l ∨ e = x := by
  rcases List.mem_or_eq_of_mem_set h with h | h
  · exact .inl h
  · exact .inr h

/-- An entry whose instruction and order stay: the book's law holds on. -/
theorem Bk.Inv.set_same {B : Bk} (h : B.Inv) {i : Nat} (hi : i < B.l.length) {x : En} (hd : x.d = (nth B.l i).d) (ho : x.od = (nth B.l i).od) (hc : x.could) (ha : 0 ≤ x.ak) : Bk.Inv { B with l := B.l.set i x } := by
  have hm := nth_mem hi
  refine ⟨h.m1, h.m2, h.c1, h.c2, by simpa using h.len, ?_, ?_, ?_, ?_, ?_, ?_, h.k0⟩
  · intro e he
    rcases mem_set he with he | rfl
    · exact h.may e he
    · rw [hd]; exact h.may _ hm
  · intro e he
    rcases mem_set he with he | rfl
    · exact h.could e he
    · exact hc
  · intro e he
    rcases mem_set he with he | rfl
    · exact h.ak0 e he
    · exact ha
  · intro e he
    rcases mem_set he with he | rfl
    · exact h.od0 e he
    · rw [ho]; exact h.od0 _ hm
  · show ((B.l.set i x).map _).Nodup
    rw [map_id_set hi (by rw [hd])]; exact h.ids
  · have : (B.l.set i x).map (·.od) = B.l.map (·.od) := by
      rw [List.map_set]
      apply List.ext_getElem
      · simp
      · intro j h1 h2
        rw [List.getElem_set]
        split
        · next h => subst h; simp [ho, nth_getElem hi]
        · rfl
    have e1 : ∀ l : List En, (l.filter (fun e => decide (0 < e.od))).map (·.od) = (l.map (·.od)).filter (fun n => decide (0 < n)) := by
      intro l; rw [List.filter_map]; rfl
    show List.Perm (((B.l.set i x).filter (fun e => decide (0 < e.od))).map (·.od)) _
    rw [e1, this, ← e1]; exact h.ord
theorem Bk.Inv.push {B : Bk} (h : B.Inv) {d : Dl} (hm : mayB B.m B.c d = true) (hn : idx B.l d.id = none) (hl : B.l.length ≠ 200) : Bk.Inv { B with l := B.l ++ [⟨d, 1, 0, 0⟩] } := by
  have hlen := h.len
  refine ⟨h.m1, h.m2, h.c1, h.c2, by simp; omega, ?_, ?_, ?_, ?_, ?_, ?_, h.k0⟩
  · intro e he
    rcases List.mem_append.1 he with he | he
    · exact h.may e he
    · simp at he; subst he; exact hm
  · intro e he
    rcases List.mem_append.1 he with he | he
    · exact h.could e he
    · simp at he; subst he; exact .inl ⟨rfl, rfl, rfl⟩
  · intro e he
    rcases List.mem_append.1 he with he | he
    · exact h.ak0 e he
    · simp at he; subst he; exact Int.le_refl 0
  · intro e he
    rcases List.mem_append.1 he with he | he
    · exact h.od0 e he
    · simp at he; subst he; exact Int.le_refl 0
  · show ((B.l ++ [_]).map _).Nodup
    rw [List.map_append, List.nodup_append]
    refine ⟨h.ids, by simp, ?_⟩
    intro a ha b hb
    simp at hb; subst hb
    simp at ha
    obtain ⟨e, he, rfl⟩ := ha
    exact idx_none hn e he
  · show List.Perm (((B.l ++ [_]).filter _).map _) _
    rw [List.filter_append, List.map_append]
    simpa using h.ord

theorem filter_set_perm {l : List En} {i : Nat} {x : En} (hi : i < l.length) (h0 : (nth l i).od = 0) (hx : 0 < x.od) :
    List.Perm (((l.set i x).filter (fun e => decide (0 < e.od))).map (·.od)) ((l.filter (fun e => decide (0 < e.od))).map (·.od) ++ [x.od]) := by
  induction l generalizing i with
  | nil => simp at hi
  | cons a l ih =>
    cases i with
    | zero =>
      have ha : a.od = 0 := h0
      simp only [List.set_cons_zero]
      rw [List.filter_cons_of_pos (by simpa using hx), List.filter_cons_of_neg (by simp [ha])]
      rw [List.map_cons]
      exact (List.perm_append_comm (l₁ := [x.od]) (l₂ := List.map (fun x => x.od) (List.filter (fun e => decide (0 < e.od)) l)))
    | succ i =>
      have hi' : i < l.length := by simpa using hi
      have := ih hi' h0
      simp only [List.set_cons_succ]
      by_cases ha : 0 < a.od
      · rw [List.filter_cons_of_pos (by simpa using ha), List.filter_cons_of_pos (by simpa using ha), List.map_cons, List.map_cons, List.cons_append]
        exact List.Perm.cons _ this
      · rw [List.filter_cons_of_neg (by simpa using ha), List.filter_cons_of_neg (by simpa using ha)]
        exact this

theorem Bk.Inv.match1 {B : Bk} (h : B.Inv) {i : Nat} (hi : i < B.l.length) (hs : (nth B.l i).st = 1) :
    Bk.Inv { B with l := B.l.set i { nth B.l i with st := 2, od := B.k + 1 }, k := B.k + 1 } := by
  have hm := nth_mem hi
  have hk := h.k0
  have hc := h.could _ hm
  have ho : (nth B.l i).od = 0 ∧ (nth B.l i).ak = 0 := by
    rcases hc with ⟨_, a, o⟩ | ⟨a | a, _⟩ | ⟨a, _⟩
    · exact ⟨o, a⟩
    all_goals omega
  refine ⟨h.m1, h.m2, h.c1, h.c2, by simpa using h.len, ?_, ?_, ?_, ?_, ?_, ?_, by show 0 ≤ B.k + 1; omega⟩
  · intro e he
    rcases mem_set he with he | rfl
    · exact h.may e he
    · exact h.may (nth B.l i) hm
  · intro e he
    rcases mem_set he with he | rfl
    · exact h.could e he
    · exact .inr (.inl ⟨.inl rfl, by show (nth B.l i).ak < 3; omega, by show 0 < B.k + 1; omega⟩)
  · intro e he
    rcases mem_set he with he | rfl
    · exact h.ak0 e he
    · exact h.ak0 (nth B.l i) hm
  · intro e he
    rcases mem_set he with he | rfl
    · exact h.od0 e he
    · show 0 ≤ B.k + 1; omega
  · have := map_id_set (x := { nth B.l i with st := 2, od := B.k + 1 }) hi rfl
    show (List.map _ _).Nodup
    rw [this]; exact h.ids
  · have e2 : (B.k + 1).toNat = B.k.toNat + 1 := by omega
    show List.Perm (((B.l.set i _).filter _).map _) ((List.range (B.k + 1).toNat).map _)
    rw [e2, List.range_succ, List.map_append]
    refine (filter_set_perm hi ho.1 (by show 0 < B.k + 1; omega)).trans ?_
    refine List.Perm.append h.ord ?_
    simp only [List.map_cons, List.map_nil]
    have : ((B.k.toNat : Nat) : Int) + 1 = B.k + 1 := by omega
    rw [this]

theorem Bk.Inv.submit {B : Bk} (h : B.Inv) (d : Dl) : (B.submit d).1.Inv := by
  unfold Bk.submit
  split
  · exact h
  · rename_i hm
    have hm : mayB B.m B.c d = true := by simpa using hm
    split
    · rename_i hn
      split
      · exact h
      · exact h.push hm hn (by assumption)
    · rename_i i hs
      split
      · exact h
      · split
        · exact h
        · rename_i h1 _
          refine h.match1 (idx_some hs).1 ?_
          have := fun e => h1 (.inl e)
          exact Classical.not_not.1 this

theorem could_st {x : En} (h : x.could) : 1 ≤ x.st ∧ x.st ≤ 4 := by
  rcases h with ⟨a, _⟩ | ⟨a | a, _⟩ | ⟨a, _⟩ <;> omega

theorem who_cases (x : En) (mem : Int) : x.who mem = 0 ∨ x.who mem = 1 ∨ (x.who mem = 2 ∧ x.st ≠ 1) := by
  unfold En.who
  split
  · simp
  · split
    · rename_i h; exact .inr (.inr ⟨rfl, h.2⟩)
    · simp

theorem Bk.Inv.rescind {B : Bk} (h : B.Inv) (mem id : Int) : (B.rescind mem id).1.Inv := by
  unfold Bk.rescind
  split
  · exact h
  · rename_i i hs
    have hi := (idx_some hs).1
    have hm := nth_mem hi
    have hc := h.could _ hm
    have ha := h.ak0 _ hm
    have ho := h.od0 _ hm
    simp only
    split
    · exact h
    · split
      · exact h
      · split
        · rename_i h1
          exact h.set_same hi rfl rfl (by
            refine .inr (.inr ⟨rfl, ?_⟩)
            rcases hc with ⟨_, a, o⟩ | ⟨a | a, _⟩ | ⟨a, _⟩
            · exact ⟨by show (nth B.l i).ak ≤ 3; omega, .inr a⟩
            all_goals omega) ha
        · split
          · exact h
          · have hst := could_st hc
            have hc2 : (nth B.l i).st = 2 ∧ (nth B.l i).ak < 3 ∧ 0 < (nth B.l i).od := by
              rcases hc with ⟨a, _⟩ | ⟨a, b⟩ | ⟨a, _⟩
              · omega
              · exact ⟨by omega, b⟩
              · omega
            split
            · exact h.set_same hi rfl rfl (.inr (.inr ⟨rfl, by show (3 : Int) ≤ 3; omega, .inl hc2.2.2⟩)) (by show (0 : Int) ≤ 3; omega)
            · rename_i hw _ _ hq hn
              have hw := who_cases (nth B.l i) mem
              refine h.set_same hi rfl rfl (.inr (.inl ⟨.inl hc2.1, ?_, hc2.2.2⟩)) ?_
              · show (nth B.l i).ak + _ < 3
                unfold En.asks at hq
                rcases hw with hw | hw | ⟨hw, _⟩
                · omega
                · rw [hw] at hq hn ⊢; simp at hq; omega
                · rw [hw] at hq hn ⊢; simp at hq; omega
              · show 0 ≤ (nth B.l i).ak + _
                rcases hw with hw | hw | ⟨hw, _⟩ <;> rw [hw] <;> omega

theorem Bk.Inv.settle {B : Bk} (h : B.Inv) (id : Int) : (B.settle id).1.Inv := by
  unfold Bk.settle
  split
  · exact h
  · rename_i i hs
    have hi := (idx_some hs).1
    have hm := nth_mem hi
    have hc := h.could _ hm
    split
    · exact h
    · rename_i h2
      have h2 : (nth B.l i).st = 2 := Classical.not_not.1 h2
      refine h.set_same hi rfl rfl (.inr (.inl ⟨.inr rfl, ?_⟩)) (h.ak0 (nth B.l i) hm)
      rcases hc with ⟨a, _⟩ | ⟨a, b⟩ | ⟨a, _⟩
      · omega
      · exact b
      · omega

theorem gone_d (x : En) (mem : Int) : (x.gone mem).d = x.d := by unfold En.gone; split <;> rfl
theorem gone_od (x : En) (mem : Int) : (x.gone mem).od = x.od := by unfold En.gone; split <;> rfl
theorem gone_ak (x : En) (mem : Int) : (x.gone mem).ak = x.ak := by unfold En.gone; split <;> rfl

theorem Bk.Inv.remove {B : Bk} (h : B.Inv) (mem : Int) : (B.remove mem).1.Inv := by
  unfold Bk.remove
  refine ⟨h.m1, h.m2, h.c1, h.c2, by simpa using h.len, ?_, ?_, ?_, ?_, ?_, ?_, h.k0⟩
  · intro e he
    obtain ⟨x, hx, rfl⟩ := List.mem_map.1 he
    rw [gone_d]; exact h.may _ hx
  · intro e he
    obtain ⟨x, hx, rfl⟩ := List.mem_map.1 he
    have hc := h.could _ hx
    have ho := h.od0 _ hx
    unfold En.gone
    split
    · refine .inr (.inr ⟨rfl, ?_⟩)
      rcases hc with ⟨_, a, b⟩ | ⟨_, a, b⟩ | ⟨_, a, b⟩
      · exact ⟨by show x.ak ≤ 3; omega, .inr a⟩
      · exact ⟨by show x.ak ≤ 3; omega, .inl b⟩
      · exact ⟨a, b⟩
    · exact hc
  · intro e he
    obtain ⟨x, hx, rfl⟩ := List.mem_map.1 he
    rw [gone_ak]; exact h.ak0 _ hx
  · intro e he
    obtain ⟨x, hx, rfl⟩ := List.mem_map.1 he
    rw [gone_od]; exact h.od0 _ hx
  · show ((B.l.map _).map _).Nodup
    rw [List.map_map]
    have : ((fun x : En => x.d.id) ∘ fun x : En => x.gone mem) = fun x : En => x.d.id := by funext x; simp [gone_d]
    rw [this]; exact h.ids
  · show List.Perm (((B.l.map _).filter _).map _) _
    rw [List.filter_map, List.map_map]
    have e1 : ((fun e : En => decide (0 < e.od)) ∘ fun x : En => x.gone mem) = fun e => decide (0 < e.od) := by funext x; simp [gone_od]
    have e2 : ((fun x : En => x.od) ∘ fun x : En => x.gone mem) = fun x : En => x.od := by funext x; simp [gone_od]
    rw [e1, e2]; exact h.ord
end DL
end Go.Proofs.Ytbeolkjegipldaa
