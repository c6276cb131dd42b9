/- The book of instructions as one assertion; its calls' contracts in these words. -/
import Derived.Test.YtbeolkjegipldaaStar
import Derived.Test.YtbeolkjegipldaaDealE
namespace Go.Proofs.Ytbeolkjegipldaa
open Go.RowKit DL

/-- A book lies at p. -/
def bookA (p : Nat) (B : Bk) : As :=
  ⟨fun F w => ∃ v mp, BookRep w p B v mp ∧ ∀ k, F k ↔ bookF p mp v k,
   fun ⟨v, mp, h, hf⟩ hk => ⟨v, mp, h.of_blocks fun k hb => hk.block k ((hf k).2 hb), hf⟩,
   fun ⟨v, mp, h, hf⟩ k hk => h.lt k ((hf k).1 hk)⟩

/-- A slice of ints that is one's own. -/
def rowI (v : Value) (l : List Int) : As := rowA 3 1 v l.length (l.map (Value.int .i64))

theorem St.book {L : List As} {w : World} {p : Nat} {B : Bk} (h : St (bookA p B :: L) w) :
    ∃ v mp, BookRep w p B v mp ∧ ∀ {B' w'}, BookTo w p mp v B' w' → St (bookA p B' :: L) w' := by
  obtain ⟨F, ⟨v, mp, hr, hf⟩, hst⟩ := h.open
  refine ⟨v, mp, hr, fun {B' w'} ht => ?_⟩
  obtain ⟨v', hr', hk, hn⟩ := ht
  refine hst (G := bookF p mp v') ⟨v', mp, hr', fun _ => Iff.rfl⟩ (hk.mono fun k _ hb => (hf k).2 hb) (fun k hk => ?_)
  rcases hk with e | e | e
  · exact .inl ((hf k).2 (.inl e))
  · exact .inl ((hf k).2 (.inr (.inl e)))
  · exact (hn k e).imp_left fun h => (hf k).2 (.inr (.inr h))

theorem St.bookMade {L : List As} {w w' : World} {p mp : Nat} {v : Value} {B : Bk} (h : St L w) (hm : BookMade w w' B p mp v) : St (bookA p B :: L) w' :=
  h.made ⟨hm.bel, bookF p mp v, ⟨v, mp, hm.rep, fun _ => Iff.rfl⟩, fun k hk => by
    rcases hk with e | e | e
    · rw [e]; exact hm.pn
    · rw [e]; exact hm.mn
    · exact hm.vn k e⟩

theorem St.intsNew {L : List As} {w w' : World} {v : Value} {l : List Int} (h : St L w) (hi : IntsNew w w' v l) (hb : Below w.heap.size w w') : St (rowI v l :: L) w' :=
  h.made ⟨hb, fun k => v.ownBlock = some k, ⟨⟨hi.1, hi.2.imp_right fun ⟨g, cap, cur, hv, hb, hr⟩ => ⟨g, cap, cur, hv, Nat.zero_le _, hr⟩⟩, fun _ => Iff.rfl⟩, fun k hk => (World.ownsRow.lt hi k hk).1⟩

theorem new_s {L : List As} {w : World} (h : St L w) (m c : Int) :
    Calls Try.prog 8 #[.int .i64 m, .int .i64 c] w fun e w' =>
      (fitB m c = true ∧ ∃ p, e = .returned (.tuple #[.pointer (some ⟨p, 0, none⟩), .int .i64 0]) ∧ St (bookA p ⟨m, c, [], 0⟩ :: L) w') ∨
      (fitB m c = false ∧ e = .returned (.tuple #[.pointer none, .int .i64 1]) ∧ St L w') := by
  refine (new_any m c w).mono ?_
  rintro e w' (⟨hf, p, mp, rfl, hm⟩ | ⟨hf, rfl, hb⟩)
  · exact .inl ⟨hf, p, rfl, h.bookMade hm⟩
  · exact .inr ⟨hf, rfl, h.below hb⟩

theorem new_fit {L : List As} {w : World} (h : St L w) (m c : Int) (hf : fitB m c = true) :
    Calls Try.prog 8 #[.int .i64 m, .int .i64 c] w fun e w' =>
      ∃ p, e = .returned (.tuple #[.pointer (some ⟨p, 0, none⟩), .int .i64 0]) ∧ St (bookA p ⟨m, c, [], 0⟩ :: L) w' := by
  refine (new_s h m c).mono ?_
  rintro e w' (⟨_, r⟩ | ⟨h', _⟩)
  · exact r
  · rw [hf] at h'; cases h'

theorem new_not {L : List As} {w : World} (h : St L w) (m c : Int) (hf : fitB m c = false) :
    Calls Try.prog 8 #[.int .i64 m, .int .i64 c] w fun e w' => e = .returned (.tuple #[.pointer none, .int .i64 1]) ∧ St L w' := by
  refine (new_s h m c).mono ?_
  rintro e w' (⟨h', r⟩ | ⟨_, r⟩)
  · rw [hf] at h'; cases h'
  · exact r

section
variable {L : List As} {w : World} {p : Nat} {B : Bk} (h : St (bookA p B :: L) w)
include h

theorem submit_s (d : Dl) (hI : B.Inv) (hk : B.k ≤ 1000) :
    Calls Try.prog 18 #[.pointer (some ⟨p, 0, none⟩), .agg #[.int .i64 d.id, .int .i64 d.a, .int .i64 d.b, .int .i64 d.sc, .int .i64 d.bc, .int .i64 d.sell, .int .i64 d.buy]] w fun e w' =>
      e = .returned (.tuple #[.bool (B.submit d).2.1, .int .i64 (B.submit d).2.2]) ∧ St (bookA p (B.submit d).1 :: L) w' := by
  obtain ⟨v, mp, hr, hst⟩ := h.book
  exact (submit_any hr d hI hk).mono fun e w' ⟨he, ht⟩ => ⟨he, hst ht⟩

theorem rescind_s (mem id : Int) (hI : B.Inv) :
    Calls Try.prog 20 #[.pointer (some ⟨p, 0, none⟩), .int .i64 mem, .int .i64 id] w fun e w' =>
      e = .returned (.tuple #[.int .i64 (B.rescind mem id).2.1, .int .i64 (B.rescind mem id).2.2]) ∧ St (bookA p (B.rescind mem id).1 :: L) w' := by
  obtain ⟨v, mp, hr, hst⟩ := h.book
  exact (rescind_any hr mem id hI).mono fun e w' ⟨he, ht⟩ => ⟨he, hst ht⟩

theorem settle_s (id : Int) :
    Calls Try.prog 21 #[.pointer (some ⟨p, 0, none⟩), .int .i64 id] w fun e w' =>
      e = .returned (.int .i64 (B.settle id).2) ∧ St (bookA p (B.settle id).1 :: L) w' := by
  obtain ⟨v, mp, hr, hst⟩ := h.book
  exact (settle_any hr id).mono fun e w' ⟨he, ht⟩ => ⟨he, hst ht⟩

theorem state_s (id : Int) :
    Calls Try.prog 19 #[.pointer (some ⟨p, 0, none⟩), .int .i64 id] w fun e w' => e = .returned (.int .i64 (B.state id)) ∧ w' = w := by
  obtain ⟨v, mp, hr, hst⟩ := h.book
  exact state_any hr id

theorem deal_s (id : Int) :
    Calls Try.prog 22 #[.pointer (some ⟨p, 0, none⟩), .int .i64 id] w fun e w' =>
      e = .returned (.tuple #[.agg #[.int .i64 (B.deal id).1.id, .int .i64 (B.deal id).1.a, .int .i64 (B.deal id).1.b, .int .i64 (B.deal id).1.sc, .int .i64 (B.deal id).1.bc, .int .i64 (B.deal id).1.sell, .int .i64 (B.deal id).1.buy], .bool (B.deal id).2]) ∧ St (bookA p B :: L) w' := by
  obtain ⟨v, mp, hr, hst⟩ := h.book
  exact (deal_any hr id).mono fun e w' ⟨he, hb⟩ => ⟨he, h.below hb⟩

theorem text_s (hlen : B.l.length ≤ 200) (hfit : ∀ e ∈ B.l, FitE e) :
    Calls Try.prog 11 #[.pointer (some ⟨p, 0, none⟩)] w fun e w' => e = .returned (.string (strOf B.text)) ∧ St (bookA p B :: L) w' := by
  obtain ⟨v, mp, hr, hst⟩ := h.book
  exact (text_any hr hlen hfit).mono fun e w' ⟨he, hb⟩ => ⟨he, h.below hb⟩

theorem all_s (s : Int) (hI : B.Inv) :
    Calls Try.prog 14 #[.pointer (some ⟨p, 0, none⟩), .int .i64 s] w fun e w' => ∃ o, e = .returned o ∧ St (rowI o (B.all s) :: bookA p B :: L) w' := by
  obtain ⟨v, mp, hr, hst⟩ := h.book
  exact (all_any hr s hI).mono fun e w' ⟨o, he, hi, hb⟩ => ⟨o, he, h.intsNew hi hb⟩

theorem remove_s (mem : Int) (hI : B.Inv) :
    Calls Try.prog 23 #[.pointer (some ⟨p, 0, none⟩), .int .i64 mem] w fun e w' => ∃ o, e = .returned o ∧ St (rowI o (B.remove mem).2 :: bookA p (B.remove mem).1 :: L) w' := by
  obtain ⟨F, FL, ⟨v, mp, hr, hf⟩, hL, hd⟩ := St.cons.1 h
  refine (remove_any hr mem hI).mono fun e w' ⟨o, he, hi, hr', hk⟩ => ⟨o, he, ?_⟩
  have hFL := fun k hk => (As.all L).lt hL k hk
  refine St.cons.2 ⟨fun k => o.ownBlock = some k, fun k => F k ∨ FL k, ⟨⟨hi.1, hi.2.imp_right fun ⟨g, cap, cur, hv, hb, hr⟩ => ⟨g, cap, cur, hv, Nat.zero_le _, hr⟩⟩, fun _ => Iff.rfl⟩,
    ⟨F, FL, ⟨v, mp, hr', hf⟩, (As.all L).kp hL (Kp.of_keeps hk fun k hk => ⟨hFL k hk, fun hb => hd k ((hf k).2 hb) hk⟩), hd, fun _ => Iff.rfl⟩, fun k hk hF => ?_⟩
  have h1 := (World.ownsRow.lt hi k hk).1
  rcases hF with hF | hF
  · have := hr.lt k ((hf k).1 hF); omega
  · have := hFL k hF; omega
end

theorem read_s {L : List As} {w : World} (h : St L w) (s : ByteArray) (m c : Int) :
    Calls Try.prog 16 #[.string s, .int .i64 m, .int .i64 c] w fun e w' =>
      (readM s.data.toList m c = none ∧ e = .returned (.tuple #[.pointer none, .int .i64 2]) ∧ St L w') ∨
      (∃ B, readM s.data.toList m c = some B ∧ ∃ p, e = .returned (.tuple #[.pointer (some ⟨p, 0, none⟩), .int .i64 0]) ∧ St (bookA p B :: L) w') := by
  refine (read_any s m c w).mono ?_
  rintro e w' (⟨hn, rfl, hb⟩ | ⟨B, hs, p, mp, v, rfl, hm⟩)
  · exact .inl ⟨hn, rfl, h.below hb⟩
  · exact .inr ⟨B, hs, p, rfl, h.bookMade hm⟩

theorem St.ints {L : List As} {w : World} {v : Value} {l : List Int} (h : St (rowI v l :: L) w) : IntsR w v l := IntsR.of_row h.row

theorem same_s {L : List As} {w : World} (h : St L w) {v u : Value} {l l' : List Int} (hv : IntsR w v l) (hu : IntsR w u l') (hl : l.length ≤ 1000000) (hl' : l'.length ≤ 1000000) :
    Calls Try.prog 13 #[v, u] w fun e w' => e = .returned (.bool (decide (l = l'))) ∧ St L w' :=
  (same_any w v u l l' hv hu hl hl').mono fun e w' ⟨he, hb⟩ => ⟨he, h.below hb⟩

end Go.Proofs.Ytbeolkjegipldaa
