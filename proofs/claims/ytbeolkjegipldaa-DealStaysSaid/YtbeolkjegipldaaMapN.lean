/- A map from ints to ints, told by the function that it stands for and by how many it holds: making, looking up, storing, counting. -/
import Derived.Test.YtbeolkjegipldaaEng6
namespace Go.Proofs.Ytbeolkjegipldaa
open Go.RowKit

def MapN (w : World) (b m : Nat) (f : Int → Option Int) : Prop :=
  MapI w b (fun n => (f n).map (Value.int .i64)) ∧ ∃ es clock, w.heap[b]? = some (.map es clock) ∧ es.size = m

theorem MapN.of_block {w w' : World} {b m : Nat} {f : Int → Option Int} (h : MapN w b m f) (e : w'.heap[b]? = w.heap[b]?) : MapN w' b m f := by
  obtain ⟨h1, es, c, hb, r⟩ := h
  exact ⟨h1.of_block e, es, c, e.trans hb, r⟩

/-- A map of ints, alone. -/
def mapNA (b m : Nat) (f : Int → Option Int) : As :=
  ⟨fun F w => MapN w b m f ∧ ∀ k, F k ↔ k = b, fun ⟨h, hf⟩ hk => ⟨h.of_block (hk.block b ((hf b).2 rfl)), hf⟩, fun ⟨h, hf⟩ k hk => by rw [(hf k).1 hk]; exact h.1.lt⟩

theorem run_mapUpdate_n {P : Program} {w : World} {T K E : TypeId} (hT : P.underlying T = some (.map K E)) (hK : P.underlying K = some (.int .i64))
    {b m : Nat} {f : Int → Option Int} (h : MapN w b m f) (n s : Int) :
    ∃ o, (Instr.mapUpdate T (.map (some b)) (.int .i64 n) (.int .i64 s)).run P w = .ok () { w with heap := w.heap.setIfInBounds b o } ∧
      MapN { w with heap := w.heap.setIfInBounds b o } b (if (f n).isSome then m else m + 1) (fun k => if k = n then some s else f k) := by
  obtain ⟨o, h1, h2⟩ := run_mapUpdate_int (P := P) hT hK h.1 n (.int .i64 s)
  refine ⟨o, h1, ?_, ?_⟩
  · have e : (fun k => (if k = n then some s else f k).map (Value.int .i64)) = (fun k => if k = n then some (Value.int .i64 s) else (f k).map (Value.int .i64)) := by
      funext k; split <;> rfl
    rw [e]; exact h2
  · obtain ⟨hM, es, c, hb, hs⟩ := h
    have hlt := hM.lt
    obtain ⟨es', c', hb', hk, hf⟩ := hM
    obtain ⟨rfl, rfl⟩ : es = es' ∧ c = c' := by rw [hb] at hb'; simpa using hb'
    have hfn := hf n
    have get : ∀ o' : Obj, (Instr.mapUpdate T (.map (some b)) (.int .i64 n) (.int .i64 s)).run P w = .ok () { w with heap := w.heap.setIfInBounds b o' } → o = o' := fun o' ho => by
      rw [ho] at h1
      have h3 : ({ w with heap := w.heap.setIfInBounds b o' } : World) = { w with heap := w.heap.setIfInBounds b o } := by injection h1
      have h4 := congrArg (fun w : World => w.heap[b]?) h3
      simp [hlt] at h4
      exact h4.symm
    cases hp : posI n es.toList 0 with
    | none =>
      have := get (.map (es.push { key := .int .i64 n, val := .int .i64 s, born := c }) (c + 1)) (by
        simp [Instr.mapUpdate, run_underlying hT, MapKept.run_getObj_map hb, run_checkKey_int hK, run_findKey_int hK hk, hp, MapKept.run_setObj_map _ hb, Result.andThen])
      subst this
      have hfn0 : f n = none := by
        have : none = (f n).map (Value.int .i64) := by simpa [hp] using hfn
        cases h : f n with
        | none => rfl
        | some v => rw [h] at this; cases this
      refine ⟨_, _, by simp [hlt]; exact ⟨rfl, rfl⟩, ?_⟩
      simp [hfn0, hs]
    | some x =>
      obtain ⟨i, u⟩ := x
      have hp0 : posI n es.toList 0 = some (0 + i, u) := by rw [hp]; simp
      obtain ⟨e, he, hek, hev⟩ := posI_key n es.toList 0 hp0
      have he' : es[i]? = some e := by simpa using he
      have := get (.map (es.modify i fun e => { e with key := .int .i64 n, val := .int .i64 s }) c) (by
        have hsb : Instr.sameBits 10000 (.int .i64 n) (.int .i64 n) = true := by simp [Instr.sameBits]
        simp [Instr.mapUpdate, run_underlying hT, MapKept.run_getObj_map hb, run_checkKey_int hK, run_findKey_int hK hk, hp, he', hek, Instr.keyThatStays, hsb, MapKept.run_setObj_map _ hb, Result.andThen])
      subst this
      simp [hp] at hfn
      refine ⟨_, _, by simp [hlt]; exact ⟨rfl, rfl⟩, ?_⟩
      rw [if_pos (by rw [← Option.isSome_map (f := Value.int .i64), ← hfn]; rfl)]
      simpa using hs

theorem run_lookup_n {P : Program} {w : World} {T K E : TypeId} (hT : P.underlying T = some (.map K E)) (hK : P.underlying K = some (.int .i64)) {z : Value} (hz : (zeroValue E).run P w = .ok z w)
    {b : Nat} {f : Int → Option Value} (h : MapI w b f) (n : Int) :
    (Instr.lookup T (.map (some b)) (.int .i64 n) false).run P w = .ok ((f n).getD z) w := by
  obtain ⟨es, c, hb, hk, hf⟩ := h
  have := hf n
  simp only [Instr.lookup, Sem.run_bind, run_underlying hT, MapKept.run_getObj_map hb, Result.andThen, run_checkKey_int hK]
  cases hp : posI n es.toList 0 with
  | none => simp [hp] at this; simp [run_findKey_int hK hk, hp, hz, ← this, Result.andThen]
  | some x => obtain ⟨i, v⟩ := x; simp [hp] at this; simp [run_findKey_int hK hk, hp, ← this]

theorem St.mapN {b m : Nat} {f : Int → Option Int} {L : List As} {w : World} (h : St (mapNA b m f :: L) w) : MapN w b m f := by
  obtain ⟨F, G, h1, _⟩ := St.cons.1 h; exact h1.1

section
variable {P : Program} {n : Nat} {s : Sl} {L : List As} {d : Option Tmp} {ty : TypeId} {pos : String} {af : Array Edge} {T K E : TypeId}

theorem E_makeMap : Ef P n s L ⟨d, .makeMap T none, ty, pos, af, none⟩ (fun g : Nat => .map (some g)) (fun g => mapNA g 0 (fun _ => none) :: L) :=
  Ef_run (fun a w ha hw => by
    refine ⟨w.heap.size, w.alloc (.map #[] 0), ?_, hw.made ⟨(Below.refl _ _).alloc (Nat.le_refl _) _, fun k => k = w.heap.size, ⟨⟨MapI.made w, #[], 0, by show (w.heap.push _)[w.heap.size]? = _; simp, rfl⟩, fun _ => Iff.rfl⟩, fun k hk => by rw [hk]; exact Nat.le_refl _⟩⟩
    simp [execOp, Instr.makeMap, newObj]
    rfl)

theorem zero_int (w : World) : (zeroValue 3).run Try.prog w = .ok (.int .i64 0) w := by kernel_rfl

theorem Y_lookupN {b m : Nat} {f : Int → Option Int} {x y : Operand} {k : Int} (i : Nat) (hx : ev s x = some (.map (some b))) (hi : L[i]? = some (mapNA b m f)) (hy : ev s y = some (.int .i64 k))
    (hT : P.underlying T = some (.map K E)) (hK : P.underlying K = some (.int .i64)) (hz : ∀ w, (zeroValue E).run P w = .ok (.int .i64 0) w) :
    Yl P n s L ⟨d, .lookup T x y false, ty, pos, af, none⟩ (.int .i64 ((f k).getD 0)) :=
  Yl_mk fun a w ha hw => by
    have hM := (hw.pick i hi).mapN.1
    have := run_lookup_n hT hK (hz w) hM k
    simp only [execOp, ha.ev hx, ha.ev hy]
    rw [Sem.run_bind, this, Result.andThen_ok]
    cases f k <;> rfl

theorem Y_lenN {b m : Nat} {f : Int → Option Int} {x : Operand} (i : Nat) (hx : ev s x = some (.map (some b))) (hi : L[i]? = some (mapNA b m f)) (hT : P.underlying T = some (.map K E)) :
    Yl P n s L ⟨d, .call { callee := .builtin .len, args := #[x], argTypes := #[T] }, ty, pos, af, none⟩ (.int .i64 (m : Nat)) :=
  Yl_mk fun a w ha hw => by
    obtain ⟨es, c, hb, hs⟩ := (hw.pick i hi).mapN.2
    simp [execOp, resolve, invoke, builtin, Builtin.len_, ha.ev hx, underlying, hT, goInt, MapKept.run_getObj_map hb, hs]

theorem E_mapUpdate {b m : Nat} {f : Int → Option Int} {x y z : Operand} {k v : Int} (i : Nat) (hd : d = none) (hx : ev s x = some (.map (some b))) (hi : L[i]? = some (mapNA b m f)) (hy : ev s y = some (.int .i64 k)) (hz : ev s z = some (.int .i64 v))
    (hT : P.underlying T = some (.map K E)) (hK : P.underlying K = some (.int .i64)) :
    Ef P n s L ⟨d, .mapUpdate T x y z, ty, pos, af, none⟩ (fun _ : Unit => undef) (fun _ => mapNA b (if (f k).isSome then m else m + 1) (fun j => if j = k then some v else f j) :: L.eraseIdx i) :=
  Ef_skip hd fun a w ha hw => by
    have h0 := hw.pick i hi
    obtain ⟨o, h1, h2⟩ := run_mapUpdate_n (P := P) hT hK h0.mapN k v
    refine ⟨_, ?_, h0.step fun F hF => ⟨F, ⟨h2, hF.2⟩, ?_, fun k hk => .inl hk⟩⟩
    · simp only [execOp, ha.ev hx, ha.ev hy, ha.ev hz]
      rw [Sem.run_bind, h1, Result.andThen_ok]; rfl
    · exact ⟨rfl, rfl, rfl, by show _ ≤ (w.heap.setIfInBounds b o).size; simp, fun k hk hF' => by
        have hkb : b ≠ k := fun e => hF' ((hF.2 k).2 e.symm)
        show (w.heap.setIfInBounds b o)[k]? = _
        simp [Array.getElem?_setIfInBounds, hkb]⟩
end
attribute [irreducible] mapNA
end Go.Proofs.Ytbeolkjegipldaa
