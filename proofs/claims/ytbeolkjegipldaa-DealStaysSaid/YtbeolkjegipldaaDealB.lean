/- All: the comparing closure. -/
import Derived.Test.YtbeolkjegipldaaDealA
import Derived.Test.YtbeolkjegipldaaSortK
import Derived.Test.YtbeolkjegipldaaOrd
import Derived.Test.YtbeolkjegipldaaShelf
import Derived.Shelf.SlSortCmp.NoneTotal
namespace Go.Proofs.Ytbeolkjegipldaa
open Go.RowKit DL

instance : Inhabited En := ⟨En.zero⟩

def cmpE (x y : En) : Int := Lib.compareInt x.od y.od

theorem ltOf_cmpE (x y : En) : ltOf cmpE x y = decide (x.od < y.od) := by
  unfold ltOf cmpE Lib.compareInt
  congr 1
  apply propext
  split
  · simp_all
  · split <;> simp_all

theorem swo_cmpE : Go.Sort.SWO (ltOf cmpE) where
  irrefl x := by simp [ltOf_cmpE]
  trans x y z h1 h2 := by simp only [ltOf_cmpE, decide_eq_true_eq] at *; omega
  ntrans x y z h1 h2 := by simp only [ltOf_cmpE, decide_eq_false_iff_not] at *; omega

theorem grow_two (w : World) (o1 o2 : Obj) : ∃ q os', (w.alloc o1).alloc o2 = Go.Sort.grow (w.drewN q) os' :=
  ⟨0, #[o1, o2], by
    have e : w.drewN 0 = w := rfl
    rw [e]
    have e2 : (w.heap.push o1).push o2 = w.heap ++ #[o1, o2] := by
      apply Array.ext'
      simp
    show { w with heap := (w.heap.push o1).push o2 } = { w with heap := w.heap ++ #[o1, o2] }
    rw [e2]⟩

set_option maxHeartbeats 1000000 in
theorem closure_any (x y : En) (w : World) :
    Calls Try.prog 35 #[.agg x.cs.toArray, .agg y.cs.toArray] w (fun e w' => e = .returned (.int .i64 (cmpE x y)) ∧ ∃ q os', w' = Go.Sort.grow (w.drewN q) os') := by
  have hc := fun W => Try.cmp_Compare_int x.od y.od W
  obtain ⟨⟨xi, xa, xb, xs, xc, xl, xy⟩, xt, xk, xo⟩ := x
  obtain ⟨⟨yi, ya, yb, ys, yc, yl, yy⟩, yt, yk, yo⟩ := y
  simp only [cmpE, DL.En.cs] at hc ⊢
  go_enter Try.func35, Try.ntmps35
  go_wp2_with (go_at_call 36; go_must (refine (hc _).mono ?_; rintro e w2 ⟨rfl, rfl⟩))

  go_ret
  exact ⟨rfl, grow_two _ _ _⟩

/-- A slice of entries, made by the call. -/
def EntsNew (w0 w : World) (v : Value) (l : List En) : Prop := w.ownsRow w0.heap.size 65 10 v l.length (flatE l)

theorem perm_of_in {d d' : Array En} (h : Go.Sort.PermIn 0 d.size d d') : d'.toList.Perm d.toList := by
  obtain ⟨hs, _, hp⟩ := h
  have e1 : (d'.extract 0 d.size).toList = d'.toList := by rw [← hs]; simp
  have e2 : (d.extract 0 d.size).toList = d.toList := by simp
  rwa [e1, e2] at hp

theorem sorted_of_in {d d' : Array En} (hs : d'.size = d.size) (h : Go.Sort.SortedIn (ltOf cmpE) 0 d.size d') : d'.toList.Pairwise (fun a b => a.od ≤ b.od) := by
  rw [List.pairwise_iff_getElem]
  intro i j hi hj hij
  have h1 := h i j (Nat.zero_le _) hij (by rw [← hs]; simpa using hj)
  rw [ltOf_cmpE, decide_eq_false_iff_not] at h1
  rw [getElem!_pos d' i (by simpa using hi), getElem!_pos d' j (by simpa using hj)] at h1
  simp
  omega

def SortPost (w : World) (v : Value) (F : List En) (e : Ending) (w' : World) : Prop :=
  e = .returned (.tuple #[]) ∧ ∃ F' : List En, F'.length = F.length ∧ EntsNew w w' v F' ∧ F'.Perm F ∧ F'.Pairwise (fun a b => a.od ≤ b.od) ∧ Below w.heap.size w w'

theorem sort_ents {w wr : World} {v : Value} {F : List En} (hb : Below w.heap.size w wr) (hr : EntsNew w wr v F) (hsz : F.length ≤ 200) :
    Calls Try.prog 34 #[v, .func (.func 35) #[] #[]] wr (SortPost w v F) := by
  rcases hr.2 with ⟨rfl, h0⟩ | ⟨g, cap, cur, rfl, hgb, hg, hle, _, hs, ht⟩
  · have hn := AnyF.slices_SortFunc_none Try.laysSortFunc none 0 (.func (.func 35) #[] #[]) wr
    change Calls Try.prog 34 _ _ _ at hn
    refine hn.mono ?_
    rintro e w' ⟨rfl, rfl⟩
    have : F = [] := List.eq_nil_of_length_eq_zero h0
    subst this
    exact ⟨rfl, [], rfl, hr, .nil, .nil, hb⟩
  · have eg : ∀ args w, (callFunc 35 args).run Try.prog w = .ok (.enter 35 args) w := enters_of Try.func35 (by kernel_rfl) rfl
    have hk : ∀ x : En, x.cs.length = 10 := fun _ => rfl
    have hH := holdsK_of_row (En.cs) hk F rfl hr
    have hcmp : CmpLays Try.prog 35 #[] En.cs 10 cmpE g 0 F.toArray.size wr := fun m os dk _ x y => closure_any x y _
    have hcon := AnyQ.slices_SortFunc Try.laysSortFunc 10 Try.isAgg65 Try.sizeOf65 En.cs hk (fun x v hv => by simp [DL.En.cs] at hv; rcases hv with rfl | rfl | rfl | rfl | rfl | rfl | rfl | rfl | rfl | rfl <;> rfl) cmpE swo_cmpE 35 #[] g 0 cap F.toArray wr eg hcmp hH (lt_of_block hg) (by simp; omega)
    change Calls Try.prog 34 _ _ _ at hcon
    simp only [List.size_toArray] at hcon
    refine hcon.mono ?_
    rintro e w' ⟨rfl, d', n, os, hp, hso, rfl⟩
    have hds : d'.size = F.length := by simpa using hp.1
    have hpp := perm_of_in (d := F.toArray) (by simpa using hp)
    have hrow := row_of_sorted (m := n) (os := os) En.cs hk d' hds hr
    refine ⟨rfl, d'.toList, by simpa using hds, ?_, hpp, sorted_of_in (d := F.toArray) (by simpa using hds) (by simpa using hso), ?_⟩
    · show World.ownsRow _ _ _ _ _ d'.toList.length (flatE d'.toList)
      have e1 : d'.toList.length = F.length := by simpa using hds
      rw [e1]
      exact hrow
    · exact ((Keeps.of_below (F := fun _ => False) hb).trans (keeps_sorted wr En.cs 10 g n d' os) (fun j hj e => by omega)).below (fun k hk => ⟨hk, id⟩)

end Go.Proofs.Ytbeolkjegipldaa
