/- The walk's rules: a region that draws its order, by a tree of schedules. -/
import Derived.Test.YtbeolkjegipldaaEng4
import Derived.Test.YtbeolkjegipldaaTree
namespace Go.Proofs.Ytbeolkjegipldaa
open Go.RowKit

section
variable {P : Program} {n : Nat} {Q : Exit → Act → World → Prop} {s : Sl} {L L0 : List As} {all : List Oper} {brk : List Nat} {t1 t2 t3 : Tr}

def XD (P : Program) (n : Nat) (Q : Exit → Act → World → Prop) (all : List Oper) (brk : List Nat) (L0 : List As) (t : Tr) (s : Sl) (L : List As) : Prop :=
  ∀ a w, Rp n s a → St L w → wpT P all.toArray Q (St L0) (fun j => brk.contains j) t a w
/-- Operation i, and then.. -/
def XO (P : Program) (n : Nat) (Q : Exit → Act → World → Prop) (all : List Oper) (brk : List Nat) (L0 : List As) (i : Nat) (t : Tr) (s : Sl) (L : List As) : Prop :=
  ∀ a w, Rp n s a → St L w → wpOp P all.toArray Q i (fun a' w' => (brk.contains i = false → St L0 w → St L0 w') ∧ wpT P all.toArray Q (St L0) (fun j => brk.contains j) t a' w') a w

theorem XC_draw {id : Nat} {fn : Func} {R : Ending → World → Prop} {ks : List Fr} {l : List Oper} (brk : List Nat) (t : Tr) (hm : P.follows .mixedOrders = true)
    (hB : (Region.noSelect l.toArray && (brk.all fun j => decide (j < l.toArray.size)) && treeB .any l.toArray (fun j => brk.contains j) l.toArray.size t l.toArray.size (Array.replicate l.toArray.size false)) = true)
    (h : XD P n (den P ks (bodyPost P fn R)) l brk L t s L) : XC P n (.region id l.toArray true) (den P ks (bodyPost P fn R)) s L := fun a w ha hw =>
  wp_region_tree (St L) brk t hm hB (fun dst v c a w h => den_panic dst v c a w ks h) (h a _ ha hw.drew)

theorem XD_nil (h : XN n Q .normal s L) : XD P n Q all brk L0 .nil s L := fun a w ha hw => h a w ha hw
theorem XD_act {i : Nat} (h : XO P n Q all brk L0 i t1 s L) : XD P n Q all brk L0 (.act i t1) s L := fun a w ha hw => h a w ha hw
theorem XD_two {i j : Nat} (h1 : XO P n Q all brk L0 i t1 s L) (h2 : XO P n Q all brk L0 j t2 s L) : XD P n Q all brk L0 (.two i t1 j t2) s L := fun a w ha hw => ⟨h1 a w ha hw, h2 a w ha hw⟩
theorem XD_three {i j k : Nat} (h1 : XO P n Q all brk L0 i t1 s L) (h2 : XO P n Q all brk L0 j t2 s L) (h3 : XO P n Q all brk L0 k t3 s L) : XD P n Q all brk L0 (.three i t1 j t2 k t3) s L := fun a w ha hw => ⟨h1 a w ha hw, h2 a w ha hw, h3 a w ha hw⟩

theorem XD_y {i : Nat} {d : Option Tmp} {op : Op} {ty : TypeId} {pos : String} {af : Array Edge} {v : Value} (ho : all[i]? = some ⟨d, op, ty, pos, af, none⟩) (hv : Yl P n s L0 ⟨d, op, ty, pos, af, none⟩ v) (hd : okD n d = true) (hL : ∀ w, St L w → St L0 w) (h : XD P n Q all brk L0 t1 (putS d v s) L) :
    XD P n Q all brk L0 (.take i t1) s L := fun a w ha hw => by
  refine ⟨hL w hw, _, v, by simpa using ho, .inl ⟨by simp [Region.wanted], fun w' hS => ?_⟩, h _ w (ha.put hd v) hw⟩
  unfold Yl at hv
  exact hv a w' ha hS

theorem XD_yY {i j : Nat} {want : Bool} {t : Tmp} {d : Option Tmp} {op : Op} {ty : TypeId} {pos : String} {af : Array Edge} {v : Value} (ho : all[i]? = some ⟨d, op, ty, pos, af, some (j, want)⟩) (hj : (all[j]?).bind (·.dst) = some t) (hb : gt s t = some (.bool want)) (hv : Yl P n s L0 ⟨d, op, ty, pos, af, none⟩ v) (hd : okD n d = true) (hL : ∀ w, St L w → St L0 w) (h : XD P n Q all brk L0 t1 (putS d v s) L) :
    XD P n Q all brk L0 (.take i t1) s L := fun a w ha hw => by
  have hy : yielded all.toArray a.tmps j = some want := by
    unfold yielded
    simp only [List.getElem?_toArray, hj, Option.bind_some, ha.at_ t _ hb]
  refine ⟨hL w hw, ⟨d, op, ty, pos, af, some (j, want)⟩, v, by simpa using ho, .inl ⟨?_, fun w' hS => ?_⟩, h _ w (ha.put hd v) hw⟩
  · simp only [Region.wanted, hy]; cases want <;> rfl
  · unfold Yl at hv
    exact hv a w' ha hS

theorem XD_yN {i j : Nat} {want b : Bool} {t : Tmp} {d : Option Tmp} {op : Op} {ty : TypeId} {pos : String} {af : Array Edge} (ho : all[i]? = some ⟨d, op, ty, pos, af, some (j, want)⟩) (hj : (all[j]?).bind (·.dst) = some t) (hb : gt s t = some (.bool b)) (hne : b = !want) (hd : okD n d = true) (hL : ∀ w, St L w → St L0 w) (h : XD P n Q all brk L0 t1 (putS d undef s) L) :
    XD P n Q all brk L0 (.take i t1) s L := fun a w ha hw => by
  have hy : yielded all.toArray a.tmps j = some b := by
    unfold yielded
    simp only [List.getElem?_toArray, hj, Option.bind_some, ha.at_ t _ hb]
  refine ⟨hL w hw, ⟨d, op, ty, pos, af, some (j, want)⟩, undef, by simpa using ho, .inr ⟨?_, rfl⟩, h _ w (ha.put hd undef) hw⟩
  simp only [Region.wanted, hy, hne]; cases want <;> rfl

/-- A guard's slot told to be one or the other. -/
theorem XD_split {i j : Nat} {want b : Bool} {t : Tmp} {d : Option Tmp} {op : Op} {ty : TypeId} {pos : String} {af : Array Edge} (ho : all[i]? = some ⟨d, op, ty, pos, af, some (j, want)⟩) (hj : (all[j]?).bind (·.dst) = some t) (hb : gt s t = some (.bool b)) (h1 : b = true → XD P n Q all brk L0 (.take i t1) ((t, .bool true) :: s) L) (h2 : b = false → XD P n Q all brk L0 (.take i t1) ((t, .bool false) :: s) L) : XD P n Q all brk L0 (.take i t1) s L := fun a w ha hw => by
  have hst : ∀ c, b = c → Rp n ((t, .bool c) :: s) a := fun c hc => ⟨ha.defers, ha.size, fun u v hu => by
    simp only [gt] at hu
    split at hu
    · rename_i e
      have e := Nat.eq_of_beq_eq_true e
      subst e
      obtain rfl := Option.some.inj hu
      rw [← hc]; exact ha.at_ t _ hb
    · exact ha.at_ u v hu⟩
  cases hbb : b with
  | true => exact h1 hbb a w (hst _ hbb) hw
  | false => exact h2 hbb a w (hst _ hbb) hw
theorem XD_splitD {i j : Nat} {want : Bool} {p : Prop} {ip : Decidable p} {t : Tmp} {d : Option Tmp} {op : Op} {ty : TypeId} {pos : String} {af : Array Edge} (ho : all[i]? = some ⟨d, op, ty, pos, af, some (j, want)⟩) (hj : (all[j]?).bind (·.dst) = some t) (hb : gt s t = some (.bool (decide p))) (h1 : p → XD P n Q all brk L0 (.take i t1) ((t, .bool true) :: s) L) (h2 : ¬ p → XD P n Q all brk L0 (.take i t1) ((t, .bool false) :: s) L) : XD P n Q all brk L0 (.take i t1) s L :=
  XD_split ho hj hb (fun h => h1 (of_decide_eq_true h)) (fun h => h2 (of_decide_eq_false h))

theorem XO_e {ι : Type} {i : Nat} {d : Option Tmp} {op : Op} {ty : TypeId} {pos : String} {af : Array Edge} {v : ι → Value} {L' : ι → List As} (ho : all[i]? = some ⟨d, op, ty, pos, af, none⟩) (hE : Ef P n s L ⟨d, op, ty, pos, af, none⟩ v L') (hd : okD n d = true) (hk : brk.contains i = true ∨ ∀ x w', St (L' x) w' → St L0 w') (h : ∀ x, XD P n Q all brk L0 t1 (putS d (v x) s) (L' x)) :
    XO P n Q all brk L0 i t1 s L := fun a w ha hw => by
  refine wpT_act (o := ⟨d, op, ty, pos, af, none⟩) (by simpa using ho) (fun K hK => ?_)
  rw [if_pos (by simp [Region.wanted])]
  unfold Ef at hE
  refine hE a w K Q ha hw fun x w' hst => hK _ w' ⟨fun hb _ => ?_, h x _ w' (ha.put hd _) hst⟩
  rcases hk with hk | hk
  · rw [hk] at hb; cases hb
  · exact hk x w' hst

theorem XO_eY {ι : Type} {i j : Nat} {want : Bool} {t : Tmp} {d : Option Tmp} {op : Op} {ty : TypeId} {pos : String} {af : Array Edge} {v : ι → Value} {L' : ι → List As} (ho : all[i]? = some ⟨d, op, ty, pos, af, some (j, want)⟩) (hj : (all[j]?).bind (·.dst) = some t) (hb : gt s t = some (.bool want)) (hE : Ef P n s L ⟨d, op, ty, pos, af, none⟩ v L') (hd : okD n d = true) (hk : brk.contains i = true ∨ ∀ x w', St (L' x) w' → St L0 w') (h : ∀ x, XD P n Q all brk L0 t1 (putS d (v x) s) (L' x)) :
    XO P n Q all brk L0 i t1 s L := fun a w ha hw => by
  have hy : yielded all.toArray a.tmps j = some want := by
    unfold yielded
    simp only [List.getElem?_toArray, hj, Option.bind_some, ha.at_ t _ hb]
  refine wpT_act (o := ⟨d, op, ty, pos, af, some (j, want)⟩) (by simpa using ho) (fun K hK => ?_)
  rw [if_pos (by simp only [Region.wanted, hy]; cases want <;> rfl)]
  unfold Ef at hE
  have := hE a w K Q ha hw fun x w' hst => hK _ w' ⟨fun hb _ => ?_, h x _ w' (ha.put hd _) hst⟩
  · exact this
  · rcases hk with hk | hk
    · rw [hk] at hb; cases hb
    · exact hk x w' hst
theorem XO_eN {i j : Nat} {want b : Bool} {t : Tmp} {d : Option Tmp} {op : Op} {ty : TypeId} {pos : String} {af : Array Edge} (ho : all[i]? = some ⟨d, op, ty, pos, af, some (j, want)⟩) (hj : (all[j]?).bind (·.dst) = some t) (hb : gt s t = some (.bool b)) (hne : b = !want) (hd : okD n d = true) (h : XD P n Q all brk L0 t1 (putS d undef s) L) :
    XO P n Q all brk L0 i t1 s L := fun a w ha hw => by
  have hy : yielded all.toArray a.tmps j = some b := by
    unfold yielded
    simp only [List.getElem?_toArray, hj, Option.bind_some, ha.at_ t _ hb]
  refine wpT_act (o := ⟨d, op, ty, pos, af, some (j, want)⟩) (by simpa using ho) (fun K hK => ?_)
  rw [if_neg (by simp only [Region.wanted, hy, hne]; cases want <;> simp)]
  exact hK _ w ⟨fun _ h => h, h _ w (ha.put hd undef) hw⟩

end
attribute [irreducible] XD XO
end Go.Proofs.Ytbeolkjegipldaa
