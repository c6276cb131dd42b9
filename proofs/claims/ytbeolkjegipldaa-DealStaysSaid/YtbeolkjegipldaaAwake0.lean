/- awake: what the model makes of its calls. -/
import Derived.Test.YtbeolkjegipldaaRead
namespace Go.Proofs.Ytbeolkjegipldaa
open Go.RowKit DL

def awD : Dl := ⟨7, 0, 1, 0, 1, 100, 80⟩
def awM : Dl := ⟨7, 1, 0, 1, 0, 80, 100⟩
def awB (k : Int) (l : List En) : Bk := ⟨3, 2, l, k⟩

theorem aw_submit1 : (awB 0 []).submit awD = (awB 0 [⟨awD, 1, 0, 0⟩], false, 0) := by rfl
theorem aw_submit2 : (awB 0 [⟨awD, 1, 0, 0⟩]).submit awD = (awB 0 [⟨awD, 1, 0, 0⟩], false, 6) := by rfl
theorem aw_submit3 : (awB 0 [⟨awD, 1, 0, 0⟩]).submit awM = (awB 1 [⟨awD, 2, 0, 1⟩], true, 0) := by rfl
theorem aw_rescind : (awB 1 [⟨awD, 2, 0, 1⟩]).rescind 1 7 = (awB 1 [⟨awD, 2, 2, 1⟩], 2, 0) := by rfl
theorem aw_settle : (awB 1 [⟨awD, 2, 2, 1⟩]).settle 7 = (awB 1 [⟨awD, 3, 2, 1⟩], 0) := by rfl
theorem aw_deal : (awB 1 [⟨awD, 3, 2, 1⟩]).deal 7 = (awD, true) := by rfl
theorem aw_rescind2 : (awB 1 [⟨awD, 3, 2, 1⟩]).rescind 0 7 = (awB 1 [⟨awD, 3, 2, 1⟩], 0, 7) := by rfl
theorem aw_state7 : (awB 1 [⟨awD, 3, 2, 1⟩]).state 7 = 3 := by rfl
theorem aw_state8 : (awB 1 [⟨awD, 3, 2, 1⟩]).state 8 = 0 := by rfl
theorem aw_all : (awB 1 [⟨awD, 3, 2, 1⟩]).all 3 = [7] := by rfl
theorem aw_remove : (awB 1 [⟨awD, 3, 2, 1⟩]).remove 0 = (awB 1 [⟨awD, 3, 2, 1⟩], []) := by rfl

theorem aw_text : bytesOf (awB 1 [⟨awD, 3, 2, 1⟩]).text = [0, 1, 0, 0, 0, 7, 0, 1, 0, 1, 0, 0, 0, 0, 0, 0, 0, 100, 0, 0, 0, 0, 0, 0, 0, 80, 3, 2, 0, 1] := by kernel_rfl
def awBytes : List UInt8 := [0, 1, 0, 0, 0, 7, 0, 1, 0, 1, 0, 0, 0, 0, 0, 0, 0, 100, 0, 0, 0, 0, 0, 0, 0, 80, 3, 2, 0, 1]
theorem aw_read2 : readM (strOf (awB 1 [⟨awD, 3, 2, 1⟩]).text).data.toList 3 2 = some (awB 1 [⟨awD, 3, 2, 1⟩]) := by kernel_rfl
theorem aw_fit : ∀ e ∈ (awB 1 [⟨awD, 3, 2, 1⟩]).l, FitE e := by
  intro e he i
  have he : e = ⟨awD, 3, 2, 1⟩ := by simpa [awB] using he
  subst he
  match i with
  | 0 | 1 | 2 | 3 | 4 | 5 | 6 | 7 | 8 | 9 => exact ⟨by decide, by decide⟩
  | i + 10 => simp [flds, InI64]
theorem aw_read : (readM [0, 1, 0, 0, 0, 7, 0, 1, 0, 1, 0, 0, 0, 0, 0, 0, 0, 100, 0, 0, 0, 0, 0, 0, 0, 80, 3, 2, 0, 1] 3 2).map (fun B => (B.m, B.c, B.l, B.k)) = some (3, 2, [⟨awD, 3, 2, 1⟩], 1) := by kernel_rfl

end Go.Proofs.Ytbeolkjegipldaa
