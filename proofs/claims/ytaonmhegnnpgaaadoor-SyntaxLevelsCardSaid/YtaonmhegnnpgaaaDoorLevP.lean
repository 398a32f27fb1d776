/- The plain law of SyntaxLevels. No condition. -/
import Derived.Test.YtaonmhegnnpgaaaDoorReb
namespace Go.Proofs.YtaonmhegnnpgaaaDoor
open Go

def lvSigns : List ByteArray := [⟨#[32, 79, 82, 32]⟩, ⟨#[32, 65, 78, 68, 32]⟩, ⟨#[32, 61, 32]⟩, ⟨#[32, 60, 32]⟩, ⟨#[32, 43, 32]⟩, ⟨#[32, 45, 32]⟩, ⟨#[32, 42, 32]⟩, ⟨#[32, 47, 32]⟩, ⟨#[32, 37, 32]⟩]
def lvOps : List Int := [4, 5, 6, 8, 12, 13, 14, 15, 16]
def lvLevels : List Int := [1, 2, 4, 4, 5, 5, 6, 6, 6]
def lvText (a b : ByteArray) : List UInt8 := [112] ++ a.data.toList ++ [113] ++ b.data.toList ++ [114]
def lvVar (c : UInt8) : Ex := .mk 2 [] ⟨#[c]⟩ emp vl0
/-- What comes of three parts with two signs between. -/
def lvRes (i k : Nat) : Except (Int × Int) Ex :=
  if lvLevels.getD i 0 = 4 ∧ lvLevels.getD k 0 = 4 then .error (6, 81)
  else if lvLevels.getD i 0 < lvLevels.getD k 0 then .ok (two (lvOps.getD i 0) (lvVar 112) (two (lvOps.getD k 0) (lvVar 113) (lvVar 114)))
  else .ok (two (lvOps.getD k 0) (two (lvOps.getD i 0) (lvVar 112) (lvVar 113)) (lvVar 114))
def lvRead (i k : Nat) : Prop := readR (fun en L => parse en 100 .expr 0 L) (lvText (lvSigns.getD i emp) (lvSigns.getD k emp)) = some (lvRes i k)
theorem lv_0 : lvRead 0 0 ∧ lvRead 0 1 ∧ lvRead 0 2 ∧ lvRead 0 3 ∧ lvRead 0 4 ∧ lvRead 0 5 ∧ lvRead 0 6 ∧ lvRead 0 7 ∧ lvRead 0 8 := ⟨by unfold lvRead; kernel_rfl, by unfold lvRead; kernel_rfl, by unfold lvRead; kernel_rfl, by unfold lvRead; kernel_rfl, by unfold lvRead; kernel_rfl, by unfold lvRead; kernel_rfl, by unfold lvRead; kernel_rfl, by unfold lvRead; kernel_rfl, by unfold lvRead; kernel_rfl⟩
theorem lv_1 : lvRead 1 0 ∧ lvRead 1 1 ∧ lvRead 1 2 ∧ lvRead 1 3 ∧ lvRead 1 4 ∧ lvRead 1 5 ∧ lvRead 1 6 ∧ lvRead 1 7 ∧ lvRead 1 8 := ⟨by unfold lvRead; kernel_rfl, by unfold lvRead; kernel_rfl, by unfold lvRead; kernel_rfl, by unfold lvRead; kernel_rfl, by unfold lvRead; kernel_rfl, by unfold lvRead; kernel_rfl, by unfold lvRead; kernel_rfl, by unfold lvRead; kernel_rfl, by unfold lvRead; kernel_rfl⟩
theorem lv_2 : lvRead 2 0 ∧ lvRead 2 1 ∧ lvRead 2 2 ∧ lvRead 2 3 ∧ lvRead 2 4 ∧ lvRead 2 5 ∧ lvRead 2 6 ∧ lvRead 2 7 ∧ lvRead 2 8 := ⟨by unfold lvRead; kernel_rfl, by unfold lvRead; kernel_rfl, by unfold lvRead; kernel_rfl, by unfold lvRead; kernel_rfl, by unfold lvRead; kernel_rfl, by unfold lvRead; kernel_rfl, by unfold lvRead; kernel_rfl, by unfold lvRead; kernel_rfl, by unfold lvRead; kernel_rfl⟩
theorem lv_3 : lvRead 3 0 ∧ lvRead 3 1 ∧ lvRead 3 2 ∧ lvRead 3 3 ∧ lvRead 3 4 ∧ lvRead 3 5 ∧ lvRead 3 6 ∧ lvRead 3 7 ∧ lvRead 3 8 := ⟨by unfold lvRead; kernel_rfl, by unfold lvRead; kernel_rfl, by unfold lvRead; kernel_rfl, by unfold lvRead; kernel_rfl, by unfold lvRead; kernel_rfl, by unfold lvRead; kernel_rfl, by unfold lvRead; kernel_rfl, by unfold lvRead; kernel_rfl, by unfold lvRead; kernel_rfl⟩
theorem lv_4 : lvRead 4 0 ∧ lvRead 4 1 ∧ lvRead 4 2 ∧ lvRead 4 3 ∧ lvRead 4 4 ∧ lvRead 4 5 ∧ lvRead 4 6 ∧ lvRead 4 7 ∧ lvRead 4 8 := ⟨by unfold lvRead; kernel_rfl, by unfold lvRead; kernel_rfl, by unfold lvRead; kernel_rfl, by unfold lvRead; kernel_rfl, by unfold lvRead; kernel_rfl, by unfold lvRead; kernel_rfl, by unfold lvRead; kernel_rfl, by unfold lvRead; kernel_rfl, by unfold lvRead; kernel_rfl⟩
theorem lv_5 : lvRead 5 0 ∧ lvRead 5 1 ∧ lvRead 5 2 ∧ lvRead 5 3 ∧ lvRead 5 4 ∧ lvRead 5 5 ∧ lvRead 5 6 ∧ lvRead 5 7 ∧ lvRead 5 8 := ⟨by unfold lvRead; kernel_rfl, by unfold lvRead; kernel_rfl, by unfold lvRead; kernel_rfl, by unfold lvRead; kernel_rfl, by unfold lvRead; kernel_rfl, by unfold lvRead; kernel_rfl, by unfold lvRead; kernel_rfl, by unfold lvRead; kernel_rfl, by unfold lvRead; kernel_rfl⟩
theorem lv_6 : lvRead 6 0 ∧ lvRead 6 1 ∧ lvRead 6 2 ∧ lvRead 6 3 ∧ lvRead 6 4 ∧ lvRead 6 5 ∧ lvRead 6 6 ∧ lvRead 6 7 ∧ lvRead 6 8 := ⟨by unfold lvRead; kernel_rfl, by unfold lvRead; kernel_rfl, by unfold lvRead; kernel_rfl, by unfold lvRead; kernel_rfl, by unfold lvRead; kernel_rfl, by unfold lvRead; kernel_rfl, by unfold lvRead; kernel_rfl, by unfold lvRead; kernel_rfl, by unfold lvRead; kernel_rfl⟩
theorem lv_7 : lvRead 7 0 ∧ lvRead 7 1 ∧ lvRead 7 2 ∧ lvRead 7 3 ∧ lvRead 7 4 ∧ lvRead 7 5 ∧ lvRead 7 6 ∧ lvRead 7 7 ∧ lvRead 7 8 := ⟨by unfold lvRead; kernel_rfl, by unfold lvRead; kernel_rfl, by unfold lvRead; kernel_rfl, by unfold lvRead; kernel_rfl, by unfold lvRead; kernel_rfl, by unfold lvRead; kernel_rfl, by unfold lvRead; kernel_rfl, by unfold lvRead; kernel_rfl, by unfold lvRead; kernel_rfl⟩
theorem lv_8 : lvRead 8 0 ∧ lvRead 8 1 ∧ lvRead 8 2 ∧ lvRead 8 3 ∧ lvRead 8 4 ∧ lvRead 8 5 ∧ lvRead 8 6 ∧ lvRead 8 7 ∧ lvRead 8 8 := ⟨by unfold lvRead; kernel_rfl, by unfold lvRead; kernel_rfl, by unfold lvRead; kernel_rfl, by unfold lvRead; kernel_rfl, by unfold lvRead; kernel_rfl, by unfold lvRead; kernel_rfl, by unfold lvRead; kernel_rfl, by unfold lvRead; kernel_rfl, by unfold lvRead; kernel_rfl⟩
theorem lv_all (i k : Nat) (hi : i < 9) (hk : k < 9) : lvRead i k := by
  have hi' : i = 0 ∨ i = 1 ∨ i = 2 ∨ i = 3 ∨ i = 4 ∨ i = 5 ∨ i = 6 ∨ i = 7 ∨ i = 8 := by omega
  have hk' : k = 0 ∨ k = 1 ∨ k = 2 ∨ k = 3 ∨ k = 4 ∨ k = 5 ∨ k = 6 ∨ k = 7 ∨ k = 8 := by omega
  rcases hi' with rfl | rfl | rfl | rfl | rfl | rfl | rfl | rfl | rfl
  · obtain ⟨h0, h1, h2, h3, h4, h5, h6, h7, h8⟩ := lv_0
    rcases hk' with rfl | rfl | rfl | rfl | rfl | rfl | rfl | rfl | rfl
    · exact h0
    · exact h1
    · exact h2
    · exact h3
    · exact h4
    · exact h5
    · exact h6
    · exact h7
    · exact h8
  · obtain ⟨h0, h1, h2, h3, h4, h5, h6, h7, h8⟩ := lv_1
    rcases hk' with rfl | rfl | rfl | rfl | rfl | rfl | rfl | rfl | rfl
    · exact h0
    · exact h1
    · exact h2
    · exact h3
    · exact h4
    · exact h5
    · exact h6
    · exact h7
    · exact h8
  · obtain ⟨h0, h1, h2, h3, h4, h5, h6, h7, h8⟩ := lv_2
    rcases hk' with rfl | rfl | rfl | rfl | rfl | rfl | rfl | rfl | rfl
    · exact h0
    · exact h1
    · exact h2
    · exact h3
    · exact h4
    · exact h5
    · exact h6
    · exact h7
    · exact h8
  · obtain ⟨h0, h1, h2, h3, h4, h5, h6, h7, h8⟩ := lv_3
    rcases hk' with rfl | rfl | rfl | rfl | rfl | rfl | rfl | rfl | rfl
    · exact h0
    · exact h1
    · exact h2
    · exact h3
    · exact h4
    · exact h5
    · exact h6
    · exact h7
    · exact h8
  · obtain ⟨h0, h1, h2, h3, h4, h5, h6, h7, h8⟩ := lv_4
    rcases hk' with rfl | rfl | rfl | rfl | rfl | rfl | rfl | rfl | rfl
    · exact h0
    · exact h1
    · exact h2
    · exact h3
    · exact h4
    · exact h5
    · exact h6
    · exact h7
    · exact h8
  · obtain ⟨h0, h1, h2, h3, h4, h5, h6, h7, h8⟩ := lv_5
    rcases hk' with rfl | rfl | rfl | rfl | rfl | rfl | rfl | rfl | rfl
    · exact h0
    · exact h1
    · exact h2
    · exact h3
    · exact h4
    · exact h5
    · exact h6
    · exact h7
    · exact h8
  · obtain ⟨h0, h1, h2, h3, h4, h5, h6, h7, h8⟩ := lv_6
    rcases hk' with rfl | rfl | rfl | rfl | rfl | rfl | rfl | rfl | rfl
    · exact h0
    · exact h1
    · exact h2
    · exact h3
    · exact h4
    · exact h5
    · exact h6
    · exact h7
    · exact h8
  · obtain ⟨h0, h1, h2, h3, h4, h5, h6, h7, h8⟩ := lv_7
    rcases hk' with rfl | rfl | rfl | rfl | rfl | rfl | rfl | rfl | rfl
    · exact h0
    · exact h1
    · exact h2
    · exact h3
    · exact h4
    · exact h5
    · exact h6
    · exact h7
    · exact h8
  · obtain ⟨h0, h1, h2, h3, h4, h5, h6, h7, h8⟩ := lv_8
    rcases hk' with rfl | rfl | rfl | rfl | rfl | rfl | rfl | rfl | rfl
    · exact h0
    · exact h1
    · exact h2
    · exact h3
    · exact h4
    · exact h5
    · exact h6
    · exact h7
    · exact h8
end Go.Proofs.YtaonmhegnnpgaaaDoor
