/- Package lex's small functions by their plain ones. No condition. -/
import Derived.Test.YtaonmhegnnpgaaaDoorProg
import Derived.Test.YtaonmhegnnpgaaaDoorLexP
import Derived.WalkKit
import Derived.Outline
import Derived.KernelRfl
import Derived.WalkSpells
import Derived.WalkLawsBesides
import Derived.LoopTactic
import Derived.Deep.Light
import Derived.Lib.Hide
import Derived.Lib.OthersKept
namespace Go.Proofs.YtaonmhegnnpgaaaDoor
open Go Go.RowKit

theorem lexret_bool {a b : Bool} (h : a = b) : Ending.returned (.bool a) = .returned (.bool b) := by rw [h]

theorem digit_calls (c : Nat) (w : World) (h : c ≤ 2147483647) :
    Calls Tryd.prog 18 #[.int .i32 (c : Int)] w fun e w' => e = .returned (.bool (digitB c)) ∧ w = w' := by
  go_enter Tryd.func18, Tryd.ntmps18
  go_wp2
  all_goals go_ret
  all_goals go_light
  all_goals refine ⟨lexret_bool ?_, rfl⟩
  all_goals (rw [Bool.eq_iff_iff]; simp [digitB] at *; try omega)

theorem blank_calls (c : Nat) (w : World) (h : c ≤ 2147483647) :
    Calls Tryd.prog 14 #[.int .i32 (c : Int)] w fun e w' => e = .returned (.bool (blankB c)) ∧ w = w' := by
  go_enter Tryd.func14, Tryd.ntmps14
  go_wp2
  all_goals go_ret
  all_goals go_light
  all_goals refine ⟨lexret_bool ?_, rfl⟩
  all_goals (rw [Bool.eq_iff_iff]; simp [blankB] at *; try omega)

theorem letter_calls (c : Nat) (w : World) (h : c ≤ 2147483647) :
    Calls Tryd.prog 16 #[.int .i32 (c : Int)] w fun e w' => e = .returned (.bool (letterB c)) ∧ w = w' := by
  go_enter Tryd.func16, Tryd.ntmps16
  go_wp2
  all_goals go_ret
  all_goals go_light
  all_goals refine ⟨lexret_bool ?_, rfl⟩
  all_goals (rw [Bool.eq_iff_iff]; simp [letterB] at *; try omega)
end Go.Proofs.YtaonmhegnnpgaaaDoor
