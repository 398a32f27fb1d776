/- Contracts of the reader's small methods, further ones. No condition. -/
import Derived.Test.YtaonmhegnnpgaaaDoorRd
namespace Go.Proofs.YtaonmhegnnpgaaaDoor
open Go Go.RowKit

theorem ret_bool {a b : Bool} (h : a = b) : Ending.returned (.bool a) = .returned (.bool b) := by rw [h]

theorem has_calls (r : Nat) (L : List Tok) (s : ByteArray) (en d : Int) (w : World) (h : Rd w r L en d) :
    Calls Tryd.prog 41 #[.pointer (some ⟨r, 0, none⟩), .string s] w fun e w' => e = .returned (.bool (hasB L s)) ∧ Rd w' r (after L (hasB L s)) en d ∧ Kp r w w' := by
  go_enter Tryd.func41, Tryd.ntmps41
  go_wp2_with fail
  refine (next_calls r L en d w h).mono ?_
  rintro e w1 ⟨rfl, hb1⟩
  have h1 := h.below hb1
  have hk1 := (Kp.refl r w).below hb1
  cases L with
  | nil =>
    simp only [nextT]
    go_wp2_with fail
    go_ret
    exact ⟨rfl, h1.alloc _, hk1.alloc _⟩
  | cons t L =>
    simp only [nextT]
    go_wp2_with fail
    all_goals first
      | (refine (take_calls r t L en d _ (h1.alloc _)).mono ?_
         rintro e w2 ⟨rfl, h2, hk2⟩
         go_wp2_with fail
         go_ret
         refine ⟨ret_bool (by simp [hasB, *]), ?_, (hk1.alloc _).trans hk2⟩
         have hq : hasB (t :: L) s = true := by simp [hasB, *]
         rw [hq]
         exact h2)
      | (go_ret
         have hq : hasB (t :: L) s = false := by simp [hasB, *]
         rw [hq]
         exact ⟨ret_bool (by simp [*]), h1.alloc _, hk1.alloc _⟩)
end Go.Proofs.YtaonmhegnnpgaaaDoor
