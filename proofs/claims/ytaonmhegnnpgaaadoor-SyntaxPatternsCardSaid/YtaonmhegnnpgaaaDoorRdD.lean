/- Contracts of the reader's name, named, number. No condition. -/
import Derived.Test.YtaonmhegnnpgaaaDoorRdC
namespace Go.Proofs.YtaonmhegnnpgaaaDoor
open Go Go.RowKit

section
variable (v0 v1 v2 v3 : Value) (w : World)
@[go_sem] theorem field_tok2 : (Instr.field 30 (.agg #[v0, v1, v2, v3]) 2).run Tryd.prog w = .ok v2 w := by kernel_rfl
end

def StrVal (s : ByteArray) (v : Value) (_ : World) : Prop := v = .string s
def IntVal (n : Int) (v : Value) (_ : World) : Prop := v = .int .i64 n

theorem name_calls (r : Nat) (L : List Tok) (en d : Int) (w : World) (h : Rd w r L en d) (res : Except (Int × Int) (ByteArray × List Tok)) (hres : nameR en L = some res) :
    Calls Tryd.prog 47 #[.pointer (some ⟨r, 0, none⟩)] w (Post r en d w StrVal res) := by
  go_enter Tryd.func47, Tryd.ntmps47
  go_wp2_with fail
  refine (next_calls r L en d w h).mono ?_
  rintro e w1 ⟨rfl, hb1⟩
  have h1 := h.below hb1
  have hk1 := (Kp.refl r w).below hb1
  cases L with
  | nil =>
    simp only [nextT]
    go_wp2_with fail
    refine (stop_calls r [] en d _ h1).mono ?_
    rintro e w2 ⟨rfl, hb2⟩
    simp only [gave]
    go_wp2_with fail
    cases hres
    exact ⟨rfl, rfl, hk1.below hb2⟩
  | cons t L =>
    simp only [nextT]
    by_cases hk : t.kind = 1
    · simp only [nameR, if_pos hk] at hres
      go_wp2_with fail
      refine (take_calls r t L en d _ h1).mono ?_
      rintro e w2 ⟨rfl, h2, hk2⟩
      go_wp2_with fail
      go_ret
      cases hres
      exact ⟨_, rfl, rfl, h2, hk1.trans hk2⟩
    · simp only [nameR, if_neg hk] at hres
      go_wp2_with fail
      refine (stop_calls r (t :: L) en d _ h1).mono ?_
      rintro e w2 ⟨rfl, hb2⟩
      simp only [gave]
      go_wp2_with fail
      cases hres
      exact ⟨rfl, rfl, hk1.below hb2⟩

theorem number_calls (r : Nat) (L : List Tok) (en d least most : Int) (w : World) (h : Rd w r L en d) (res : Except (Int × Int) (Int × List Tok)) (hres : numberR en least most L = some res) :
    Calls Tryd.prog 48 #[.pointer (some ⟨r, 0, none⟩), .int .i64 least, .int .i64 most] w (Post r en d w IntVal res) := by
  go_enter Tryd.func48, Tryd.ntmps48
  go_wp2_with fail
  refine (next_calls r L en d w h).mono ?_
  rintro e w1 ⟨rfl, hb1⟩
  have h1 := h.below hb1
  have hk1 := (Kp.refl r w).below hb1
  cases L with
  | nil =>
    simp only [nextT]
    go_wp2_with fail
    refine (stop_calls r [] en d _ (h1.alloc _)).mono ?_
    rintro e w2 ⟨rfl, hb2⟩
    simp only [gave]
    go_wp2_with fail
    cases hres
    exact ⟨rfl, rfl, (hk1.alloc _).below hb2⟩
  | cons t L =>
    simp only [nextT]
    go_wp2_with fail
    all_goals first
      | (refine (take_calls r t L en d _ (h1.alloc _)).mono ?_
         rintro e w2 ⟨rfl, h2, hk2⟩
         go_wp2_with fail
         go_ret
         rw [numberR, if_pos (by omega)] at hres
         cases hres
         exact ⟨_, rfl, rfl, h2, (hk1.alloc _).trans hk2⟩)
      | (refine (stop_calls r (t :: L) en d _ (h1.alloc _)).mono ?_
         rintro e w2 ⟨rfl, hb2⟩
         simp only [gave]
         go_wp2_with fail
         rw [numberR, if_neg (by omega)] at hres
         cases hres
         exact ⟨rfl, rfl, (hk1.alloc _).below hb2⟩)
end Go.Proofs.YtaonmhegnnpgaaaDoor
