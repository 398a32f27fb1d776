/- Contracts of the reader's named and deeper. No condition. -/
import Derived.Test.YtaonmhegnnpgaaaDoorRdD
namespace Go.Proofs.YtaonmhegnnpgaaaDoor
open Go Go.RowKit

theorem named_calls (r : Nat) (L : List Tok) (s : ByteArray) (en d : Int) (w : World) (h : Rd w r L en d) (res : Except (Int × Int) (ByteArray × List Tok)) (hres : namedR en s L = some res) :
    Calls Tryd.prog 44 #[.pointer (some ⟨r, 0, none⟩), .string s] w (Post r en d w StrVal res) := by
  cases he : s.toList.isEmpty with
  | true =>
    have he0 : s.toList = [] := by simpa using he
    simp only [namedR, he, if_true] at hres
    clear he
    go_enter Tryd.func44, Tryd.ntmps44
    go_wp2_with fail
    refine (next_calls r L en d w h).mono ?_
    rintro e w1 ⟨rfl, hb1⟩
    have h1 := h.below hb1
    have hk1 := (Kp.refl r w).below hb1
    cases L with
    | nil =>
      simp only [nextT]
      go_wp2_with fail
      go_ret
      cases hres
      exact ⟨_, rfl, rfl, h1, hk1⟩
    | cons t L =>
      simp only [nextT]
      by_cases hk : t.kind = 1
      · simp only [if_pos hk] at hres
        go_wp2_with fail
        refine (name_calls r (t :: L) en d _ h1 res hres).mono ?_
        rintro e w2 hp
        rcases res with ⟨pos, code⟩ | ⟨nm, L'⟩
        · obtain ⟨rfl, hk2⟩ := hp
          simp only [gave]
          go_wp2_with fail
          exact ⟨rfl, rfl, hk1.trans hk2⟩
        · obtain ⟨v, rfl, rfl, h2, hk2⟩ := hp
          go_wp2_with fail
          go_ret
          exact ⟨_, rfl, rfl, h2, hk1.trans hk2⟩
      · simp only [if_neg hk] at hres
        go_wp2_with fail
        go_ret
        cases hres
        exact ⟨_, rfl, rfl, h1, hk1⟩
  | false =>
    simp only [namedR, he] at hres
    have he0 : ¬ s.toList = [] := by simpa using he
    go_enter Tryd.func44, Tryd.ntmps44
    go_wp2_with fail
    refine (has_calls r L s en d w h).mono ?_
    rintro e w1 ⟨rfl, h1, hk1⟩
    cases hh : hasB L s with
    | true =>
      rw [hh] at h1
      simp only [hh, if_true] at hres
      go_wp2_with fail
      refine (name_calls r L.tail en d _ h1 res hres).mono ?_
      rintro e w2 hp
      rcases res with ⟨pos, code⟩ | ⟨nm, L'⟩
      · obtain ⟨rfl, hk2⟩ := hp
        simp only [gave]
        go_wp2_with fail
        exact ⟨rfl, rfl, hk1.trans hk2⟩
      · obtain ⟨v, rfl, rfl, h2, hk2⟩ := hp
        go_wp2_with fail
        go_ret
        exact ⟨_, rfl, rfl, h2, hk1.trans hk2⟩
    | false =>
      rw [hh] at h1
      simp only [hh] at hres
      go_wp2_with fail
      go_ret
      cases hres
      exact ⟨_, rfl, rfl, h1, hk1⟩
end Go.Proofs.YtaonmhegnnpgaaaDoor
