/- The contract of must. No condition. -/
import Derived.Test.YtaonmhegnnpgaaaDoorRdB
import Derived.LoopTactic
import Derived.Deep.LoopGhost
namespace Go.Proofs.YtaonmhegnnpgaaaDoor
open Go Go.RowKit

/-- Words that must be next, one behind the other. -/
def mustsR (en : Int) : List ByteArray → List Tok → Res Unit
  | [], L => .ret () L
  | s :: ss, L => if hasB L s then mustsR en ss L.tail else stopR en L

/-- What a reader's method ends in: P says how what was read lies in memory. -/
def Post {α : Type} (r : Nat) (en d : Int) (w : World) (P : α → Value → World → Prop) (res : Except (Int × Int) (α × List Tok)) (e : Ending) (w' : World) : Prop :=
  match res with
  | .ok (a, L') => ∃ v, e = .returned v ∧ P a v w' ∧ Rd w' r L' en d ∧ Kp r w w'
  | .error (pos, code) => e = gave pos code ∧ Kp r w w'
def NoVal (_ : Unit) (v : Value) (_ : World) : Prop := v = .tuple #[]

theorem must_calls (r : Nat) (L : List Tok) (ss : List ByteArray) (a : Option Addr) (c : Nat) (en d : Int) (w : World) (h : Rd w r L en d) (hs : CellsAt w (fun b => ¬ b = r) a (ss.map Value.string)) (hsl : ss.length ≤ 1000)
    (res : Except (Int × Int) (Unit × List Tok)) (hres : mustsR en ss L = some res) :
    Calls Tryd.prog 38 #[.pointer (some ⟨r, 0, none⟩), .slice a ss.length c] w (Post r en d w NoVal res) := by
  go_enter Tryd.func38, Tryd.ntmps38
  go_wp2_with fail
  go_loopw [8] (fun i wr => ∃ k : Nat, k ≤ ss.length ∧ i = .int .i64 k ∧ ∃ Lk, mustsR en (ss.drop k) Lk = some res ∧ Rd wr r Lk en d ∧ Kp r w wr) (fun i _ => ss.length - (intOf i).toNat)
  case atStart => exact ⟨0, Nat.zero_le _, rfl, L, hres, h, Kp.refl _ _⟩
  case round =>
    obtain ⟨k, hk, rfl, Lk, hm, hrd, hkp⟩ := hrel
    have hs1 := hs.same (Same.of_kp hkp fun _ h => h)
    clear hs
    by_cases hlt : k < ss.length
    · have hu : (ss.map Value.string)[k]? = some (.string ss[k]) := by simp [hlt]
      obtain ⟨b, off, rfl, hb, hcell⟩ := hs1.at_ hu
      rw [List.drop_eq_getElem_cons hlt] at hm
      generalize ss[k] = s at hm hcell
      clear hu
      go_wp2_with fail
      refine (has_calls r Lk s en d _ hrd).mono ?_
      rintro e w2 ⟨rfl, h2, hk2⟩
      cases hh : hasB Lk s with
      | true =>
        rw [hh] at h2
        simp only [mustsR, hh, if_true] at hm
        go_wp2_with fail
        go_roundw
        case rel => exact ⟨k + 1, by omega, by go_num, Lk.tail, hm, h2, hkp.trans hk2⟩
        case measure => simp [intOf]; omega
      | false =>
        rw [hh] at h2
        simp only [mustsR, hh, stopR, after] at hm h2
        go_wp2_with fail
        refine (stop_calls r Lk en d _ h2).mono ?_
        rintro e w3 ⟨rfl, hb3⟩
        simp only [gave]
        go_wp2_with fail
        cases hm
        exact ⟨rfl, rfl, (hkp.trans hk2).below hb3⟩
    · have hk' : k = ss.length := by omega
      rw [hk', List.drop_length] at hm
      go_wp2_with fail
      go_end0
      cases hm
      exact ⟨_, rfl, rfl, hrd, hkp⟩
end Go.Proofs.YtaonmhegnnpgaaaDoor
