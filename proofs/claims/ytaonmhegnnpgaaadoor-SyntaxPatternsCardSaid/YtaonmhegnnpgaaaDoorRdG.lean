/- The contracts of the reader's row: its closure and the library's IndexFunc over it. No condition. -/
import Derived.Test.YtaonmhegnnpgaaaDoorRdF
namespace Go.Proofs.YtaonmhegnnpgaaaDoor
open Go Go.RowKit

theorem sign_calls (r bx : Nat) (L : List Tok) (s : ByteArray) (op en d : Int) (w : World) (h : Rd w r L en d) (hb : w.cell? ⟨bx, 0, none⟩ = some (.pointer (some ⟨r, 0, none⟩))) :
    Calls Tryd.prog 62 #[.agg #[.string s, .int .i64 op], .pointer (some ⟨bx, 0, none⟩)] w fun e w' => e = .returned (.bool (hasB L s)) ∧ Rd w' r (after L (hasB L s)) en d ∧ Kp r w w' := by
  have hbl := lt_of_cell hb
  simp only at hbl
  go_enter Tryd.func62, Tryd.ntmps62
  go_wp2_with fail
  refine (has_calls r L s en d _ (h.alloc _)).mono ?_
  rintro e w1 ⟨rfl, h1, hk1⟩
  go_wp2_with fail
  go_ret
  exact ⟨rfl, h1, ((Kp.refl r w).alloc _).trans hk1⟩

def signCells (p : ByteArray × Int) : List Value := [.string p.1, .int .i64 p.2]
def signInt (o : Option Nat) : Int := match o with | none => -1 | some i => (i : Int)
theorem two_cells {w : World} {S : Nat → Prop} {a : Option Addr} {l : List (ByteArray × Int)} (h : CellsAt w S a (l.flatMap signCells)) {k : Nat} (hk : k < l.length) :
    ∃ b off, a = some ⟨b, off, none⟩ ∧ S b ∧ w.cell? ⟨b, off + k * 2, none⟩ = some (.string (l[k]).1) ∧ w.cell? ⟨b, off + k * 2 + 1, none⟩ = some (.int .i64 (l[k]).2) := by
  have hg : ∀ (l : List (ByteArray × Int)) (k : Nat) (hk : k < l.length), (l.flatMap signCells)[k * 2]? = some (.string (l[k]).1) ∧ (l.flatMap signCells)[k * 2 + 1]? = some (.int .i64 (l[k]).2) := by
    intro l
    induction l with
    | nil => intro k hk; simp at hk
    | cons p l ih =>
      intro k hk
      cases k with
      | zero => exact ⟨rfl, rfl⟩
      | succ k =>
        have := ih k (by simpa using hk)
        rw [show (k + 1) * 2 = k * 2 + 1 + 1 from by omega]
        exact this
  obtain ⟨h0, h1⟩ := hg l k hk
  obtain ⟨b, off, rfl, hb, c0⟩ := h.at_ h0
  obtain ⟨b', off', e, _, c1⟩ := h.at_ h1
  cases e
  exact ⟨b, off, rfl, hb, c0, c1⟩

theorem index_calls (r bx : Nat) (L : List Tok) (l : List (ByteArray × Int)) (a : Option Addr) (c : Nat) (en d : Int) (w : World) (h : Rd w r L en d)
    (hb : w.cell? ⟨bx, 0, none⟩ = some (.pointer (some ⟨r, 0, none⟩))) (hbx : ¬ bx = r) (hl : CellsAt w (fun b => ¬ b = r) a (l.flatMap signCells)) (hsl : l.length ≤ 1000) :
    Calls Tryd.prog 61 #[.slice a l.length c, .func (.func 62) #[] #[.pointer (some ⟨bx, 0, none⟩)]] w
      fun e w' => e = .returned (.int .i64 (signInt (signAt l L))) ∧ Rd w' r (after L (signAt l L).isSome) en d ∧ Kp r w w' := by
  have hbl := lt_of_cell hb
  simp only at hbl
  go_enter Tryd.func61, Tryd.ntmps61
  go_wp2_with fail
  go_loopw [8] (fun i wr => ∃ k : Nat, k ≤ l.length ∧ i = .int .i64 k ∧ signAt l L = (signAt (l.drop k) L).map (· + k) ∧ Rd wr r L en d ∧ Kp r w wr) (fun i _ => l.length - (intOf i).toNat)
  case atStart => exact ⟨0, Nat.zero_le _, rfl, by simp, h, Kp.refl _ _⟩
  case round =>
    obtain ⟨k, hk, rfl, hm, hrd, hkp⟩ := hrel
    have hl1 := hl.same (Same.of_kp hkp fun _ h => h)
    have hb1 := (hkp.cell (p := ⟨bx, 0, none⟩) hbl hbx).trans hb
    clear hl hb
    by_cases hlt : k < l.length
    · obtain ⟨b, off, rfl, _, c0, c1⟩ := two_cells hl1 hlt
      rw [List.drop_eq_getElem_cons hlt] at hm
      generalize l[k] = p at hm c0 c1
      obtain ⟨s, op⟩ := p
      simp only at c0 c1
      have hM := Lib.hid hm
      clear hm
      go_wp2_with fail
      refine (sign_calls r bx L s op en d _ hrd hb1).mono ?_
      rintro e w2 ⟨rfl, h2, hk2⟩
      have hm := hM.out
      cases hh : hasB L s with
      | true =>
        rw [hh] at h2
        simp only [signAt, hh, if_true, Option.map_some, Nat.zero_add] at hm
        clear hM
        have hM := Lib.hid hm
        clear hm
        go_wp2_with fail
        go_ret
        rw [hM.out]
        exact ⟨rfl, h2, hkp.trans hk2⟩
      | false =>
        rw [hh] at h2
        simp only [signAt, hh] at hm
        clear hM
        have hM := Lib.hid hm
        clear hm
        go_wp2_with fail
        go_roundw
        case rel =>
          refine ⟨k + 1, by omega, by go_num, ?_, h2, hkp.trans hk2⟩
          have hm := hM.out
          rw [hm]
          cases signAt (List.drop (k + 1) l) L with
          | none => rfl
          | some i => simp [Nat.add_assoc, Nat.add_comm 1 k]
        case measure => simp [intOf]; omega
    · have hk' : k = l.length := by omega
      rw [hk', List.drop_length] at hm
      simp only [signAt, Option.map_none] at hm
      have hM := Lib.hid hm
      clear hm hk'
      go_wp2_with fail
      go_ret
      rw [hM.out]
      exact ⟨rfl, hrd, hkp⟩
end Go.Proofs.YtaonmhegnnpgaaaDoor
