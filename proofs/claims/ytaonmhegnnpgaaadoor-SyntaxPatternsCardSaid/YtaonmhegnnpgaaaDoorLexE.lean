/- Package lex's sign by its plain function. No condition. -/
import Derived.Test.YtaonmhegnnpgaaaDoorLexD
import Derived.LoopN
namespace Go.Proofs.YtaonmhegnnpgaaaDoor
open Go Go.RowKit

theorem ret_str {a b : ByteArray} (h : a = b) : Ending.returned (.string a) = .returned (.string b) := by rw [h]
theorem extract_list (s : ByteArray) (a b : Nat) : (s.extract a b).data.toList = (s.data.toList.drop a).take (b - a) := by
  simp [ByteArray.data_extract, List.take_drop]
theorem extract_take (s : ByteArray) (n : Nat) : s.extract 0 n = ⟨(s.data.toList.take n).toArray⟩ := by
  apply ByteArray.ext
  apply Array.toList_inj.1
  rw [extract_list]
  simp
theorem extract_drop (s : ByteArray) (n : Nat) : s.extract n s.size = ⟨(s.data.toList.drop n).toArray⟩ := by
  apply ByteArray.ext
  apply Array.toList_inj.1
  rw [extract_list, List.take_of_length_le (by rw [List.length_drop, size_list]; exact Nat.le_refl _)]

theorem indexByte_has (l : List UInt8) (c : UInt8) : decide (0 ≤ Lib.indexByte l c) = l.contains c := by
  induction l with
  | nil => rfl
  | cons b l ih =>
    have hge := Lib.indexByte_ge l c
    rw [Lib.indexByte, List.contains_cons]
    by_cases hb : b = c
    · subst hb; simp
    · have h1 : (b == c) = false := by simpa using hb
      have h2 : (c == b) = false := by simpa using fun h => hb h.symm
      rw [h1, h2, ← ih]
      simp only [Bool.false_eq_true, if_false, Bool.false_or]
      by_cases hm : Lib.indexByte l c = -1
      · simp [hm]
      · have : (Lib.indexByte l c == -1) = false := by simpa using hm
        rw [this]
        simp
        omega

theorem prefix_take {a b : UInt8} (l : List UInt8) : [a, b].isPrefixOf l = (l.take 2 == [a, b]) := by
  match l with
  | [] => rfl
  | [x] => simp [List.isPrefixOf]
  | x :: y :: l =>
    simp [List.isPrefixOf]
    rw [Bool.eq_iff_iff]
    simp
    constructor
    · rintro ⟨h1, h2⟩; exact ⟨h1.symm, h2.symm⟩
    · rintro ⟨h1, h2⟩; exact ⟨h1.symm, h2.symm⟩

theorem sign_two (l : List UInt8) (a b : UInt8) (h : [a, b].isPrefixOf l = true) (hm : sign2.contains [a, b] = true) : signL l = [a, b] := by
  rw [prefix_take] at h
  have h2 : l.take 2 = [a, b] := by simpa using h
  rw [signL, h2, if_pos hm]
theorem sign_one (l : List UInt8) (h1 : [60, 62].isPrefixOf l = false) (h2 : [60, 61].isPrefixOf l = false) (h3 : [62, 61].isPrefixOf l = false) (h4 : [46, 46].isPrefixOf l = false) :
    signL l = if sign1.contains (l.headD 0) then l.take 1 else [] := by
  rw [prefix_take] at h1 h2 h3 h4
  have : sign2.contains (l.take 2) = false := by
    simp only [sign2, List.contains_cons, h1, h2, h3, h4]
    rfl
  rw [signL, this]
  rfl

set_option maxRecDepth 100000 in
set_option maxHeartbeats 400000 in
theorem lexsign_calls (s : ByteArray) (w : World) (h0 : 0 < s.size) (hs : s.size ≤ 140737488351232) :
    Calls Tryd.prog 22 #[.string s] w fun e w' => e = .returned (.string ⟨(signL s.data.toList).toArray⟩) ∧ Below w.heap.size w w' := by
  have i0 : ∀ w, (Instr.index 100 (.agg #[.string ⟨#[60, 62]⟩, .string ⟨#[60, 61]⟩, .string ⟨#[62, 61]⟩, .string ⟨#[46, 46]⟩]) (.int .i64 0)).run Tryd.prog w = .ok (.string ⟨#[60, 62]⟩) w := fun _ => by kernel_rfl
  have i1 : ∀ w, (Instr.index 100 (.agg #[.string ⟨#[60, 62]⟩, .string ⟨#[60, 61]⟩, .string ⟨#[62, 61]⟩, .string ⟨#[46, 46]⟩]) (.int .i64 1)).run Tryd.prog w = .ok (.string ⟨#[60, 61]⟩) w := fun _ => by kernel_rfl
  have i2 : ∀ w, (Instr.index 100 (.agg #[.string ⟨#[60, 62]⟩, .string ⟨#[60, 61]⟩, .string ⟨#[62, 61]⟩, .string ⟨#[46, 46]⟩]) (.int .i64 2)).run Tryd.prog w = .ok (.string ⟨#[62, 61]⟩) w := fun _ => by kernel_rfl
  have i3 : ∀ w, (Instr.index 100 (.agg #[.string ⟨#[60, 62]⟩, .string ⟨#[60, 61]⟩, .string ⟨#[62, 61]⟩, .string ⟨#[46, 46]⟩]) (.int .i64 3)).run Tryd.prog w = .ok (.string ⟨#[46, 46]⟩) w := fun _ => by kernel_rfl
  go_enter Tryd.func22, Tryd.ntmps22
  go_wp2_with fail
  refine wp_loop_rounds 5 ?_
  rw [rounds_succ]
  go_wp2_with fail
  refine (Tryd.strings_HasPrefix s _ _).mono ?_
  rintro e w1 ⟨rfl, rfl⟩
  cases p1 : [60, 62].isPrefixOf s.data.toList with
  | true =>
    rw [show Lib.hasPrefix s.data.toList (ByteArray.mk #[60, 62]).data.toList = true from p1]
    go_wp2_with fail
    go_ret
    exact ⟨by rw [sign_two _ _ _ p1 (by decide)]; rfl, Below.refl _ _⟩
  | false =>
  rw [show Lib.hasPrefix s.data.toList (ByteArray.mk #[60, 62]).data.toList = false from p1]
  go_wp2_with fail
  rw [rounds_succ]
  go_wp2_with fail
  refine (Tryd.strings_HasPrefix s _ _).mono ?_
  rintro e w1 ⟨rfl, rfl⟩
  cases p2 : [60, 61].isPrefixOf s.data.toList with
  | true =>
    rw [show Lib.hasPrefix s.data.toList (ByteArray.mk #[60, 61]).data.toList = true from p2]
    go_wp2_with fail
    go_ret
    exact ⟨by rw [sign_two _ _ _ p2 (by decide)]; rfl, Below.refl _ _⟩
  | false =>
  rw [show Lib.hasPrefix s.data.toList (ByteArray.mk #[60, 61]).data.toList = false from p2]
  go_wp2_with fail
  rw [rounds_succ]
  go_wp2_with fail
  refine (Tryd.strings_HasPrefix s _ _).mono ?_
  rintro e w1 ⟨rfl, rfl⟩
  cases p3 : [62, 61].isPrefixOf s.data.toList with
  | true =>
    rw [show Lib.hasPrefix s.data.toList (ByteArray.mk #[62, 61]).data.toList = true from p3]
    go_wp2_with fail
    go_ret
    exact ⟨by rw [sign_two _ _ _ p3 (by decide)]; rfl, Below.refl _ _⟩
  | false =>
  rw [show Lib.hasPrefix s.data.toList (ByteArray.mk #[62, 61]).data.toList = false from p3]
  go_wp2_with fail
  rw [rounds_succ]
  go_wp2_with fail
  refine (Tryd.strings_HasPrefix s _ _).mono ?_
  rintro e w1 ⟨rfl, rfl⟩
  cases p4 : [46, 46].isPrefixOf s.data.toList with
  | true =>
    rw [show Lib.hasPrefix s.data.toList (ByteArray.mk #[46, 46]).data.toList = true from p4]
    go_wp2_with fail
    go_ret
    exact ⟨by rw [sign_two _ _ _ p4 (by decide)]; rfl, Below.refl _ _⟩
  | false =>
  rw [show Lib.hasPrefix s.data.toList (ByteArray.mk #[46, 46]).data.toList = false from p4]
  go_wp2_with fail
  rw [rounds_succ]
  go_wp2_with fail
  refine (Tryd.strings_IndexByte _ _ _).mono ?_
  rintro e w1 ⟨rfl, rfl⟩
  have hix := indexByte_has sign1 s[0]
  have hhd : s.data.toList.headD 0 = s[0] := by
    have := byte_at s 0 h0
    rw [List.drop_zero] at this
    rw [this]
    rfl
  rw [show Lib.indexByte (ByteArray.mk #[40, 41, 91, 93, 45, 62, 60, 44, 58, 46, 61, 43, 42, 47, 37]).data.toList ((s[0].toNat : Int).toNat.toUInt8) = Lib.indexByte sign1 s[0] from by simp [sign1]]
  have hsg := sign_one s.data.toList p1 p2 p3 p4
  rw [hhd, ← hix] at hsg
  generalize Lib.indexByte sign1 s[0] = x at *
  have HS := Lib.hid hsg
  clear hsg hix hhd p1 p2 p3 p4
  by_cases hx : 0 ≤ x
  · go_wp2_with fail
    go_ret
    refine ⟨?_, Below.refl _ _⟩
    rw [HS.out, if_pos (by simpa using hx)]
    exact ret_str (extract_take s 1)
  · go_wp2_with fail
    go_ret
    refine ⟨?_, Below.refl _ _⟩
    rw [HS.out, if_neg (by simpa using hx)]
    rfl
end Go.Proofs.YtaonmhegnnpgaaaDoor
