/- Package lex's run, number by their plain functions. No condition. -/
import Derived.Test.YtaonmhegnnpgaaaDoorLexA
namespace Go.Proofs.YtaonmhegnnpgaaaDoor
open Go Go.RowKit

theorem size_list (s : ByteArray) : s.data.toList.length = s.size := by simp
/-- What is left of a text behind a place at which a rune begins. -/
theorem drop_cons (s : ByteArray) (pos : Nat) (hp : pos < s.size) : ∃ c l, s.data.toList.drop pos = c :: l ∧ Utf8.decode s pos = dec (c :: l) := by
  have hl : pos < s.data.toList.length := by rw [size_list]; exact hp
  refine ⟨s.data.toList[pos], s.data.toList.drop (pos + 1), List.drop_eq_getElem_cons hl, ?_⟩
  rw [decode_dec s pos (by omega), List.drop_eq_getElem_cons hl]

/-- One rune of a text. -/
theorem step_run (p : Nat → Bool) (s : ByteArray) (pos : Nat) (hp : pos < s.size) : 1 ≤ (Utf8.decode s pos).2 ∧ pos + (Utf8.decode s pos).2 ≤ s.size ∧
    runL p (s.data.toList.drop pos) = if p (Utf8.decode s pos).1 then (Utf8.decode s pos).2 + runL p (s.data.toList.drop (pos + (Utf8.decode s pos).2)) else 0 := by
  obtain ⟨c, l, h1, h2⟩ := drop_cons s pos hp
  have h3 := dec_pos (c :: l)
  have h4 := dec_le c l
  have h5 : (c :: l).length = s.size - pos := by rw [← h1, List.length_drop, size_list]
  rw [h2]
  refine ⟨h3, by omega, ?_⟩
  rw [h1, runL_cons, ← List.drop_drop, h1]

set_option maxRecDepth 100000 in
set_option maxHeartbeats 400000 in
theorem run_calls (p : Nat → Bool) (k : FuncId) (eg : ∀ args w, (callFunc k args).run Tryd.prog w = .ok (.enter k args) w)
    (hk : ∀ (c : Nat) (w : World), c ≤ 2147483647 → Calls Tryd.prog k #[.int .i32 (c : Int)] w fun e w' => e = .returned (.bool (p c)) ∧ w = w')
    (s : ByteArray) (w : World) :
    Calls Tryd.prog 13 #[.string s, .func (.func k) #[] #[]] w fun e w' => e = .returned (.int .i64 (runL p s.data.toList)) ∧ Below w.heap.size w w' := by
  have hK := Lib.hid hk
  clear hk
  go_enter Tryd.func13, Tryd.ntmps13
  go_wp2_with fail
  go_loopw [5] (fun _ wr => ∃ pos : Nat, wr = w.iter s pos ∧ pos ≤ s.size ∧ runL p s.data.toList = pos + runL p (s.data.toList.drop pos)) (fun _ wr => s.size - wr.iterPos w.heap.size)
  case atStart => exact ⟨0, rfl, Nat.zero_le _, by simp⟩
  case round =>
    obtain ⟨pos, rfl, hle, hR⟩ := hrel
    by_cases hp : pos < s.size
    · have hnx : ∀ ty, (Instr.next (.pointer (some ⟨w.heap.size, 0, none⟩)) true ty).run Tryd.prog (w.iter s pos) = _ := fun ty => run_next_any w s pos ty hp
      have hc := decode_le s pos
      obtain ⟨h1, h2, h3⟩ := step_run p s pos hp
      rw [h3] at hR
      clear h3
      generalize (Utf8.decode s pos).1 = c at *
      generalize (Utf8.decode s pos).2 = m at *
      have HR := Lib.hid hR
      clear hR
      go_wp2_with fail
      refine (hK.out c _ hc).mono ?_
      rintro e w1 ⟨rfl, rfl⟩
      cases hpc : p c with
      | true =>
        go_wp2_with fail
        go_roundw
        case rel =>
          refine ⟨pos + m, rfl, by omega, ?_⟩
          have := HR.out
          rw [hpc, if_pos rfl] at this
          omega
        case measure => simp; omega
      | false =>
        go_wp2_with fail
        go_ret
        refine ⟨?_, (Below.refl _ _).alloc (Nat.le_refl _) _⟩
        have := HR.out
        rw [hpc] at this
        simp at this
        rw [this]
        rfl
    · have hnx : ∀ ty, (Instr.next (.pointer (some ⟨w.heap.size, 0, none⟩)) true ty).run Tryd.prog (w.iter s pos) = _ := fun ty => run_next_end w s pos ty hp
      have hz : pos = s.size := by omega
      have HR : runL p s.data.toList = s.size := by
        rw [hR, hz, List.drop_of_length_le (by rw [size_list]; exact Nat.le_refl _)]
        rfl
      clear hR hz
      have HR := Lib.hid HR
      go_wp2_with fail
      go_ret
      refine ⟨?_, (Below.refl _ _).alloc (Nat.le_refl _) _⟩
      rw [HR.out]
      rfl

/-- 'Is a rune of a name's?' -/
theorem lexname_calls (c : Nat) (w : World) (h : c ≤ 2147483647) :
    Calls Tryd.prog 17 #[.int .i32 (c : Int)] w fun e w' => e = .returned (.bool (nameB c)) ∧ w = w' := by
  go_enter Tryd.func17, Tryd.ntmps17
  go_wp2_with fail
  refine (letter_calls c _ h).mono ?_
  rintro e w1 ⟨rfl, rfl⟩
  cases h1 : letterB c with
  | true =>
    go_wp2_with fail
    go_ret
    exact ⟨lexret_bool (by simp [nameB, h1]), rfl⟩
  | false =>
    go_wp2_with fail
    refine (digit_calls c _ h).mono ?_
    rintro e w1 ⟨rfl, rfl⟩
    go_wp2_with fail
    go_ret
    exact ⟨lexret_bool (by simp [nameB, h1]), rfl⟩
end Go.Proofs.YtaonmhegnnpgaaaDoor
