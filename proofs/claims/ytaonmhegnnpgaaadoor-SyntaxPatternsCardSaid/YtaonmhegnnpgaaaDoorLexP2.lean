/- More on a text's words as a plain function. No condition. -/
import Derived.Test.YtaonmhegnnpgaaaDoorLexP
namespace Go.Proofs.YtaonmhegnnpgaaaDoor
open Go

/-- A rune below 128 is one byte. -/
theorem dec_low {l : List UInt8} (h : (dec l).1 < 128) : bta l 0 < 128 ∧ dec l = (bta l 0, 1) := by
  by_cases h0 : bta l 0 < 128
  · exact ⟨h0, by rw [dec, if_pos h0]⟩
  · exfalso
    revert h
    unfold dec
    rw [if_neg h0]
    repeat' split
    all_goals simp_all
    all_goals omega
theorem bta_cons (c : UInt8) (l : List UInt8) : bta (c :: l) 0 = c.toNat := rfl
theorem dec_ascii (c : UInt8) (l : List UInt8) (h : c.toNat < 128) : dec (c :: l) = (c.toNat, 1) := by
  rw [dec, if_pos (by rw [bta_cons]; exact h), bta_cons]
theorem digit_low {c : Nat} (h : digitB c = true) : 48 ≤ c ∧ c ≤ 57 := by simpa [digitB] using h
theorem runF_digits : ∀ (n : Nat) (l : List UInt8), ∀ b ∈ l.take (runF digitB n l), 48 ≤ b.toNat ∧ b.toNat ≤ 57
  | 0, l, b, hb => by simp [runF] at hb
  | _ + 1, [], b, hb => by simp [runF] at hb
  | n + 1, c :: l, b, hb => by
    rw [runF] at hb
    split at hb
    · rename_i hd
      have h1 := digit_low hd
      obtain ⟨h2, h3⟩ := dec_low (l := c :: l) (by omega)
      rw [h3] at hb h1
      rw [Nat.add_comm, List.take_succ_cons] at hb
      rcases List.mem_cons.1 hb with rfl | hb
      · exact h1
      · exact runF_digits n l b hb
    · simp at hb
theorem runL_digits (l : List UInt8) : ∀ b ∈ l.take (runL digitB l), 48 ≤ b.toNat ∧ b.toNat ≤ 57 := runF_digits _ l
theorem quoteF_le : ∀ (n : Nat) (behind : Bool) (acc : List UInt8) (i : Nat) (l t : List UInt8) (k : Nat), quoteF n behind acc i l = some (t, k) → i < k ∧ k ≤ i + l.length
  | 0, _, _, _, _, _, _, h => by cases h
  | _ + 1, _, _, _, [], _, _, h => by cases h
  | n + 1, behind, acc, i, c :: l, t, k, h => by
    have h1 := dec_pos (c :: l)
    have h2 := dec_le c l
    rw [quoteF] at h
    have step : ∀ b a, quoteF n b a (i + (dec (c :: l)).2) ((c :: l).drop (dec (c :: l)).2) = some (t, k) → i < k ∧ k ≤ i + (c :: l).length := fun b a h => by
      have := quoteF_le n b a _ _ t k h
      rw [List.length_drop] at this
      omega
    split at h
    · cases h
    split at h
    · exact step _ _ h
    split at h
    · cases h
    split at h
    · cases h
      simp
    split at h
    · exact step _ _ h
    · exact step _ _ h
theorem quoteL_le (c : UInt8) (l t : List UInt8) (k : Nat) (h : quoteL (c :: l) = some (t, k)) : 1 < k ∧ k ≤ (c :: l).length := by
  have := quoteF_le _ _ _ _ _ _ _ h
  simp only [List.tail_cons, List.length_cons] at this ⊢
  omega
theorem signL_le (l : List UInt8) : (signL l).length ≤ l.length := by
  unfold signL
  split
  · rw [List.length_take]; omega
  · split
    · rw [List.length_take]; omega
    · exact Nat.zero_le _
end Go.Proofs.YtaonmhegnnpgaaaDoor
