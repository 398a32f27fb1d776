/- How a text's words hang on its parts. No condition. -/
import Derived.Test.YtaonmhegnnpgaaaDoorLexP2
namespace Go.Proofs.YtaonmhegnnpgaaaDoor
open Go

theorem bta_append {a : List UInt8} (b : List UInt8) {k : Nat} (h : k < a.length) : bta (a ++ b) k = bta a k := by
  unfold bta
  rw [List.getD_eq_getElem?_getD, List.getD_eq_getElem?_getD, List.getElem?_append_left h]
theorem cta_append {a : List UInt8} (b : List UInt8) {k : Nat} (h : cta a k = true) : cta (a ++ b) k = true := by
  unfold cta at h ⊢
  simp only [Bool.and_eq_true, decide_eq_true_eq] at h ⊢
  rw [bta_append b h.1]
  exact ⟨by rw [List.length_append]; omega, h.2⟩
theorem cta_lt {a : List UInt8} {k : Nat} (h : cta a k = true) : k < a.length := by
  unfold cta at h
  simp only [Bool.and_eq_true, decide_eq_true_eq] at h
  exact h.1
/-- A rune that is one hangs on its own bytes alone. -/
theorem dec_append {a : List UInt8} (b : List UInt8) (h0 : a ≠ []) (h : (dec a).1 ≠ 65533) : dec (a ++ b) = dec a := by
  have hl : 0 < a.length := List.length_pos_iff.2 h0
  have e0 := bta_append b hl
  by_cases c0 : bta a 0 < 128
  · rw [dec, dec, e0, if_pos c0, if_pos c0]
  · by_cases c1 : (bta a 0 / 32 == 6 && cta a 1) = true
    · have k1 := (Bool.and_eq_true_iff.1 c1).2
      have e1 := bta_append b (cta_lt k1)
      have d1 : (bta (a ++ b) 0 / 32 == 6 && cta (a ++ b) 1) = true := by rw [e0, cta_append b k1]; rw [k1] at c1; exact c1
      rw [dec, if_neg (by rw [e0]; exact c0), if_pos d1, e0, e1]
      rw [dec, if_neg c0, if_pos c1]
    · have n1 : (bta a 0 / 32 == 6 && cta (a ++ b) 1) = false ∨ (dec a).1 = 65533 := by
        by_cases q : bta a 0 / 32 = 6
        · right
          have k1 : cta a 1 = false := by
            cases hk : cta a 1
            · rfl
            · exact absurd (by rw [q, hk]; rfl) c1
          rw [dec, if_neg c0, if_neg c1, if_neg (by simp; omega), if_neg (by simp; omega)]
        · left
          simp [q]
      rcases n1 with n1 | n1
      · by_cases c2 : (bta a 0 / 16 == 14 && cta a 1 && cta a 2) = true
        · have k2 := (Bool.and_eq_true_iff.1 c2).2
          have k1 := (Bool.and_eq_true_iff.1 (Bool.and_eq_true_iff.1 c2).1).2
          have e1 := bta_append b (cta_lt k1)
          have e2 := bta_append b (cta_lt k2)
          have d2 : (bta (a ++ b) 0 / 16 == 14 && cta (a ++ b) 1 && cta (a ++ b) 2) = true := by rw [e0, cta_append b k1, cta_append b k2]; rw [k1, k2] at c2; exact c2
          rw [dec, if_neg (by rw [e0]; exact c0), if_neg (by rw [e0, n1]; simp), if_pos d2, e0, e1, e2]
          rw [dec, if_neg c0, if_neg c1, if_pos c2]
        · by_cases q : bta a 0 / 16 = 14
          · exfalso
            apply h
            rw [dec, if_neg c0, if_neg c1, if_neg c2, if_neg (by simp; omega)]
          · by_cases c3 : (bta a 0 / 8 == 30 && cta a 1 && cta a 2 && cta a 3) = true
            · have k3 := (Bool.and_eq_true_iff.1 c3).2
              have k2 := (Bool.and_eq_true_iff.1 (Bool.and_eq_true_iff.1 c3).1).2
              have k1 := (Bool.and_eq_true_iff.1 (Bool.and_eq_true_iff.1 (Bool.and_eq_true_iff.1 c3).1).1).2
              have e1 := bta_append b (cta_lt k1)
              have e2 := bta_append b (cta_lt k2)
              have e3 := bta_append b (cta_lt k3)
              have d3 : (bta (a ++ b) 0 / 8 == 30 && cta (a ++ b) 1 && cta (a ++ b) 2 && cta (a ++ b) 3) = true := by rw [e0, cta_append b k1, cta_append b k2, cta_append b k3]; rw [k1, k2, k3] at c3; exact c3
              rw [dec, if_neg (by rw [e0]; exact c0), if_neg (by rw [e0, n1]; simp), if_neg (by rw [e0]; simp [q]), if_pos d3, e0, e1, e2, e3]
              rw [dec, if_neg c0, if_neg c1, if_neg c2, if_pos c3]
            · exfalso
              apply h
              rw [dec, if_neg c0, if_neg c1, if_neg c2, if_neg c3]
      · exact absurd n1 h
/-- A run that goes on to a text's end goes on behind it. -/
theorem runF_append (p : Nat → Bool) (hp : p 65533 = false) (b : List UInt8) : ∀ (n : Nat) (a : List UInt8), a.length ≤ n → runF p n a = a.length → ∀ m, (a ++ b).length ≤ m → runF p m (a ++ b) = a.length + runL p b
  | n, [], _, _, m, hm => by
    rw [List.nil_append, List.length_nil, Nat.zero_add, runL]
    exact runF_more p _ _ _ hm (Nat.le_refl _)
  | 0, c :: a, hn, _, _, _ => by simp at hn
  | n + 1, c :: a, hn, h, m, hm => by
    obtain ⟨m, rfl⟩ : ∃ k, m = k + 1 := ⟨m - 1, by simp at hm; omega⟩
    rw [runF] at h
    split at h
    · rename_i hpc
      have h1 := dec_pos (c :: a)
      have h2 := dec_le c a
      have hne : (dec (c :: a)).1 ≠ 65533 := fun e => by rw [e, hp] at hpc; cases hpc
      have hd := dec_append b (by simp) hne
      rw [List.cons_append] at hd
      rw [List.cons_append, runF, hd, if_pos hpc]
      have hdr : (c :: (a ++ b)).drop (dec (c :: a)).2 = (c :: a).drop (dec (c :: a)).2 ++ b := by
        rw [← List.cons_append, List.drop_append_of_le_length h2]
      rw [hdr]
      have hl : ((c :: a).drop (dec (c :: a)).2).length = (c :: a).length - (dec (c :: a)).2 := List.length_drop
      have hlen : (c :: a).length = a.length + 1 := List.length_cons
      simp only [List.length_append, List.length_cons] at hm
      have hr : runF p n ((c :: a).drop (dec (c :: a)).2) = ((c :: a).drop (dec (c :: a)).2).length := by rw [hl]; omega
      rw [runF_append p hp b n _ (by rw [hl]; simp at hn; omega) hr m (by rw [List.length_append, hl]; omega), hl]
      omega
    · simp at h
theorem runL_append (p : Nat → Bool) (hp : p 65533 = false) (a b : List UInt8) (h : runL p a = a.length) : runL p (a ++ b) = a.length + runL p b :=
  runF_append p hp b _ a (Nat.le_refl _) h _ (Nat.le_refl _)

/-- What stands behind a run does not go on with it. -/
def Stops (p : Nat → Bool) (b : List UInt8) : Prop := b = [] ∨ p (dec b).1 = false
theorem Stops.run {p : Nat → Bool} {b : List UInt8} (h : Stops p b) : runL p b = 0 := by
  rcases h with rfl | h
  · rfl
  · cases b with
    | nil => rfl
    | cons c b => rw [runL_cons, if_neg (by rw [h]; simp)]

/-- A name, as a text on its own. -/
structure IsName (l : List UInt8) : Prop where
  ne : l ≠ []
  first : letterB (dec l).1 = true
  all : runL nameB l = l.length
  key : keyL l = []
  few : l.length ≤ 32
theorem IsName.word {a b : List UInt8} (h : IsName a) (hb : Stops nameB b) : wordL (a ++ b) = .ok (1, a, 0, a.length) := by
  have hd := dec_append b h.ne fun e => by have := h.first; rw [e] at this; cases this
  have hr : runL nameB (a ++ b) = a.length := by rw [runL_append nameB rfl a b h.all, hb.run]; rfl
  rw [wordL, hd, if_pos h.first, hr, List.take_left' rfl, h.key, if_neg (by simp), if_neg (by have := h.few; omega)]
/-- A word of the language. -/
structure IsKey (l : List UInt8) : Prop where
  ne : l ≠ []
  first : letterB (dec l).1 = true
  all : runL nameB l = l.length
  key : keyL l = l
theorem IsKey.word {a b : List UInt8} (h : IsKey a) (hb : Stops nameB b) : wordL (a ++ b) = .ok (2, a, 0, a.length) := by
  have hd := dec_append b h.ne fun e => by have := h.first; rw [e] at this; cases this
  have hr : runL nameB (a ++ b) = a.length := by rw [runL_append nameB rfl a b h.all, hb.run]; rfl
  rw [wordL, hd, if_pos h.first, hr, List.take_left' rfl, h.key, if_pos h.ne]

theorem lexF_word {n pos : Nat} {acc : List Tok} {a b : List UInt8} {k v : Int} {t : List UInt8} (hb : runL blankB (a ++ b) = 0) (ha : a ≠ []) (hw : wordL (a ++ b) = .ok (k, t, v, a.length)) :
    lexF (n + 1) pos acc (a ++ b) = lexF n (pos + a.length) (acc ++ [⟨k, ⟨t.toArray⟩, v, (pos : Nat)⟩]) b := by
  rw [lexF, hb]
  simp only [List.drop_zero, Nat.add_zero]
  rw [if_neg (by simp [ha]), hw]
  simp
theorem lexF_blank {n pos : Nat} {acc : List Tok} {l : List UInt8} : lexF (n + 1) pos acc (32 :: l) = lexF (n + 1) (pos + 1) acc l := by
  have h : runL blankB (32 :: l) = 1 + runL blankB l := by
    rw [runL_cons, dec_ascii 32 l (by decide)]
    rfl
  rw [lexF, lexF, h]
  simp only [Nat.add_comm 1 (runL blankB l), List.drop_succ_cons, Nat.add_assoc]
theorem lexF_end {n pos : Nat} {acc : List Tok} : lexF (n + 1) pos acc [] = .ok acc := by rw [lexF]; rfl
/-- What lexes as one name alone is a name. -/
theorem lexF_acc : ∀ (n pos : Nat) (acc : List Tok) (l : List UInt8) (L : List Tok), lexF n pos acc l = .ok L → ∃ M, L = acc ++ M
  | 0, _, _, _, _, h => by cases h
  | n + 1, pos, acc, l, L, h => by
    rw [lexF] at h
    split at h
    · cases h; exact ⟨[], by simp⟩
    · split at h
      · cases h
      · obtain ⟨M, hM⟩ := lexF_acc n _ _ _ _ h
        exact ⟨_, by rw [hM, List.append_assoc]⟩
theorem isName_of_lex {l : List UInt8} {t : Tok} (h : lexL l = .ok [t]) (hk : t.kind = 1) (ht : t.text.data.toList = l) : IsName l := by
  rw [lexL] at h
  split at h
  · cases h
  rw [lexF] at h
  have hrl := runL_le blankB l
  generalize runL blankB l = b at *
  split at h
  · cases h
  · rename_i hne
    split at h
    · cases h
    · rename_i k tx v m hw
      obtain ⟨M, hM⟩ := lexF_acc _ _ _ _ _ h
      rw [List.nil_append, List.singleton_append, List.cons.injEq] at hM
      obtain ⟨rfl, _⟩ := hM
      simp only at hk ht
      subst hk
      rw [wordL] at hw
      split at hw
      · rename_i hl
        have hle := runL_le nameB (l.drop b)
        split at hw
        · cases hw
        · rename_i hkey
          split at hw
          · cases hw
          · rename_i h32
            simp only [Except.ok.injEq, Prod.mk.injEq] at hw
            obtain ⟨_, rfl, _, _⟩ := hw
            have hlen := congrArg List.length ht
            simp only [List.length_take] at hlen
            have hdl : (l.drop b).length = l.length - b := List.length_drop
            have hpos : 0 < (l.drop b).length := List.length_pos_iff.2 hne
            have hb0 : b = 0 := by omega
            subst hb0
            simp only [List.drop_zero] at *
            have hn : runL nameB l = l.length := by omega
            rw [hn, List.take_length] at hkey
            exact ⟨hne, hl, hn, by simpa using hkey, by omega⟩
      · split at hw
        · split at hw <;> cases hw
        · split at hw
          · split at hw <;> cases hw
          · split at hw <;> cases hw
theorem name_noblank {a : List UInt8} (b : List UInt8) (h0 : a ≠ []) (h : letterB (dec a).1 = true) : runL blankB (a ++ b) = 0 := by
  have hd := dec_append b h0 fun e => by rw [e] at h; cases h
  refine Stops.run (.inr ?_)
  rw [hd]
  generalize (dec a).1 = c at h
  cases hb : blankB c with
  | false => rfl
  | true =>
    simp only [blankB, Bool.or_eq_true, beq_iff_eq] at hb
    rcases hb with ((rfl | rfl) | rfl) | rfl <;> cases h
end Go.Proofs.YtaonmhegnnpgaaaDoor
