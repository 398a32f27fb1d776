/- A text's words as a plain function of its bytes. No condition. -/
import GoSem.Core.Utf8
import Derived.Lib.RuneBytes
import Derived.Test.YtaonmhegnnpgaaaDoorSyn
namespace Go.Proofs.YtaonmhegnnpgaaaDoor
open Go

/-- The byte at a place, 0 behind the end; is there one that goes on with a rune? -/
def bta (l : List UInt8) (k : Nat) : Nat := (l.getD k 0).toNat
def cta (l : List UInt8) (k : Nat) : Bool := decide (k < l.length) && bta l k / 64 == 2
/-- The first rune, and how many bytes it takes. -/
def dec (l : List UInt8) : Nat × Nat :=
  if bta l 0 < 0x80 then (bta l 0, 1)
  else if bta l 0 / 32 == 6 && cta l 1 then
    if (bta l 0 % 32) * 64 + bta l 1 % 64 ≥ 0x80 then ((bta l 0 % 32) * 64 + bta l 1 % 64, 2) else (0xFFFD, 1)
  else if bta l 0 / 16 == 14 && cta l 1 && cta l 2 then
    if (bta l 0 % 16) * 4096 + (bta l 1 % 64) * 64 + bta l 2 % 64 ≥ 0x800 && Utf8.valid (((bta l 0 % 16) * 4096 + (bta l 1 % 64) * 64 + bta l 2 % 64 : Nat) : Int) then
      ((bta l 0 % 16) * 4096 + (bta l 1 % 64) * 64 + bta l 2 % 64, 3) else (0xFFFD, 1)
  else if bta l 0 / 8 == 30 && cta l 1 && cta l 2 && cta l 3 then
    if (bta l 0 % 8) * 262144 + (bta l 1 % 64) * 4096 + (bta l 2 % 64) * 64 + bta l 3 % 64 ≥ 0x10000 && Utf8.valid (((bta l 0 % 8) * 262144 + (bta l 1 % 64) * 4096 + (bta l 2 % 64) * 64 + bta l 3 % 64 : Nat) : Int) then
      ((bta l 0 % 8) * 262144 + (bta l 1 % 64) * 4096 + (bta l 2 % 64) * 64 + bta l 3 % 64, 4) else (0xFFFD, 1)
  else (0xFFFD, 1)

def letterB (c : Nat) : Bool := (decide (97 ≤ c) && decide (c ≤ 122)) || (decide (65 ≤ c) && decide (c ≤ 90)) || c == 95 || (decide (192 ≤ c) && decide (c ≤ 591) && c != 215 && c != 247)
def digitB (c : Nat) : Bool := decide (48 ≤ c) && decide (c ≤ 57)
def nameB (c : Nat) : Bool := letterB c || digitB c
def blankB (c : Nat) : Bool := c == 32 || c == 9 || c == 10 || c == 13

/-- How many bytes a text begins with of runes of a kind. -/
def runF (p : Nat → Bool) : Nat → List UInt8 → Nat
  | 0, _ => 0
  | _ + 1, [] => 0
  | n + 1, c :: l => if p (dec (c :: l)).1 then (dec (c :: l)).2 + runF p n ((c :: l).drop (dec (c :: l)).2) else 0
def runL (p : Nat → Bool) (l : List UInt8) : Nat := runF p l.length l

def upB (c : UInt8) : UInt8 := if 97 ≤ c.toNat ∧ c.toNat ≤ 122 then UInt8.ofNat (c.toNat - 32) else c
def keysL : List (List UInt8) :=
  [[77, 65, 84, 67, 72], [87, 72, 69, 82, 69], [82, 69, 84, 85, 82, 78], [68, 73, 83, 84, 73, 78, 67, 84], [79, 82, 68, 69, 82], [66, 89], [65, 83, 67], [68, 69, 83, 67], [76, 73, 77, 73, 84], [65, 83], [65, 78, 68], [79, 82], [78, 79, 84], [73, 83], [78, 85, 76, 76], [84, 82, 85, 69], [70, 65, 76, 83, 69], [83, 72, 79, 82, 84, 69, 83, 84], [76, 69, 78, 71, 84, 72], [67, 79, 85, 78, 84], [83, 85, 77], [77, 73, 78], [77, 65, 88]]
/-- The word of the language that a text is, or nothing. -/
def keyL (l : List UInt8) : List UInt8 := if keysL.contains (l.map upB) then l.map upB else []

/-- Behind a quote: what a text says, and where the next quote is. -/
def quoteF : Nat → Bool → List UInt8 → Nat → List UInt8 → Option (List UInt8 × Nat)
  | 0, _, _, _, _ => none
  | _ + 1, _, _, _, [] => none
  | n + 1, behind, acc, i, c :: l =>
    if (dec (c :: l)).1 = 0xFFFD ∧ [239, 191, 189].isPrefixOf (c :: l) = false then none
    else if behind = true ∧ (dec (c :: l)).1 = 110 then quoteF n false (acc ++ [10]) (i + (dec (c :: l)).2) ((c :: l).drop (dec (c :: l)).2)
    else if behind = true ∧ (dec (c :: l)).1 ≠ 39 ∧ (dec (c :: l)).1 ≠ 92 then none
    else if behind = false ∧ (dec (c :: l)).1 = 39 then some (acc, i + 1)
    else if behind = false ∧ (dec (c :: l)).1 = 92 then quoteF n true acc (i + (dec (c :: l)).2) ((c :: l).drop (dec (c :: l)).2)
    else quoteF n false (acc ++ Lib.encodeRune (dec (c :: l)).1) (i + (dec (c :: l)).2) ((c :: l).drop (dec (c :: l)).2)
/-- The text that a list begins with, whose first byte is a quote. -/
def quoteL (l : List UInt8) : Option (List UInt8 × Nat) := quoteF l.length false [] 1 l.tail

/-- What digits stand for, behind a number. -/
def numF : Int → List UInt8 → Option Int
  | v, [] => some v
  | v, c :: l => if v > (9223372036854775807 - ((c.toNat : Int) - 48)) / 10 then none else numF (10 * v + ((c.toNat : Int) - 48)) l

def sign2 : List (List UInt8) := [[60, 62], [60, 61], [62, 61], [46, 46]]
def sign1 : List UInt8 := [40, 41, 91, 93, 45, 62, 60, 44, 58, 46, 61, 43, 42, 47, 37]
def signL (l : List UInt8) : List UInt8 :=
  if sign2.contains (l.take 2) then l.take 2 else if sign1.contains (l.headD 0) then l.take 1 else []

/-- The word that a list that is not empty begins with: its kind, text, number, how many bytes; or why it is none. -/
def wordL (l : List UInt8) : Except Int (Int × List UInt8 × Int × Nat) :=
  if letterB (dec l).1 then
    if keyL (l.take (runL nameB l)) ≠ [] then .ok (2, keyL (l.take (runL nameB l)), 0, runL nameB l)
    else if runL nameB l > 32 then .error 74
    else .ok (1, l.take (runL nameB l), 0, runL nameB l)
  else if digitB (dec l).1 then
    match numF 0 (l.take (runL digitB l)) with
    | none => .error 72
    | some v => .ok (3, [], v, runL digitB l)
  else if (dec l).1 = 39 then
    match quoteL l with
    | none => .error 73
    | some (t, n) => .ok (4, t, 0, n)
  else if signL l = [] then .error 71
  else .ok (5, signL l, 0, (signL l).length)

def lexF : Nat → Nat → List Tok → List UInt8 → Except (Int × Int) (List Tok)
  | 0, _, _, _ => .error (0, 0)
  | n + 1, pos, acc, l0 =>
    let l := l0.drop (runL blankB l0)
    let pos := pos + runL blankB l0
    if l = [] then .ok acc
    else match wordL l with
      | .error e => .error (pos, e)
      | .ok (k, t, v, m) => lexF n (pos + m) (acc ++ [⟨k, ⟨t.toArray⟩, v, pos⟩]) (l.drop m)
/-- A text's words; or the place and the reason. -/
def lexL (l : List UInt8) : Except (Int × Int) (List Tok) := if l.length > 4096 then .error (0, 2) else lexF (l.length + 1) 0 [] l

/-! ### Runes -/
theorem get_getD (s : ByteArray) (i k : Nat) : (s.get! (i + k)).toNat = bta (s.data.toList.drop i) k := by
  unfold bta
  rw [show s.get! (i + k) = s.data[i + k]! from rfl]
  simp [List.getD_eq_getElem?_getD, getElem!_def]
  cases s.data[i + k]? <;> rfl
theorem decode_dec (s : ByteArray) (i : Nat) (h : i ≤ s.size) : Utf8.decode s i = dec (s.data.toList.drop i) := by
  have hl : ∀ k, decide (i + k < s.size) = decide (k < (s.data.toList.drop i).length) := by
    intro k
    have : s.data.toList.length = s.size := by simp
    simp only [List.length_drop, this]
    congr 1
    apply propext
    omega
  have hg := fun k => get_getD s i k
  simp only [Utf8.decode, hg, hl, dec, cta, Utf8.runeError]
  rfl
theorem dec_pos (l : List UInt8) : 1 ≤ (dec l).2 := by
  unfold dec
  repeat' split
  all_goals simp
theorem dec_le (c : UInt8) (l : List UInt8) : (dec (c :: l)).2 ≤ (c :: l).length := by
  unfold dec cta
  repeat' split
  all_goals simp_all
  all_goals omega
theorem runF_le (p : Nat → Bool) : ∀ (n : Nat) (l : List UInt8), runF p n l ≤ l.length
  | 0, _ => Nat.zero_le _
  | _ + 1, [] => Nat.zero_le _
  | n + 1, c :: l => by
    rw [runF]
    split
    · have h1 := dec_le c l
      have h2 := runF_le p n ((c :: l).drop (dec (c :: l)).2)
      rw [List.length_drop] at h2
      omega
    · exact Nat.zero_le _
theorem runL_le (p : Nat → Bool) (l : List UInt8) : runL p l ≤ l.length := runF_le p _ l
/-- More rounds than bytes change nothing. -/
theorem runF_more (p : Nat → Bool) : ∀ (n m : Nat) (l : List UInt8), l.length ≤ n → l.length ≤ m → runF p n l = runF p m l
  | 0, 0, _, _, _ => rfl
  | 0, m + 1, l, h, _ => by
    have : l = [] := List.eq_nil_of_length_eq_zero (by omega)
    subst this
    rfl
  | n + 1, 0, l, _, h => by
    have : l = [] := List.eq_nil_of_length_eq_zero (by omega)
    subst this
    rfl
  | n + 1, m + 1, [], _, _ => rfl
  | n + 1, m + 1, c :: l, hn, hm => by
    rw [runF, runF]
    split
    · have h1 := dec_pos (c :: l)
      simp only [List.length_cons] at hn hm
      rw [runF_more p n m _ (by rw [List.length_drop, List.length_cons]; omega) (by rw [List.length_drop, List.length_cons]; omega)]
    · rfl
theorem runL_cons (p : Nat → Bool) (c : UInt8) (l : List UInt8) : runL p (c :: l) = if p (dec (c :: l)).1 then (dec (c :: l)).2 + runL p ((c :: l).drop (dec (c :: l)).2) else 0 := by
  have h1 := dec_pos (c :: l)
  unfold runL
  rw [List.length_cons, runF]
  split
  · rw [runF_more p l.length ((c :: l).drop (dec (c :: l)).2).length _ (by rw [List.length_drop, List.length_cons]; omega) (Nat.le_refl _)]
  · rfl
end Go.Proofs.YtaonmhegnnpgaaaDoor
