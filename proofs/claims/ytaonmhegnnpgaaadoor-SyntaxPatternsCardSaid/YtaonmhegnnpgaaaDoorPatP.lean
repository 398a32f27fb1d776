/- The plain law of SyntaxPatterns. No condition. -/
import Derived.Test.YtaonmhegnnpgaaaDoorLexQ
import Derived.Test.YtaonmhegnnpgaaaDoorReb
namespace Go.Proofs.YtaonmhegnnpgaaaDoor
open Go

def strip (t : Tok) : Int × List UInt8 × Int := (t.kind, t.text.data.toList, t.num)
/-- A text that lexes as these words, wherever they stand. -/
def LexTo (b : List UInt8) (ts : List (Int × List UInt8 × Int)) : Prop := ∀ n pos acc, ts.length < n → ∃ L : List Tok, lexF n pos acc b = .ok (acc ++ L) ∧ L.map strip = ts
theorem LexTo.nil : LexTo [] [] := fun n pos acc h => by
  obtain ⟨n, rfl⟩ : ∃ m, n = m + 1 := ⟨n - 1, by simp at h; omega⟩
  exact ⟨[], by rw [lexF_end, List.append_nil], rfl⟩
theorem LexTo.word {a b : List UInt8} {ts : List (Int × List UInt8 × Int)} {k v : Int} {t : List UInt8} (hb : runL blankB (a ++ b) = 0) (ha : a ≠ []) (hw : wordL (a ++ b) = .ok (k, t, v, a.length)) (h : LexTo b ts) : LexTo (a ++ b) ((k, t, v) :: ts) := fun n pos acc hn => by
  obtain ⟨n, rfl⟩ : ∃ m, n = m + 1 := ⟨n - 1, by simp at hn; omega⟩
  obtain ⟨L, h1, h2⟩ := h n (pos + a.length) (acc ++ [⟨k, ⟨t.toArray⟩, v, (pos : Nat)⟩]) (by simp at hn; omega)
  exact ⟨⟨k, ⟨t.toArray⟩, v, (pos : Nat)⟩ :: L, by rw [lexF_word hb ha hw, h1]; simp, by rw [List.map_cons, h2]; rfl⟩
theorem LexTo.blank {b : List UInt8} {ts : List (Int × List UInt8 × Int)} (h : LexTo b ts) : LexTo (32 :: b) ts := fun n pos acc hn => by
  obtain ⟨n, rfl⟩ : ∃ m, n = m + 1 := ⟨n - 1, by omega⟩
  obtain ⟨L, h1, h2⟩ := h (n + 1) (pos + 1) acc hn
  exact ⟨L, by rw [lexF_blank, h1], h2⟩
theorem LexTo.name {a b : List UInt8} {ts : List (Int × List UInt8 × Int)} (ha : IsName a) (hb : Stops nameB b) (h : LexTo b ts) : LexTo (a ++ b) ((1, a, 0) :: ts) :=
  .word (name_noblank b ha.ne ha.first) ha.ne (ha.word hb) h
theorem LexTo.key {a b : List UInt8} {ts : List (Int × List UInt8 × Int)} (ha : IsKey a) (hb : Stops nameB b) (h : LexTo b ts) : LexTo (a ++ b) ((2, a, 0) :: ts) :=
  .word (name_noblank b ha.ne ha.first) ha.ne (ha.word hb) h
theorem noblank_low (c : UInt8) (b : List UInt8) (h : c.toNat < 128) (hc : blankB c.toNat = false) : runL blankB (c :: b) = 0 := Stops.run (.inr (by rw [dec_ascii c b h]; exact hc))
theorem stops_low (p : Nat → Bool) (c : UInt8) (b : List UInt8) (h : c.toNat < 128) (hc : p c.toNat = false) : Stops p (c :: b) := .inr (by rw [dec_ascii c b h]; exact hc)
/-- A sign of one byte that begins none of two. -/
theorem LexTo.sign {b : List UInt8} {ts : List (Int × List UInt8 × Int)} (c : UInt8) (hc : c = 40 ∨ c = 41 ∨ c = 91 ∨ c = 93 ∨ c = 45 ∨ c = 58 ∨ c = 42) (h : LexTo b ts) : LexTo (c :: b) ((5, [c], 0) :: ts) := by
  have hw : wordL ([c] ++ b) = .ok (5, [c], 0, [c].length) := by
    have hs : signL (c :: b) = [c] := by
      rcases hc with rfl | rfl | rfl | rfl | rfl | rfl | rfl <;> (cases b <;> simp [signL, sign2, sign1])
    have hd : dec ([c] ++ b) = (c.toNat, 1) := dec_ascii c b (by rcases hc with rfl | rfl | rfl | rfl | rfl | rfl | rfl <;> decide)
    rw [wordL, hd, show signL ([c] ++ b) = [c] from hs]
    rcases hc with rfl | rfl | rfl | rfl | rfl | rfl | rfl <;> rfl
  exact .word (noblank_low c b (by rcases hc with rfl | rfl | rfl | rfl | rfl | rfl | rfl <;> decide) (by rcases hc with rfl | rfl | rfl | rfl | rfl | rfl | rfl <;> decide)) (by simp) hw h
theorem LexTo.less {b : List UInt8} {ts : List (Int × List UInt8 × Int)} (h : LexTo (45 :: b) ts) : LexTo (60 :: 45 :: b) ((5, [60], 0) :: ts) := by
  have hw : wordL ([60] ++ (45 :: b)) = .ok (5, [60], 0, [(60 : UInt8)].length) := by
    have hs : signL (60 :: 45 :: b) = [60] := by simp [signL, sign2, sign1]
    rw [wordL, show dec ([60] ++ (45 :: b)) = (60, 1) from dec_ascii 60 _ (by decide), show signL ([60] ++ (45 :: b)) = [60] from hs]
    rfl
  exact .word (noblank_low 60 _ (by decide) (by decide)) (by simp) hw h
theorem LexTo.more {b : List UInt8} {ts : List (Int × List UInt8 × Int)} (h : LexTo (40 :: b) ts) : LexTo (62 :: 40 :: b) ((5, [62], 0) :: ts) := by
  have hw : wordL ([62] ++ (40 :: b)) = .ok (5, [62], 0, [(62 : UInt8)].length) := by
    have hs : signL (62 :: 40 :: b) = [62] := by simp [signL, sign2, sign1]
    rw [wordL, show dec ([62] ++ (40 :: b)) = (62, 1) from dec_ascii 62 _ (by decide), show signL ([62] ++ (40 :: b)) = [62] from hs]
    rfl
  exact .word (noblank_low 62 _ (by decide) (by decide)) (by simp) hw h
theorem LexTo.dots {b : List UInt8} {ts : List (Int × List UInt8 × Int)} (h : LexTo b ts) : LexTo (46 :: 46 :: b) ((5, [46, 46], 0) :: ts) := by
  have hw : wordL ([46, 46] ++ b) = .ok (5, [46, 46], 0, [(46 : UInt8), 46].length) := by
    have hs : signL (46 :: 46 :: b) = [46, 46] := by simp [signL, sign2, sign1]
    rw [wordL, show dec ([46, 46] ++ b) = (46, 1) from dec_ascii 46 _ (by decide), show signL ([46, 46] ++ b) = [46, 46] from hs]
    rfl
  exact .word (noblank_low 46 _ (by decide) (by decide)) (by simp) hw h
theorem LexTo.digit {b : List UInt8} {ts : List (Int × List UInt8 × Int)} (d : Nat) (hd : d ≤ 8) (hb : Stops digitB b) (h : LexTo b ts) : LexTo (UInt8.ofNat (48 + d) :: b) ((3, [], d) :: ts) := by
  have hlow : (UInt8.ofNat (48 + d)).toNat = 48 + d := (by decide : ∀ d, d < 9 → (UInt8.ofNat (48 + d)).toNat = 48 + d) d (by omega)
  have hr : runL digitB (UInt8.ofNat (48 + d) :: b) = 1 := by
    rw [runL_cons, dec_ascii _ _ (by omega), hlow, if_pos (by simp [digitB]; omega), List.drop_succ_cons, List.drop_zero, hb.run]
  have hw : wordL ([UInt8.ofNat (48 + d)] ++ b) = .ok (3, [], d, [UInt8.ofNat (48 + d)].length) := by
    rw [wordL, show dec ([UInt8.ofNat (48 + d)] ++ b) = (48 + d, 1) from by rw [show [UInt8.ofNat (48 + d)] ++ b = UInt8.ofNat (48 + d) :: b from rfl, dec_ascii _ _ (by omega), hlow],
      show runL digitB ([UInt8.ofNat (48 + d)] ++ b) = 1 from hr]
    rw [if_neg (by simp [letterB]; omega), if_pos (by simp [digitB]; omega)]
    have hn : numF 0 (([UInt8.ofNat (48 + d)] ++ b).take 1) = some (d : Int) := by
      show numF 0 [UInt8.ofNat (48 + d)] = some (d : Int)
      rw [numF, hlow, if_neg (by omega), numF]
      congr 1
      omega
    rw [hn]
    rfl
  exact .word (noblank_low _ b (by omega) (by rw [hlow]; simp [blankB]; omega)) (by simp) hw h

theorem strip_cons {L : List Tok} {k v : Int} {t : List UInt8} {ts : List (Int × List UInt8 × Int)} (h : L.map strip = (k, t, v) :: ts) : ∃ p L', L = ⟨k, ⟨t.toArray⟩, v, p⟩ :: L' ∧ L'.map strip = ts := by
  cases L with
  | nil => cases h
  | cons x L =>
    obtain ⟨k', t', v', p⟩ := x
    simp only [List.map_cons, strip, List.cons.injEq, Prod.mk.injEq] at h
    obtain ⟨⟨rfl, rfl, rfl⟩, h⟩ := h
    exact ⟨p, L, rfl, h⟩

/-- The pattern's text. -/
def patText (back : Bool) (v label edge : List UInt8) (n m : Nat) : List UInt8 :=
  [77, 65, 84, 67, 72] ++ (32 :: 40 :: (v ++ (58 :: (label ++ (41 :: ((if back then [60, 45] else [45]) ++ (91 :: (edge ++ (58 :: (label ++ (42 :: UInt8.ofNat (48 + n) :: 46 :: 46 :: UInt8.ofNat (48 + m) :: 93 :: ((if back then [45] else [45, 62]) ++ (40 :: 41 :: 32 :: ([82, 69, 84, 85, 82, 78] ++ (32 :: (v ++ []))))))))))))))))
def patQ (back : Bool) (v label edge : List UInt8) (n m : Nat) : Qry :=
  ⟨[⟨[⟨⟨v.toArray⟩, ⟨label.toArray⟩⟩, ⟨emp, emp⟩], [⟨⟨edge.toArray⟩, ⟨label.toArray⟩, back, 1, n, m⟩]⟩], [], false, [⟨.mk 2 [] ⟨v.toArray⟩ emp vl0, emp⟩], [], -1⟩
theorem isKey_match : IsKey [77, 65, 84, 67, 72] := ⟨by simp, by decide, by decide, by decide⟩
theorem isKey_return : IsKey [82, 69, 84, 85, 82, 78] := ⟨by simp, by decide, by decide, by decide⟩

theorem pat_lex_on {v label edge : List UInt8} (hv : IsName v) (hl : IsName label) (he : IsName edge) (n m : Nat) (hn : n ≤ 8) (hm : m ≤ 8) :
    LexTo (patText false v label edge n m) [(2, [77, 65, 84, 67, 72], 0), (5, [40], 0), (1, v, 0), (5, [58], 0), (1, label, 0), (5, [41], 0), (5, [45], 0), (5, [91], 0), (1, edge, 0), (5, [58], 0), (1, label, 0), (5, [42], 0), (3, [], (n : Int)), (5, [46, 46], 0), (3, [], (m : Int)), (5, [93], 0), (5, [45], 0), (5, [62], 0), (5, [40], 0), (5, [41], 0), (2, [82, 69, 84, 85, 82, 78], 0), (1, v, 0)] :=
  (.key isKey_match (stops_low _ _ _ (by decide) (by decide)) (.blank (.sign 40 (by decide) (.name hv (stops_low _ _ _ (by decide) (by decide)) (.sign 58 (by decide) (.name hl (stops_low _ _ _ (by decide) (by decide)) (.sign 41 (by decide) (.sign 45 (by decide) (.sign 91 (by decide) (.name he (stops_low _ _ _ (by decide) (by decide)) (.sign 58 (by decide) (.name hl (stops_low _ _ _ (by decide) (by decide)) (.sign 42 (by decide) (.digit n hn (stops_low _ _ _ (by decide) (by decide)) (.dots (.digit m hm (stops_low _ _ _ (by decide) (by decide)) (.sign 93 (by decide) (.sign 45 (by decide) (.more (.sign 40 (by decide) (.sign 41 (by decide) (.blank (.key isKey_return (stops_low _ _ _ (by decide) (by decide)) (.blank (.name hv (.inl rfl) .nil)))))))))))))))))))))))))
theorem pat_parse_on (en : Int) (v label edge : List UInt8) (n m : Nat) (hnm : n ≤ m) (hm : m ≤ 8) (p0 p1 p2 p3 p4 p5 p6 p7 p8 p9 p10 p11 p12 p13 p14 p15 p16 p17 p18 p19 p20 p21 : Int) : queryR en 100 ([⟨2, ⟨[77, 65, 84, 67, 72].toArray⟩, 0, p0⟩, ⟨5, ⟨[40].toArray⟩, 0, p1⟩, ⟨1, ⟨v.toArray⟩, 0, p2⟩, ⟨5, ⟨[58].toArray⟩, 0, p3⟩, ⟨1, ⟨label.toArray⟩, 0, p4⟩, ⟨5, ⟨[41].toArray⟩, 0, p5⟩, ⟨5, ⟨[45].toArray⟩, 0, p6⟩, ⟨5, ⟨[91].toArray⟩, 0, p7⟩, ⟨1, ⟨edge.toArray⟩, 0, p8⟩, ⟨5, ⟨[58].toArray⟩, 0, p9⟩, ⟨1, ⟨label.toArray⟩, 0, p10⟩, ⟨5, ⟨[42].toArray⟩, 0, p11⟩, ⟨3, ⟨[].toArray⟩, (n : Nat), p12⟩, ⟨5, ⟨[46, 46].toArray⟩, 0, p13⟩, ⟨3, ⟨[].toArray⟩, (m : Nat), p14⟩, ⟨5, ⟨[93].toArray⟩, 0, p15⟩, ⟨5, ⟨[45].toArray⟩, 0, p16⟩, ⟨5, ⟨[62].toArray⟩, 0, p17⟩, ⟨5, ⟨[40].toArray⟩, 0, p18⟩, ⟨5, ⟨[41].toArray⟩, 0, p19⟩, ⟨2, ⟨[82, 69, 84, 85, 82, 78].toArray⟩, 0, p20⟩, ⟨1, ⟨v.toArray⟩, 0, p21⟩] : List Tok) = some (.ok (patQ false v label edge n m, [])) := by
  have hm' : m = 0 ∨ m = 1 ∨ m = 2 ∨ m = 3 ∨ m = 4 ∨ m = 5 ∨ m = 6 ∨ m = 7 ∨ m = 8 := by omega
  have hn' : n = 0 ∨ n = 1 ∨ n = 2 ∨ n = 3 ∨ n = 4 ∨ n = 5 ∨ n = 6 ∨ n = 7 ∨ n = 8 := by omega
  rcases hm' with rfl | rfl | rfl | rfl | rfl | rfl | rfl | rfl | rfl <;> rcases hn' with rfl | rfl | rfl | rfl | rfl | rfl | rfl | rfl | rfl <;> first | (exfalso; omega) | (show _ = _; kernel_rfl)
theorem pat_read_on {v label edge : List UInt8} (hv : IsName v) (hl : IsName label) (he : IsName edge) (n m : Nat) (hnm : n ≤ m) (hm : m ≤ 8) :
    readR (fun en L => queryR en 100 L) (patText false v label edge n m) = some (.ok (patQ false v label edge n m)) := by
  have h1 := hv.few
  have h2 := hl.few
  have h3 := he.few
  have hlen : (patText false v label edge n m).length ≤ 200 := by simp [patText]; omega
  have hlen2 : 30 ≤ (patText false v label edge n m).length := by simp [patText]; omega
  obtain ⟨L0, hlex, hL0⟩ := pat_lex_on hv hl he n m (by omega) hm ((patText false v label edge n m).length + 1) 0 [] (by simp only [List.length_cons, List.length_nil]; omega)
  obtain ⟨p0, L1, rfl, hL1⟩ := strip_cons hL0
  obtain ⟨p1, L2, rfl, hL2⟩ := strip_cons hL1
  obtain ⟨p2, L3, rfl, hL3⟩ := strip_cons hL2
  obtain ⟨p3, L4, rfl, hL4⟩ := strip_cons hL3
  obtain ⟨p4, L5, rfl, hL5⟩ := strip_cons hL4
  obtain ⟨p5, L6, rfl, hL6⟩ := strip_cons hL5
  obtain ⟨p6, L7, rfl, hL7⟩ := strip_cons hL6
  obtain ⟨p7, L8, rfl, hL8⟩ := strip_cons hL7
  obtain ⟨p8, L9, rfl, hL9⟩ := strip_cons hL8
  obtain ⟨p9, L10, rfl, hL10⟩ := strip_cons hL9
  obtain ⟨p10, L11, rfl, hL11⟩ := strip_cons hL10
  obtain ⟨p11, L12, rfl, hL12⟩ := strip_cons hL11
  obtain ⟨p12, L13, rfl, hL13⟩ := strip_cons hL12
  obtain ⟨p13, L14, rfl, hL14⟩ := strip_cons hL13
  obtain ⟨p14, L15, rfl, hL15⟩ := strip_cons hL14
  obtain ⟨p15, L16, rfl, hL16⟩ := strip_cons hL15
  obtain ⟨p16, L17, rfl, hL17⟩ := strip_cons hL16
  obtain ⟨p17, L18, rfl, hL18⟩ := strip_cons hL17
  obtain ⟨p18, L19, rfl, hL19⟩ := strip_cons hL18
  obtain ⟨p19, L20, rfl, hL20⟩ := strip_cons hL19
  obtain ⟨p20, L21, rfl, hL21⟩ := strip_cons hL20
  obtain ⟨p21, L22, rfl, hL22⟩ := strip_cons hL21
  obtain rfl : L22 = [] := by simpa using hL22
  rw [readR, lexL, if_neg (by omega), hlex, List.nil_append]
  simp only
  rw [pat_parse_on _ v label edge n m hnm hm]

theorem pat_lex_back {v label edge : List UInt8} (hv : IsName v) (hl : IsName label) (he : IsName edge) (n m : Nat) (hn : n ≤ 8) (hm : m ≤ 8) :
    LexTo (patText true v label edge n m) [(2, [77, 65, 84, 67, 72], 0), (5, [40], 0), (1, v, 0), (5, [58], 0), (1, label, 0), (5, [41], 0), (5, [60], 0), (5, [45], 0), (5, [91], 0), (1, edge, 0), (5, [58], 0), (1, label, 0), (5, [42], 0), (3, [], (n : Int)), (5, [46, 46], 0), (3, [], (m : Int)), (5, [93], 0), (5, [45], 0), (5, [40], 0), (5, [41], 0), (2, [82, 69, 84, 85, 82, 78], 0), (1, v, 0)] :=
  (.key isKey_match (stops_low _ _ _ (by decide) (by decide)) (.blank (.sign 40 (by decide) (.name hv (stops_low _ _ _ (by decide) (by decide)) (.sign 58 (by decide) (.name hl (stops_low _ _ _ (by decide) (by decide)) (.sign 41 (by decide) (.less (.sign 45 (by decide) (.sign 91 (by decide) (.name he (stops_low _ _ _ (by decide) (by decide)) (.sign 58 (by decide) (.name hl (stops_low _ _ _ (by decide) (by decide)) (.sign 42 (by decide) (.digit n hn (stops_low _ _ _ (by decide) (by decide)) (.dots (.digit m hm (stops_low _ _ _ (by decide) (by decide)) (.sign 93 (by decide) (.sign 45 (by decide) (.sign 40 (by decide) (.sign 41 (by decide) (.blank (.key isKey_return (stops_low _ _ _ (by decide) (by decide)) (.blank (.name hv (.inl rfl) .nil)))))))))))))))))))))))))
theorem pat_parse_back (en : Int) (v label edge : List UInt8) (n m : Nat) (hnm : n ≤ m) (hm : m ≤ 8) (p0 p1 p2 p3 p4 p5 p6 p7 p8 p9 p10 p11 p12 p13 p14 p15 p16 p17 p18 p19 p20 p21 : Int) : queryR en 100 ([⟨2, ⟨[77, 65, 84, 67, 72].toArray⟩, 0, p0⟩, ⟨5, ⟨[40].toArray⟩, 0, p1⟩, ⟨1, ⟨v.toArray⟩, 0, p2⟩, ⟨5, ⟨[58].toArray⟩, 0, p3⟩, ⟨1, ⟨label.toArray⟩, 0, p4⟩, ⟨5, ⟨[41].toArray⟩, 0, p5⟩, ⟨5, ⟨[60].toArray⟩, 0, p6⟩, ⟨5, ⟨[45].toArray⟩, 0, p7⟩, ⟨5, ⟨[91].toArray⟩, 0, p8⟩, ⟨1, ⟨edge.toArray⟩, 0, p9⟩, ⟨5, ⟨[58].toArray⟩, 0, p10⟩, ⟨1, ⟨label.toArray⟩, 0, p11⟩, ⟨5, ⟨[42].toArray⟩, 0, p12⟩, ⟨3, ⟨[].toArray⟩, (n : Nat), p13⟩, ⟨5, ⟨[46, 46].toArray⟩, 0, p14⟩, ⟨3, ⟨[].toArray⟩, (m : Nat), p15⟩, ⟨5, ⟨[93].toArray⟩, 0, p16⟩, ⟨5, ⟨[45].toArray⟩, 0, p17⟩, ⟨5, ⟨[40].toArray⟩, 0, p18⟩, ⟨5, ⟨[41].toArray⟩, 0, p19⟩, ⟨2, ⟨[82, 69, 84, 85, 82, 78].toArray⟩, 0, p20⟩, ⟨1, ⟨v.toArray⟩, 0, p21⟩] : List Tok) = some (.ok (patQ true v label edge n m, [])) := by
  have hm' : m = 0 ∨ m = 1 ∨ m = 2 ∨ m = 3 ∨ m = 4 ∨ m = 5 ∨ m = 6 ∨ m = 7 ∨ m = 8 := by omega
  have hn' : n = 0 ∨ n = 1 ∨ n = 2 ∨ n = 3 ∨ n = 4 ∨ n = 5 ∨ n = 6 ∨ n = 7 ∨ n = 8 := by omega
  rcases hm' with rfl | rfl | rfl | rfl | rfl | rfl | rfl | rfl | rfl <;> rcases hn' with rfl | rfl | rfl | rfl | rfl | rfl | rfl | rfl | rfl <;> first | (exfalso; omega) | (show _ = _; kernel_rfl)
theorem pat_read_back {v label edge : List UInt8} (hv : IsName v) (hl : IsName label) (he : IsName edge) (n m : Nat) (hnm : n ≤ m) (hm : m ≤ 8) :
    readR (fun en L => queryR en 100 L) (patText true v label edge n m) = some (.ok (patQ true v label edge n m)) := by
  have h1 := hv.few
  have h2 := hl.few
  have h3 := he.few
  have hlen : (patText true v label edge n m).length ≤ 200 := by simp [patText]; omega
  have hlen2 : 30 ≤ (patText true v label edge n m).length := by simp [patText]; omega
  obtain ⟨L0, hlex, hL0⟩ := pat_lex_back hv hl he n m (by omega) hm ((patText true v label edge n m).length + 1) 0 [] (by simp only [List.length_cons, List.length_nil]; omega)
  obtain ⟨p0, L1, rfl, hL1⟩ := strip_cons hL0
  obtain ⟨p1, L2, rfl, hL2⟩ := strip_cons hL1
  obtain ⟨p2, L3, rfl, hL3⟩ := strip_cons hL2
  obtain ⟨p3, L4, rfl, hL4⟩ := strip_cons hL3
  obtain ⟨p4, L5, rfl, hL5⟩ := strip_cons hL4
  obtain ⟨p5, L6, rfl, hL6⟩ := strip_cons hL5
  obtain ⟨p6, L7, rfl, hL7⟩ := strip_cons hL6
  obtain ⟨p7, L8, rfl, hL8⟩ := strip_cons hL7
  obtain ⟨p8, L9, rfl, hL9⟩ := strip_cons hL8
  obtain ⟨p9, L10, rfl, hL10⟩ := strip_cons hL9
  obtain ⟨p10, L11, rfl, hL11⟩ := strip_cons hL10
  obtain ⟨p11, L12, rfl, hL12⟩ := strip_cons hL11
  obtain ⟨p12, L13, rfl, hL13⟩ := strip_cons hL12
  obtain ⟨p13, L14, rfl, hL14⟩ := strip_cons hL13
  obtain ⟨p14, L15, rfl, hL15⟩ := strip_cons hL14
  obtain ⟨p15, L16, rfl, hL16⟩ := strip_cons hL15
  obtain ⟨p16, L17, rfl, hL17⟩ := strip_cons hL16
  obtain ⟨p17, L18, rfl, hL18⟩ := strip_cons hL17
  obtain ⟨p18, L19, rfl, hL19⟩ := strip_cons hL18
  obtain ⟨p19, L20, rfl, hL20⟩ := strip_cons hL19
  obtain ⟨p20, L21, rfl, hL21⟩ := strip_cons hL20
  obtain ⟨p21, L22, rfl, hL22⟩ := strip_cons hL21
  obtain rfl : L22 = [] := by simpa using hL22
  rw [readR, lexL, if_neg (by omega), hlex, List.nil_append]
  simp only
  rw [pat_parse_back _ v label edge n m hnm hm]
end Go.Proofs.YtaonmhegnnpgaaaDoor
