/- Parse and ParseExpr by their plain functions. Condition: the tables are laid. -/
import Derived.Test.YtaonmhegnnpgaaaDoorReb
namespace Go.Proofs.YtaonmhegnnpgaaaDoor
open Go Go.RowKit

theorem wordL_err {l : List UInt8} {e : Int} (h : wordL l = .error e) : e ≠ 0 := by
  rw [wordL] at h
  repeat' split at h
  all_goals (cases h; try decide)
theorem wordL_ok (c : UInt8) (l : List UInt8) {k v : Int} {t : List UInt8} {m : Nat} (h : wordL (c :: l) = .ok (k, t, v, m)) : 1 ≤ m ∧ m ≤ (c :: l).length := by
  have hrun : ∀ p : Nat → Bool, p (dec (c :: l)).1 = true → 1 ≤ runL p (c :: l) := fun p hp => by
    rw [runL_cons, if_pos hp]
    have := dec_pos (c :: l)
    omega
  rw [wordL] at h
  split at h
  · rename_i hl
    have h1 := hrun nameB (by rw [nameB, hl]; rfl)
    have h2 := runL_le nameB (c :: l)
    split at h
    · cases h; exact ⟨h1, h2⟩
    · split at h
      · cases h
      · cases h; exact ⟨h1, h2⟩
  · split at h
    · rename_i hd
      have h1 := hrun digitB hd
      have h2 := runL_le digitB (c :: l)
      split at h
      · cases h
      · cases h; exact ⟨h1, h2⟩
    · split at h
      · split at h
        · cases h
        · rename_i t' n' hq
          cases h
          have := quoteL_le c l _ _ hq
          omega
      · split at h
        · cases h
        · rename_i hg
          cases h
          have h2 := signL_le (c :: l)
          refine ⟨?_, h2⟩
          rcases hs : signL (c :: l) with _ | ⟨x, y⟩
          · exact absurd hs hg
          · simp
theorem lexF_err : ∀ (n : Nat) (pos : Nat) (acc : List Tok) (l : List UInt8) (p c : Int), l.length < n → lexF n pos acc l = .error (p, c) → c ≠ 0
  | 0, _, _, _, _, _, hn, _ => by omega
  | n + 1, pos, acc, l, p, c, hn, h => by
    rw [lexF] at h
    split at h
    · cases h
    · rename_i hne
      split at h
      · rename_i e he
        cases h
        exact wordL_err he
      · rename_i k t v m hw
        have hd : (l.drop (runL blankB l)).length ≤ l.length := by rw [List.length_drop]; omega
        rcases hl : l.drop (runL blankB l) with _ | ⟨x, y⟩
        · exact absurd hl hne
        · rw [hl] at hw
          have hm := wordL_ok x y hw
          refine lexF_err n _ _ _ p c ?_ h
          rw [List.length_drop]
          rw [hl] at hd
          have := hm.1
          rw [← hl, List.length_drop] at hm
          rw [List.length_drop]
          omega
theorem lexL_err {l : List UInt8} {p c : Int} (h : lexL l = .error (p, c)) : c ≠ 0 := by
  rw [lexL] at h
  split at h
  · cases h; decide
  · exact lexF_err _ _ _ _ _ _ (by omega) h

theorem read_query_calls (n : Nat) (hn : n ≤ 1000000000) (s : ByteArray) (w : World) (hs : s.size ≤ 9223372036854775807) (hT : Tabs w) (r : Except (Int × Int) Qry) (hr : readR (fun en L => queryR en n L) s.data.toList = some r) :
    Calls Tryd.prog 23 #[.string s, .func (.func 24) #[] #[]] w (ReadQ r w) := by
  rw [readR] at hr
  cases hl : lexL s.data.toList with
  | error p =>
    rw [hl] at hr
    simp only at hr
    cases hr
    exact read_query_error s w hs hT _ p.1 p.2 (lexL_err hl) hl
  | ok L =>
    rw [hl] at hr
    simp only [size_list] at hr
    have key : ∀ res, (fun en L => queryR en n L) (s.size : Int) L = some res → Calls Tryd.prog 23 #[.string s, .func (.func 24) #[] #[]] w (ReadQ (finQuery res) w) := fun res hres =>
      read_query_parsed s w hs hT 24 (fun _ _ => by simp [go_sem]) res L (fun r w h => query_calls n hn r L s.size w res h hres) hl
    split at hr
    · cases hr
    · rename_i p hp
      cases hr
      exact key _ hp
    · rename_i a hp
      cases hr
      exact key _ hp
    · rename_i a t L' hp
      cases hr
      exact key _ hp

set_option maxRecDepth 100000 in
set_option maxHeartbeats 1000000 in
theorem query_parses (n : Nat) (hn : n ≤ 1000000000) (s : ByteArray) (w : World) (hs : s.size ≤ 9223372036854775807) (hT : Tabs w) (r : Except (Int × Int) Qry) (hr : readR (fun en L => queryR en n L) s.data.toList = some r) :
    Calls Tryd.prog 8 #[.string s] w (ReadQ r w) := by
  have hT1 := hT.below ((Below.refl w.heap.size w).alloc (Nat.le_refl _) (.cells #[.slice none 0 0, .slice none 0 0, .bool false, .slice none 0 0, .slice none 0 0, .int .i64 0] 36))
  have hq0 := Blk.new w 36 [.slice none 0 0, .slice none 0 0, .bool false, .slice none 0 0, .slice none 0 0, .int .i64 0]
  have hb0 := (Below.refl w.heap.size w).alloc (Nat.le_refl _) (.cells #[.slice none 0 0, .slice none 0 0, .bool false, .slice none 0 0, .slice none 0 0, .int .i64 0] 36)
  have hs0 : (w.alloc (.cells #[.slice none 0 0, .slice none 0 0, .bool false, .slice none 0 0, .slice none 0 0, .int .i64 0] 36)).heap.size = w.heap.size + 1 := by simp
  go_enter Tryd.func8, Tryd.ntmps8
  go_wp2_with fail
  refine (read_query_calls n hn s _ hs hT1 r hr).mono ?_
  clear hr hT1
  rintro e w1 ⟨hb1, hend⟩
  have hq := hq0.below hb1 hq0.lt
  have hb := hb0.trans (hb1.mono (by omega))
  rw [hs0] at hb1 hend
  have hs1 := hb1.size
  clear hs0 hq0 hb0
  have hlt := hq.lt
  have q0 := hq.cell 0
  have q1 := hq.cell 1
  have q2 := hq.cell 2
  have q3 := hq.cell 3
  have q4 := hq.cell 4
  have q5 := hq.cell 5
  have fq := hq.frozen
  simp only [List.getElem?_cons_zero, List.getElem?_cons_succ] at q0 q1 q2 q3 q4 q5
  cases r with
  | error p =>
    obtain ⟨p, c⟩ := p
    simp only [zeroQ] at hend
    subst hend
    go_wp2_with fail
    exact bodyPost_ret (v := .tuple #[.agg #[.slice none 0 0, .slice none 0 0, .bool false, .slice none 0 0, .slice none 0 0, .int .i64 0], .int .i64 p, .int .i64 c]) (by simp [results, Tryd.results8, go_sem, q0, q1, q2, q3, q4, q5]) rfl ⟨((((((hb.setCell (p := ⟨w.heap.size, 0, none⟩) (Nat.le_refl _) (.slice none 0 0)).setCell (p := ⟨w.heap.size, 1, none⟩) (Nat.le_refl _) (.slice none 0 0)).setCell (p := ⟨w.heap.size, 2, none⟩) (Nat.le_refl _) (.bool false)).setCell (p := ⟨w.heap.size, 3, none⟩) (Nat.le_refl _) (.slice none 0 0)).setCell (p := ⟨w.heap.size, 4, none⟩) (Nat.le_refl _) (.slice none 0 0)).setCell (p := ⟨w.heap.size, 5, none⟩) (Nat.le_refl _) (.int .i64 0)), rfl⟩
  | ok x =>
    obtain ⟨cs, rfl, hX⟩ := hend
    obtain ⟨v0, v1, v3, v4, rfl, g0, g1, g3, g4⟩ := hX
    obtain ⟨a0, n0, c0, rfl⟩ := g0.form
    obtain ⟨a1, n1, c1, rfl⟩ := g1.form
    obtain ⟨a3, n3, c3, rfl⟩ := g3.form
    obtain ⟨a4, n4, c4, rfl⟩ := g4.form
    have hX : RepQ w1 (From (w.heap.size + 1)) x [.slice a0 n0 c0, .slice a1 n1 c1, .bool x.distinct, .slice a3 n3 c3, .slice a4 n4 c4, .int .i64 x.limit] := ⟨_, _, _, _, rfl, g0, g1, g3, g4⟩
    go_wp2_with fail
    refine bodyPost_ret (v := .tuple #[.agg #[.slice a0 n0 c0, .slice a1 n1 c1, .bool x.distinct, .slice a3 n3 c3, .slice a4 n4 c4, .int .i64 x.limit], .int .i64 0, .int .i64 0]) (by simp [results, Tryd.results8, go_sem, q0, q1, q2, q3, q4, q5]) rfl ⟨((((((hb.setCell (p := ⟨w.heap.size, 0, none⟩) (Nat.le_refl _) (.slice a0 n0 c0)).setCell (p := ⟨w.heap.size, 1, none⟩) (Nat.le_refl _) (.slice a1 n1 c1)).setCell (p := ⟨w.heap.size, 2, none⟩) (Nat.le_refl _) (.bool x.distinct)).setCell (p := ⟨w.heap.size, 3, none⟩) (Nat.le_refl _) (.slice a3 n3 c3)).setCell (p := ⟨w.heap.size, 4, none⟩) (Nat.le_refl _) (.slice a4 n4 c4)).setCell (p := ⟨w.heap.size, 5, none⟩) (Nat.le_refl _) (.int .i64 x.limit)), _, rfl, RepQ.mono (From.down (Nat.le_succ _)) (RepQ.same (((((((Same.refl (From (w.heap.size + 1)) w1).low (b := w.heap.size) (i := 0) (u := .slice a0 n0 c0) (by omega)).low (b := w.heap.size) (i := 1) (u := .slice a1 n1 c1) (by omega)).low (b := w.heap.size) (i := 2) (u := .bool x.distinct) (by omega)).low (b := w.heap.size) (i := 3) (u := .slice a3 n3 c3) (by omega)).low (b := w.heap.size) (i := 4) (u := .slice a4 n4 c4) (by omega)).low (b := w.heap.size) (i := 5) (u := .int .i64 x.limit) (by omega)) hX)⟩

theorem read_expr_calls (n : Nat) (hn : n ≤ 1000000000) (s : ByteArray) (w : World) (hs : s.size ≤ 9223372036854775807) (hT : Tabs w) (r : Except (Int × Int) Ex) (hr : readR (fun en L => parse en n .expr 0 L) s.data.toList = some r) :
    Calls Tryd.prog 25 #[.string s, .func (.func 26) #[] #[]] w (ReadE r w) := by
  rw [readR] at hr
  cases hl : lexL s.data.toList with
  | error p =>
    rw [hl] at hr
    simp only at hr
    cases hr
    exact read_expr_error s w hs hT _ p.1 p.2 (lexL_err hl) hl
  | ok L =>
    rw [hl] at hr
    simp only [size_list] at hr
    have key : ∀ res, (fun en L => parse en n .expr 0 L) (s.size : Int) L = some res → Calls Tryd.prog 25 #[.string s, .func (.func 26) #[] #[]] w (ReadE (finExpr res) w) := fun res hres =>
      read_expr_parsed s w hs hT 26 (fun _ _ => by simp [go_sem]) res L (fun r w h => expr_at n r L s.size 0 w res h (by decide) (by decide) hres) hl
    split at hr
    · cases hr
    · rename_i p hp
      cases hr
      exact key _ hp
    · rename_i a hp
      cases hr
      exact key _ hp
    · rename_i a t L' hp
      cases hr
      exact key _ hp

set_option maxRecDepth 100000 in
set_option maxHeartbeats 1000000 in
theorem expr_parses (n : Nat) (hn : n ≤ 1000000000) (s : ByteArray) (w : World) (hs : s.size ≤ 9223372036854775807) (hT : Tabs w) (r : Except (Int × Int) Ex) (hr : readR (fun en L => parse en n .expr 0 L) s.data.toList = some r) :
    Calls Tryd.prog 10 #[.string s] w (ReadE r w) := by
  have hT1 := hT.below ((Below.refl w.heap.size w).alloc (Nat.le_refl _) (.cells #[.int .i64 0, .slice none 0 0, .string ⟨#[]⟩, .string ⟨#[]⟩, .int .i64 0, .bool false, .int .i64 0, .string ⟨#[]⟩, .slice none 0 0] 57))
  have hq0 := Blk.new w 57 [.int .i64 0, .slice none 0 0, .string ⟨#[]⟩, .string ⟨#[]⟩, .int .i64 0, .bool false, .int .i64 0, .string ⟨#[]⟩, .slice none 0 0]
  have hb0 := (Below.refl w.heap.size w).alloc (Nat.le_refl _) (.cells #[.int .i64 0, .slice none 0 0, .string ⟨#[]⟩, .string ⟨#[]⟩, .int .i64 0, .bool false, .int .i64 0, .string ⟨#[]⟩, .slice none 0 0] 57)
  have hs0 : (w.alloc (.cells #[.int .i64 0, .slice none 0 0, .string ⟨#[]⟩, .string ⟨#[]⟩, .int .i64 0, .bool false, .int .i64 0, .string ⟨#[]⟩, .slice none 0 0] 57)).heap.size = w.heap.size + 1 := by simp
  go_enter Tryd.func10, Tryd.ntmps10
  go_wp2_with fail
  refine (read_expr_calls n hn s _ hs hT1 r hr).mono ?_
  clear hr hT1
  rintro e w1 ⟨hb1, hend⟩
  have hq := hq0.below hb1 hq0.lt
  have hb := hb0.trans (hb1.mono (by omega))
  rw [hs0] at hb1 hend
  have hs1 := hb1.size
  clear hs0 hq0 hb0
  have hlt := hq.lt
  have q0 := hq.cell 0
  have q1 := hq.cell 1
  have q2 := hq.cell 2
  have q3 := hq.cell 3
  have q4 := hq.cell 4
  have q5 := hq.cell 5
  have q6 := hq.cell 6
  have q7 := hq.cell 7
  have q8 := hq.cell 8
  have fq := hq.frozen
  simp only [List.getElem?_cons_zero, List.getElem?_cons_succ] at q0 q1 q2 q3 q4 q5 q6 q7 q8
  cases r with
  | error p =>
    obtain ⟨p, c⟩ := p
    simp only [zeroE] at hend
    subst hend
    go_wp2_with fail
    exact bodyPost_ret (v := .tuple #[.agg #[.int .i64 0, .slice none 0 0, .string ⟨#[]⟩, .string ⟨#[]⟩, .int .i64 0, .bool false, .int .i64 0, .string ⟨#[]⟩, .slice none 0 0], .int .i64 p, .int .i64 c]) (by simp [results, Tryd.results10, go_sem, q0, q1, q2, q3, q4, q5, q6, q7, q8]) rfl ⟨(((((((((hb.setCell (p := ⟨w.heap.size, 0, none⟩) (Nat.le_refl _) (.int .i64 0)).setCell (p := ⟨w.heap.size, 1, none⟩) (Nat.le_refl _) (.slice none 0 0)).setCell (p := ⟨w.heap.size, 2, none⟩) (Nat.le_refl _) (.string ⟨#[]⟩)).setCell (p := ⟨w.heap.size, 3, none⟩) (Nat.le_refl _) (.string ⟨#[]⟩)).setCell (p := ⟨w.heap.size, 4, none⟩) (Nat.le_refl _) (.int .i64 0)).setCell (p := ⟨w.heap.size, 5, none⟩) (Nat.le_refl _) (.bool false)).setCell (p := ⟨w.heap.size, 6, none⟩) (Nat.le_refl _) (.int .i64 0)).setCell (p := ⟨w.heap.size, 7, none⟩) (Nat.le_refl _) (.string ⟨#[]⟩)).setCell (p := ⟨w.heap.size, 8, none⟩) (Nat.le_refl _) (.slice none 0 0)), rfl⟩
  | ok x =>
    obtain ⟨cs, rfl, hX⟩ := hend
    obtain ⟨op, ka, kn, kc, nm, pr, vk, vb, vm, vt, pa, pn, pc, rfl⟩ := hX.nine
    go_wp2_with fail
    refine bodyPost_ret (v := .tuple #[.agg #[.int .i64 op, .slice ka kn kc, .string nm, .string pr, .int .i64 vk, .bool vb, .int .i64 vm, .string vt, .slice pa pn pc], .int .i64 0, .int .i64 0]) (by simp [results, Tryd.results10, go_sem, q0, q1, q2, q3, q4, q5, q6, q7, q8]) rfl ⟨(((((((((hb.setCell (p := ⟨w.heap.size, 0, none⟩) (Nat.le_refl _) (.int .i64 op)).setCell (p := ⟨w.heap.size, 1, none⟩) (Nat.le_refl _) (.slice ka kn kc)).setCell (p := ⟨w.heap.size, 2, none⟩) (Nat.le_refl _) (.string nm)).setCell (p := ⟨w.heap.size, 3, none⟩) (Nat.le_refl _) (.string pr)).setCell (p := ⟨w.heap.size, 4, none⟩) (Nat.le_refl _) (.int .i64 vk)).setCell (p := ⟨w.heap.size, 5, none⟩) (Nat.le_refl _) (.bool vb)).setCell (p := ⟨w.heap.size, 6, none⟩) (Nat.le_refl _) (.int .i64 vm)).setCell (p := ⟨w.heap.size, 7, none⟩) (Nat.le_refl _) (.string vt)).setCell (p := ⟨w.heap.size, 8, none⟩) (Nat.le_refl _) (.slice pa pn pc)), _, rfl, RepE.mono (From.down (Nat.le_succ _)) (RepE.same ((((((((((Same.refl (From (w.heap.size + 1)) w1).low (b := w.heap.size) (i := 0) (u := .int .i64 op) (by omega)).low (b := w.heap.size) (i := 1) (u := .slice ka kn kc) (by omega)).low (b := w.heap.size) (i := 2) (u := .string nm) (by omega)).low (b := w.heap.size) (i := 3) (u := .string pr) (by omega)).low (b := w.heap.size) (i := 4) (u := .int .i64 vk) (by omega)).low (b := w.heap.size) (i := 5) (u := .bool vb) (by omega)).low (b := w.heap.size) (i := 6) (u := .int .i64 vm) (by omega)).low (b := w.heap.size) (i := 7) (u := .string vt) (by omega)).low (b := w.heap.size) (i := 8) (u := .slice pa pn pc) (by omega)) hX)⟩
end Go.Proofs.YtaonmhegnnpgaaaDoor
