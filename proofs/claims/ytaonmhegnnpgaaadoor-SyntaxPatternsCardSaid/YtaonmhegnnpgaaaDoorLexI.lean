/- Package lex's Lex by its plain function. Condition: the tables are laid. -/
import Derived.Test.YtaonmhegnnpgaaaDoorLexH
import Derived.Test.YtaonmhegnnpgaaaDoorLexP2
import Derived.RegionTactic
import Derived.Deep.Light
namespace Go.Proofs.YtaonmhegnnpgaaaDoor
open Go Go.RowKit

/-- A token's four cells hold something. -/
def TokBlk (w : World) (g : Nat) : Prop := ∃ k t n p, Blk w g 30 (tokCells ⟨k, t, n, p⟩)

/-- Where Lex stands when it comes to its label. -/
structure LexAt (s : ByteArray) (w : World) (T : Array Value) (w' : World) (pos : Nat) (acc : List Tok) (v : Value) : Prop where
  size : T.size = 107
  t0 : T.getD 0 undef = .string s
  t5 : T.getD 5 undef = v
  t6 : T.getD 6 undef = .pointer (some ⟨w.heap.size, 0, none⟩)
  t9 : T.getD 9 undef = .int .i64 (pos : Int)
  le : pos ≤ s.size
  tok : TokBlk w' w.heap.size
  below : Below w.heap.size w w'
  own : w'.ownsRow (w.heap.size + 1) 30 4 v acc.length (acc.flatMap tokCells)
  few : acc.length ≤ pos
  eq : ∃ n, s.size - pos < n ∧ lexL s.data.toList = lexF n pos acc (s.data.toList.drop pos)

/-- What stays in a world of Lex's beside its word: tables, row, what was there before the call. -/
structure LexIn (w W : World) (v : Value) (acc : List Tok) : Prop where
  tabs : Tabs W
  below : Below w.heap.size w W
  own : W.ownsRow (w.heap.size + 1) 30 4 v acc.length (acc.flatMap tokCells)
theorem LexIn.call {w W W' : World} {v : Value} {acc : List Tok} (h : LexIn w W v acc) (hb : Below W.heap.size W W') : LexIn w W' v acc :=
  ⟨h.tabs.below hb, h.below.trans (hb.mono h.below.size),
    h.own.kept ⟨hb.os, hb.tape, hb.output, hb.size, fun k hk _ => hb.block k hk⟩ (row := none) (by cases v.ownBlock <;> simp)⟩
theorem LexIn.put {w W : World} {v : Value} {acc : List Tok} (h : LexIn w W v acc) (h0 : Tabs w) {i : Nat} {u : Value} : LexIn w (W.setCell ⟨w.heap.size, i, none⟩ u) v acc := by
  have hb : Below w.heap.size w (W.setCell ⟨w.heap.size, i, none⟩ u) := h.below.setCell (Nat.le_refl _) _
  refine ⟨h0.below hb, hb, h.own.kept (row := some w.heap.size) ⟨rfl, rfl, rfl, by simp [World.setCell], fun k _ hk => Below.heap_setCell W _ u k (fun e => hk (by rw [e]))⟩ ?_⟩
  rcases h' : v.ownBlock with _ | g
  · exact .inl rfl
  · refine .inr fun e => ?_
    have := (h.own.lt g h').1
    cases e
    omega

theorem runL_pos {p : Nat → Bool} {R : ByteArray} (h0 : 0 < R.size) (h : p (dec R.data.toList).1 = true) : 1 ≤ runL p R.data.toList := by
  have h1 := byte_at R 0 h0
  rw [List.drop_zero, Nat.zero_add] at h1
  rw [h1] at h ⊢
  rw [runL_cons, if_pos h]
  have := dec_pos (R[0] :: R.data.toList.drop 1)
  omega

theorem LexIn.next {s : ByteArray} {w W6 W7 : World} {T : Array Value} {v v' : Value} {pos m q n : Nat} {acc : List Tok} {tok : Tok} {o : Obj} {cs : List Value} (hin : LexIn w W6 v acc)
    (htok : Blk W6 w.heap.size 30 (tokCells tok)) (hcs : cs = tokCells tok)
    (hown : W7.ownsRow (w.heap.size + 1) 30 4 v' (acc.length + 1) (acc.flatMap tokCells ++ cs)) (hgrow : (W6.alloc o).grownBy W7 v.ownBlock)
    (h1 : 1 ≤ q) (hle : pos + m + q ≤ s.size) (hfew : acc.length ≤ pos) (hn : s.size - pos < n + 1)
    (heq : lexL s.data.toList = lexF n (pos + m + q) (acc ++ [tok]) (s.data.toList.drop (pos + m + q)))
    (hsz : T.size = 107) (t0 : T.getD 0 undef = .string s) (t5 : T.getD 5 undef = v') (t6 : T.getD 6 undef = .pointer (some ⟨w.heap.size, 0, none⟩)) (t9 : T.getD 9 undef = .int .i64 ((pos : Int) + (m : Int) + (q : Int))) :
    LexAt s w T W7 (pos + m + q) (acc ++ [tok]) v' := by
  have hs := hin.below.size
  refine ⟨hsz, t0, t5, t6, by rw [t9]; simp, hle, ⟨tok.kind, tok.text, tok.num, tok.pos, (htok.alloc o).grown hgrow fun e => ?_⟩, ?_, ?_, by rw [List.length_append]; simp; omega, n, by omega, heq⟩
  · have := (hin.own.lt _ e.symm).1
    omega
  · exact (hin.below.alloc hs o).grown hgrow (by simp; omega) fun k hk => by have := (hin.own.lt k hk).1; omega
  · subst hcs
    rw [List.length_append, List.flatMap_append]
    simpa using hown

def posOf (a : Act) : Nat := (intOf (a.tmps.getD 9 undef)).toNat

section
variable {P : Program} {a : Act} {w : World} {Q : Exit → Act → World → Prop}
/-- A scope whose label is met on the way: what stands behind the label is walked once. -/
theorem wp_scope_label {c B : Code} (l : Nat) (J : Act → World → Prop) (μ : Act → World → Nat) (hf : findLabel c l = some (.seq .skip B))
    (pass : ∀ a w, J a w → B.wp P (Exit.jump l (fun a' w' => J a' w' ∧ μ a' w' < μ a w) Q) a w)
    (first : (∀ a w, J a w → B.wp P (Exit.jump l J Q) a w) → c.wp P (Exit.jump l J Q) a w) : (Code.scope c).wp P Q a w :=
  wp_scope_jumps l J μ hf
    (first fun a w h => wp_mono (pass a w h) fun e a w he => by
      cases e with
      | goto l' => exact ⟨he.1, he.2.1⟩
      | normal => exact he
      | exit id => exact he
      | ret => exact he
      | panic ch => exact he
      | outgrown => exact he)
    (fun a w h => wp_seq (wp_skip (pass a w h)))
end

theorem mu_lt {T : Array Value} {n pos : Nat} {x : Int} (h : T.getD 9 undef = .int .i64 x) (h1 : pos < x.toNat) (h2 : x.toNat ≤ n) : n - posOf { tmps := T, defers := [] } < n - pos := by
  have : posOf { tmps := T, defers := [] } = x.toNat := by
    simp only [posOf, h]
    rfl
  omega

set_option maxRecDepth 100000 in
set_option maxHeartbeats 1000000 in
theorem lex_calls (s : ByteArray) (w : World) (hs : s.size ≤ 9223372036854775807) (hT : Tabs w) :
    Calls Tryd.prog 7 #[.string s] w (LexEnd (lexL s.data.toList) w) := by
  by_cases hbig : 4096 < s.size
  · have hq : lexL s.data.toList = .error (0, 2) := by rw [lexL, if_pos (by rw [size_list]; exact hbig)]
    have HQ := Lib.hid hq
    clear hq
    go_enter Tryd.func7, Tryd.ntmps7
    go_wp2_with fail
    refine wp_scope_jumps 0 (fun _ _ => False) (fun _ _ => 0) rfl ?_ (fun _ _ h => h.elim)
    go_wp2_with fail
    simp only [Exit.jump]
    exact bodyPost_ret (v := .tuple #[.slice none 0 0, .int .i64 0, .int .i64 2]) (by simp [results, Tryd.results7, go_sem]) rfl (.no HQ.out ((Below.refl _ _).alloc (Nat.le_refl _) _))
  · have hs1 : s.size ≤ 4096 := by omega
    obtain ⟨i0, hi, hz0, hz1, hz2⟩ := info_parts (show (Tryd.prog.info? 30).map (fun i => (i.zero, i.size, i.bytes)) = some (some (.agg #[.int .i64 0, .string ⟨#[]⟩, .int .i64 0, .int .i64 0]), 4, 40) by kernel_rfl)
    go_enter Tryd.func7, Tryd.ntmps7
    go_wp2_with fail
    refine wp_scope_label 0 (fun a' w' => ∃ T pos acc v, a' = { tmps := T, defers := [] } ∧ LexAt s w T w' pos acc v) (fun a' _ => s.size - posOf a') rfl ?_ ?_
    · rintro a' w' ⟨T, pos, acc, v, rfl, hsize, t0, t5, t6, t9, hle, ⟨k0, x0, n0, p0, htok⟩, hbl, hown, hfew, n, hn, heq⟩
      have hmu : posOf { tmps := T, defers := [] } = pos := by simp only [posOf, t9]; rfl
      rw [hmu]
      clear hmu
      obtain ⟨f, hf⟩ := frame_of T s v _ pos hsize t0 t5 t6 t9
      clear hsize t0 t5 t6 t9
      subst hf
      obtain ⟨n, rfl⟩ : ∃ n', n = n' + 1 := ⟨n - 1, by omega⟩
      rw [lexF] at heq
      simp only [List.drop_drop] at heq
      have hm : pos + runL blankB (s.data.toList.drop pos) ≤ s.size := by
        have := runL_le blankB (s.data.toList.drop pos)
        rw [List.length_drop, size_list] at this
        omega
      have hsz1 := hbl.size
      go_wp2_with fail
      refine (run_calls blankB 14 (fun _ _ => by simp [go_sem]) blank_calls _ _).mono ?_
      rintro e w1 ⟨rfl, hb1⟩
      rw [show (s.extract pos s.size).data.toList = s.data.toList.drop pos by rw [extract_drop]]
      generalize runL blankB (s.data.toList.drop pos) = m at *
      have hbl1 := hbl.trans (hb1.mono hsz1)
      have htok1 := htok.below hb1 htok.lt
      have hown1 := hown.kept ⟨hb1.os, hb1.tape, hb1.output, hb1.size, fun k hk _ => hb1.block k hk⟩ (row := none) (by cases v.ownBlock <;> simp)
      have hT1 := hT.below hbl1
      have HE := Lib.hid heq
      clear heq hb1 hbl htok hown
      by_cases hend : pos + m = s.size
      · have hq : lexL s.data.toList = .ok acc := by
          rw [HE.out, if_pos]
          exact List.drop_of_length_le (by rw [size_list]; omega)
        have HQ := Lib.hid hq
        clear hq HE
        have he : (((pos : Int) + (m : Int)) == (s.size : Int)) = true := by rw [beq_iff_eq]; omega
        have HO := Lib.hid hown1
        clear hown1
        go_wp2_with fail
        simp only [Exit.jump]
        exact bodyPost_ret (v := .tuple #[v, .int .i64 0, .int .i64 0]) (by simp [results, Tryd.results7, go_sem]) rfl (.yes HQ.out hbl1 (Nat.le_succ _) HO.out)
      · have he : (((pos : Int) + (m : Int)) == (s.size : Int)) = false := by rw [beq_eq_false_iff_ne]; omega
        obtain ⟨b0, b1, b2, b3⟩ : w1.cell? ⟨w.heap.size, 0, none⟩ = some (.int .i64 k0) ∧ w1.cell? ⟨w.heap.size, 1, none⟩ = some (.string x0) ∧ w1.cell? ⟨w.heap.size, 2, none⟩ = some (.int .i64 n0) ∧ w1.cell? ⟨w.heap.size, 3, none⟩ = some (.int .i64 p0) :=
          ⟨htok1.cell 0, htok1.cell 1, htok1.cell 2, htok1.cell 3⟩
        have fz := htok1.frozen
        have htok2 := (((htok1.set_ 0 (.int .i64 0)).set_ 1 (.string ⟨#[]⟩)).set_ 2 (.int .i64 0)).set_ 3 (.int .i64 ((pos : Int) + (m : Int)))
        simp only [tokCells, List.set_cons_zero, List.set_cons_succ] at htok2
        have hin1 : LexIn w w1 v acc := ⟨hT1, hbl1, hown1⟩
        have hin2 := (((hin1.put hT (i := 0) (u := .int .i64 0)).put hT (i := 1) (u := .string ⟨#[]⟩)).put hT (i := 2) (u := .int .i64 0)).put hT (i := 3) (u := .int .i64 ((pos : Int) + (m : Int)))
        go_wp2_with fail
        clear b0 b1 b2 b3 fz hin1 hT1 hbl1 hown1 htok1
        generalize (((w1.setCell ⟨w.heap.size, 0, none⟩ (.int .i64 0)).setCell ⟨w.heap.size, 1, none⟩ (.string ⟨#[]⟩)).setCell ⟨w.heap.size, 2, none⟩ (.int .i64 0)).setCell ⟨w.heap.size, 3, none⟩ (.int .i64 ((pos : Int) + (m : Int))) = w2 at *
        refine (Tryd.utf8_DecodeRuneInString _ _ hin2.tabs.1).mono ?_
        rintro e w3 ⟨rfl, hb3⟩
        have hin3 := hin2.call hb3
        have htok3 := htok2.below hb3 htok2.lt
        have hR : (s.extract (pos + m) s.size).data.toList = s.data.toList.drop (pos + m) := by rw [extract_drop]
        have hRs : (s.extract (pos + m) s.size).size = s.size - (pos + m) := by simp
        generalize s.extract (pos + m) s.size = R at *
        have hR0 : 0 < R.size := by omega
        have hR1 : R.size ≤ 4096 := by omega
        have hdg : Lib.decodeGo R = dec R.data.toList := by
          rw [Lib.decodeGo, if_neg (by omega), decode_dec R 0 (by omega), List.drop_zero]
        have hc := decode_le R 0
        rw [decode_dec R 0 (by omega), List.drop_zero] at hc
        rw [hdg]
        have heq := HE.out
        rw [← hR, if_neg (by intro h; rw [← size_list, h] at hR0; simp at hR0)] at heq
        have HEQ := Lib.hid heq
        clear heq HE hdg he htok2 hb3 hin2
        obtain ⟨c, hcd⟩ : ∃ c, c = (dec R.data.toList).1 := ⟨_, rfl⟩
        rw [← hcd] at hc ⊢
        have HC := Lib.hid hcd
        clear hcd
        have HR := Lib.hid hR
        clear hR
        go_wp2_with fail
        refine (letter_calls c _ hc).mono ?_
        rintro e w4 ⟨rfl, rfl⟩
        cases hl : letterB c with
        | true =>
          go_wp2_with fail
          refine (run_calls nameB 17 (fun _ _ => by simp [go_sem]) lexname_calls _ _).mono ?_
          rintro e w4 ⟨rfl, hb4⟩
          have hin4 := hin3.call hb4
          have htok4 := htok3.below hb4 htok3.lt
          have hq := runL_le nameB R.data.toList
          rw [size_list] at hq
          have HW : Hid (wordL R.data.toList = _) := Lib.hid (by rw [wordL, ← HC.out, hl, if_pos rfl])
          have hq1 : 1 ≤ runL nameB R.data.toList := runL_pos hR0 (by rw [← HC.out, nameB, hl]; rfl)
          generalize runL nameB R.data.toList = q at *
          go_wp2_with fail
          refine (lexkey_calls _ _ (by simp; omega) hin4.tabs.2).mono ?_
          rintro e w5 ⟨rfl, hb5⟩
          have hin5 := hin4.call hb5
          have htok5 := htok4.below hb5 htok4.lt
          rw [show (R.extract 0 q).data.toList = R.data.toList.take q by rw [extract_take]]
          generalize hky : keyL (R.data.toList.take q) = ky at *
          have b0 := htok5.cell 0
          have b1 := htok5.cell 1
          have fz := htok5.frozen
          simp only [List.getElem?_cons_zero, List.getElem?_cons_succ] at b0 b1
          have htok6 := (htok5.set_ 0 (.int .i64 2)).set_ 1 (.string ⟨ky.toArray⟩)
          simp only [List.set_cons_zero, List.set_cons_succ] at htok6
          have hin6 := (hin5.put hT (i := 0) (u := .int .i64 2)).put hT (i := 1) (u := .string ⟨ky.toArray⟩)
          cases hke : ky.isEmpty with
          | false =>
            have hkn : ky ≠ [] := by rintro rfl; cases hke
            have hq2 := HEQ.out
            rw [HW.out, if_pos hkn] at hq2
            have HQ := Lib.hid hq2
            clear hq2 HW HEQ hkn
            go_upto_region 37 with (fail)
            generalize (w5.setCell ⟨w.heap.size, 0, none⟩ (.int .i64 2)).setCell ⟨w.heap.size, 1, none⟩ (.string ⟨ky.toArray⟩) = w6 at *
            clear b0 b1 fz hin5 htok5
            have HIN := hin6
            obtain ⟨b0, b1, b2, b3⟩ : w6.cell? ⟨w.heap.size, 0, none⟩ = some (.int .i64 2) ∧ w6.cell? ⟨w.heap.size, 1, none⟩ = some (.string ⟨ky.toArray⟩) ∧ w6.cell? ⟨w.heap.size, 2, none⟩ = some (.int .i64 0) ∧ w6.cell? ⟨w.heap.size, 3, none⟩ = some (.int .i64 ((pos : Int) + (m : Int))) :=
              ⟨htok6.cell 0, htok6.cell 1, htok6.cell 2, htok6.cell 3⟩
            have hszW := HIN.below.size
            have hown := HIN.own
            go_wp2_with (at_builtin; refine wpList_append_own _ rfl _ _ 24 rfl (w.heap.size + 1) 30 i0 _ 4 40 Tryd.underlying24 hi hz0 hz1 hz2 rfl (by decide) _ _ _ rfl (hown.alloc _) ⟨w6.heap.size, 0, none⟩ 1 1 [.int .i64 2, .string ⟨ky.toArray⟩, .int .i64 0, .int .i64 ((pos : Int) + (m : Int))] rfl rfl (World.news_of_block (heap_alloc_new w6 _)) (by simp [Value.oneCell']) (by unfold maxLen; omega) (by omega) (by have := htok6.lt; simp; omega) ?_)
            intro v' w7 hown7 hgrow7 _
            go_wp2_with fail
            go_step3
            refine (⟨rfl, ⟨_, pos + m + q, acc ++ [⟨2, ⟨ky.toArray⟩, 0, (pos + m : Nat)⟩], v', rfl, HIN.next (tok := ⟨2, ⟨ky.toArray⟩, 0, (pos + m : Nat)⟩) htok6 (by simp [tokCells]) hown7 hgrow7 hq1 (by omega) hfew hn HQ.out ?_ ?_ ?_ ?_ ?_⟩, ?_⟩ : 0 = 0 ∧ (∃ T pos acc v, _ = ({ tmps := T, defers := [] } : Act) ∧ LexAt s w T w7 pos acc v) ∧ _)
            · rfl
            · rfl
            · rfl
            · rfl
            · rfl
            · exact mu_lt rfl (by omega) (by omega)
          | true =>
            have hkn : ky = [] := by simpa using hke
            subst hkn
            go_wp2_with fail
            generalize (w5.setCell ⟨w.heap.size, 0, none⟩ (.int .i64 2)).setCell ⟨w.heap.size, 1, none⟩ (.string ⟨[].toArray⟩) = w6 at *
            clear b0 b1 fz hin5 htok5 hke
            obtain ⟨b0, b1, b2, b3⟩ : w6.cell? ⟨w.heap.size, 0, none⟩ = some (.int .i64 2) ∧ w6.cell? ⟨w.heap.size, 1, none⟩ = some (.string ⟨#[]⟩) ∧ w6.cell? ⟨w.heap.size, 2, none⟩ = some (.int .i64 0) ∧ w6.cell? ⟨w.heap.size, 3, none⟩ = some (.int .i64 ((pos : Int) + (m : Int))) :=
              ⟨htok6.cell 0, htok6.cell 1, htok6.cell 2, htok6.cell 3⟩
            have fz := htok6.frozen
            go_region
            have hin7 := ((hin6.put hT (i := 0) (u := .int .i64 1)).put hT (i := 1) (u := .string (R.extract 0 q))).call (Below.refl _ _).drew
            have htok7 := ((htok6.set_ 0 (.int .i64 1)).set_ 1 (.string (R.extract 0 q))).drew
            simp only [List.set_cons_zero, List.set_cons_succ] at htok7
            generalize ((w6.setCell ⟨w.heap.size, 0, none⟩ (.int .i64 1)).setCell ⟨w.heap.size, 1, none⟩ (.string (R.extract 0 q))).drew = w8 at *
            clear b0 b1 b2 b3 fz hin6 htok6
            have hq2 := HEQ.out
            rw [HW.out, if_neg (by simp)] at hq2
            by_cases hq32 : 32 < q
            · rw [if_pos hq32] at hq2
              have HQ := Lib.hid hq2
              clear hq2 HW HEQ
              go_wp2_with fail
              simp only [Exit.jump]
              exact bodyPost_ret (v := .tuple #[.slice none 0 0, .int .i64 ((pos : Int) + (m : Int)), .int .i64 74]) (by simp [results, Tryd.results7, go_sem]) rfl (.no (by rw [HQ.out]; simp) hin7.below)
            · rw [if_neg hq32] at hq2
              simp only [← extract_take] at hq2
              have HQ := Lib.hid hq2
              clear hq2 HW HEQ
              have HIN := hin7
              obtain ⟨b0, b1, b2, b3⟩ : w8.cell? ⟨w.heap.size, 0, none⟩ = some (.int .i64 1) ∧ w8.cell? ⟨w.heap.size, 1, none⟩ = some (.string (R.extract 0 q)) ∧ w8.cell? ⟨w.heap.size, 2, none⟩ = some (.int .i64 0) ∧ w8.cell? ⟨w.heap.size, 3, none⟩ = some (.int .i64 ((pos : Int) + (m : Int))) :=
                ⟨htok7.cell 0, htok7.cell 1, htok7.cell 2, htok7.cell 3⟩
              have hszW := HIN.below.size
              have hown := HIN.own
              go_wp2_with (at_builtin; refine wpList_append_own _ rfl _ _ 24 rfl (w.heap.size + 1) 30 i0 _ 4 40 Tryd.underlying24 hi hz0 hz1 hz2 rfl (by decide) _ _ _ rfl (hown.alloc _) ⟨w8.heap.size, 0, none⟩ 1 1 [.int .i64 1, .string (R.extract 0 q), .int .i64 0, .int .i64 ((pos : Int) + (m : Int))] rfl rfl (World.news_of_block (heap_alloc_new w8 _)) (by simp [Value.oneCell']) (by unfold maxLen; omega) (by omega) (by have := htok7.lt; simp; omega) ?_)
              intro v' w7 hown7 hgrow7 _
              go_wp2_with fail
              go_step3
              refine (⟨rfl, ⟨_, pos + m + q, acc ++ [⟨1, (R.extract 0 q), 0, (pos + m : Nat)⟩], v', rfl, HIN.next (tok := ⟨1, (R.extract 0 q), 0, (pos + m : Nat)⟩) htok7 (by simp [tokCells]) hown7 hgrow7 hq1 (by omega) hfew hn HQ.out ?_ ?_ ?_ ?_ ?_⟩, ?_⟩ : 0 = 0 ∧ (∃ T pos acc v, _ = ({ tmps := T, defers := [] } : Act) ∧ LexAt s w T w7 pos acc v) ∧ _)
              · rfl
              · rfl
              · rfl
              · rfl
              · rfl
              · exact mu_lt rfl (by omega) (by omega)
        | false =>
          go_wp2_with fail
          refine (digit_calls c _ hc).mono ?_
          rintro e w4 ⟨rfl, rfl⟩
          cases hdg : digitB c with
          | true =>
            go_wp2_with fail
            refine (run_calls digitB 18 (fun _ _ => by simp [go_sem]) digit_calls _ _).mono ?_
            rintro e w4 ⟨rfl, hb4⟩
            have hin4 := hin3.call hb4
            have htok4 := htok3.below hb4 htok3.lt
            have hq := runL_le digitB R.data.toList
            rw [size_list] at hq
            have hq1 : 1 ≤ runL digitB R.data.toList := runL_pos hR0 (by rw [← HC.out, hdg])
            have hdig := runL_digits R.data.toList
            have HW : Hid (wordL R.data.toList = _) := Lib.hid (by rw [wordL, ← HC.out, hl, if_neg (by simp), hdg, if_pos rfl])
            generalize runL digitB R.data.toList = q at *
            have hex : (R.extract 0 q).data.toList = R.data.toList.take q := by rw [extract_take]
            have hnum := fun W => lexnumber_calls (R.extract 0 q) W (by rw [hex]; exact hdig)
            rw [hex] at hnum
            clear hex hdig
            have HN := Lib.hid hnum
            clear hnum
            generalize hnv : numF 0 (R.data.toList.take q) = nv at *
            have b0 := htok4.cell 0
            have fz := htok4.frozen
            simp only [List.getElem?_cons_zero] at b0
            go_wp2_with fail
            have hin5 := hin4.put hT (i := 0) (u := .int .i64 3)
            have htok5 := htok4.set_ 0 (.int .i64 3)
            simp only [List.set_cons_zero] at htok5
            clear b0 fz hin4 htok4
            generalize w4.setCell ⟨w.heap.size, 0, none⟩ (.int .i64 3) = w5 at *
            refine (HN.out _).mono ?_
            clear HN
            rintro e w6 ⟨rfl, hb6⟩
            have hin6 := hin5.call hb6
            have htok6 := htok5.below hb6 htok5.lt
            have b2 := htok6.cell 2
            have fz := htok6.frozen
            simp only [List.getElem?_cons_zero, List.getElem?_cons_succ] at b2
            have hq2 := HEQ.out
            cases nv with
            | none =>
              rw [HW.out] at hq2
              have HQ := Lib.hid hq2
              clear hq2 HW HEQ
              have hbl7 := (hin6.put hT (i := 2) (u := .int .i64 0)).below
              go_wp2_with fail
              simp only [Exit.jump]
              exact bodyPost_ret (v := .tuple #[.slice none 0 0, .int .i64 ((pos : Int) + (m : Int)), .int .i64 72]) (by simp [results, Tryd.results7, go_sem]) rfl (.no (by rw [HQ.out]; simp) hbl7)
            | some nv =>
              rw [HW.out] at hq2
              have HQ := Lib.hid hq2
              clear hq2 HW HEQ
              have HIN := hin6.put hT (i := 2) (u := .int .i64 nv)
              have htok8 := htok6.set_ 2 (.int .i64 nv)
              simp only [List.set_cons_zero, List.set_cons_succ] at htok8
              go_upto_region 37 with (fail)
              generalize w6.setCell ⟨w.heap.size, 2, none⟩ (.int .i64 nv) = w8 at *
              clear b2 fz hin6 htok6
              obtain ⟨b0, b1, b2, b3⟩ : w8.cell? ⟨w.heap.size, 0, none⟩ = some (.int .i64 3) ∧ w8.cell? ⟨w.heap.size, 1, none⟩ = some (.string ⟨#[]⟩) ∧ w8.cell? ⟨w.heap.size, 2, none⟩ = some (.int .i64 nv) ∧ w8.cell? ⟨w.heap.size, 3, none⟩ = some (.int .i64 ((pos : Int) + (m : Int))) :=
                ⟨htok8.cell 0, htok8.cell 1, htok8.cell 2, htok8.cell 3⟩
              have hszW := HIN.below.size
              have hown := HIN.own
              go_wp2_with (at_builtin; refine wpList_append_own _ rfl _ _ 24 rfl (w.heap.size + 1) 30 i0 _ 4 40 Tryd.underlying24 hi hz0 hz1 hz2 rfl (by decide) _ _ _ rfl (hown.alloc _) ⟨w8.heap.size, 0, none⟩ 1 1 [.int .i64 3, .string ⟨#[]⟩, .int .i64 nv, .int .i64 ((pos : Int) + (m : Int))] rfl rfl (World.news_of_block (heap_alloc_new w8 _)) (by simp [Value.oneCell']) (by unfold maxLen; omega) (by omega) (by have := htok8.lt; simp; omega) ?_)
              intro v' w7 hown7 hgrow7 _
              go_wp2_with fail
              go_step3
              refine (⟨rfl, ⟨_, pos + m + q, acc ++ [⟨3, ⟨#[]⟩, nv, (pos + m : Nat)⟩], v', rfl, HIN.next (tok := ⟨3, ⟨#[]⟩, nv, (pos + m : Nat)⟩) htok8 (by simp [tokCells]) hown7 hgrow7 hq1 (by omega) hfew hn HQ.out ?_ ?_ ?_ ?_ ?_⟩, ?_⟩ : 0 = 0 ∧ (∃ T pos acc v, _ = ({ tmps := T, defers := [] } : Act) ∧ LexAt s w T w7 pos acc v) ∧ _)
              · rfl
              · rfl
              · rfl
              · rfl
              · rfl
              · exact mu_lt rfl (by omega) (by omega)
          | false =>
            by_cases h39 : c = 39
            · have ht39 : (((c : Int)) == 39) = true := by rw [beq_iff_eq]; omega
              have b0 := htok3.cell 0
              have fz := htok3.frozen
              simp only [List.getElem?_cons_zero] at b0
              have hR39 : R[0].toNat = 39 := by
                have h1 := byte_at R 0 hR0
                rw [List.drop_zero, Nat.zero_add] at h1
                have h2 := HC.out
                rw [h39, h1] at h2
                have h3 := (dec_low (l := R[0] :: R.data.toList.drop 1) (by omega)).2
                rw [h3] at h2
                exact h2.symm
              have HW : Hid (wordL R.data.toList = _) := Lib.hid (by rw [wordL, ← HC.out, hl, if_neg (by simp), hdg, if_neg (by simp), if_pos h39])
              go_wp2_with fail
              have hin5 := hin3.put hT (i := 0) (u := .int .i64 4)
              have htok5 := htok3.set_ 0 (.int .i64 4)
              simp only [List.set_cons_zero] at htok5
              clear b0 fz hin3 htok3
              generalize w3.setCell ⟨w.heap.size, 0, none⟩ (.int .i64 4) = w5 at *
              have hqc := fun W => quoted_calls R W hR0 hR39 (by omega)
              have hqb : ∀ t k, quoteL R.data.toList = some (t, k) → 1 < k ∧ k ≤ R.size := by
                have h1 := byte_at R 0 hR0
                rw [List.drop_zero] at h1
                intro t k h
                rw [h1] at h
                have h2 := quoteL_le _ _ t k h
                rwa [← h1, size_list] at h2
              generalize quoteL R.data.toList = qv at *
              refine (hqc _).mono ?_
              clear hqc
              rintro e w6 ⟨rfl, hb6⟩
              have hin6 := hin5.call hb6
              have htok6 := htok5.below hb6 htok5.lt
              have b1 := htok6.cell 1
              have fz := htok6.frozen
              simp only [List.getElem?_cons_zero, List.getElem?_cons_succ] at b1
              have hq2 := HEQ.out
              rcases qv with _ | ⟨tx, q⟩
              · rw [HW.out] at hq2
                have HQ := Lib.hid hq2
                clear hq2 HW HEQ hqb
                have hbl7 := (hin6.put hT (i := 1) (u := .string ⟨#[]⟩)).below
                go_wp2_with fail
                simp only [Exit.jump]
                exact bodyPost_ret (v := .tuple #[.slice none 0 0, .int .i64 ((pos : Int) + (m : Int)), .int .i64 73]) (by simp [results, Tryd.results7, go_sem]) rfl (.no (by rw [HQ.out]; simp) hbl7)
              · rw [HW.out] at hq2
                have HQ := Lib.hid hq2
                obtain ⟨hq1, hq⟩ := hqb tx q rfl
                clear hq2 HW HEQ hqb
                have hq0 : (((q : Int)) == 0) = false := by rw [beq_eq_false_iff_ne]; omega
                have HIN := hin6.put hT (i := 1) (u := .string ⟨tx.toArray⟩)
                have htok8 := htok6.set_ 1 (.string ⟨tx.toArray⟩)
                simp only [List.set_cons_zero, List.set_cons_succ] at htok8
                go_upto_region 37 with (fail)
                generalize w6.setCell ⟨w.heap.size, 1, none⟩ (.string ⟨tx.toArray⟩) = w8 at *
                clear b1 fz hin6 htok6
                obtain ⟨b0, b1, b2, b3⟩ : w8.cell? ⟨w.heap.size, 0, none⟩ = some (.int .i64 4) ∧ w8.cell? ⟨w.heap.size, 1, none⟩ = some (.string ⟨tx.toArray⟩) ∧ w8.cell? ⟨w.heap.size, 2, none⟩ = some (.int .i64 0) ∧ w8.cell? ⟨w.heap.size, 3, none⟩ = some (.int .i64 ((pos : Int) + (m : Int))) :=
                  ⟨htok8.cell 0, htok8.cell 1, htok8.cell 2, htok8.cell 3⟩
                have hszW := HIN.below.size
                have hown := HIN.own
                go_wp2_with (at_builtin; refine wpList_append_own _ rfl _ _ 24 rfl (w.heap.size + 1) 30 i0 _ 4 40 Tryd.underlying24 hi hz0 hz1 hz2 rfl (by decide) _ _ _ rfl (hown.alloc _) ⟨w8.heap.size, 0, none⟩ 1 1 [.int .i64 4, .string ⟨tx.toArray⟩, .int .i64 0, .int .i64 ((pos : Int) + (m : Int))] rfl rfl (World.news_of_block (heap_alloc_new w8 _)) (by simp [Value.oneCell']) (by unfold maxLen; omega) (by omega) (by have := htok8.lt; simp; omega) ?_)
                intro v' w7 hown7 hgrow7 _
                go_wp2_with fail
                go_step3
                refine (⟨rfl, ⟨_, pos + m + q, acc ++ [⟨4, ⟨tx.toArray⟩, 0, (pos + m : Nat)⟩], v', rfl, HIN.next (tok := ⟨4, ⟨tx.toArray⟩, 0, (pos + m : Nat)⟩) htok8 (by simp [tokCells]) hown7 hgrow7 (by omega) (by omega) hfew hn HQ.out ?_ ?_ ?_ ?_ ?_⟩, ?_⟩ : 0 = 0 ∧ (∃ T pos acc v, _ = ({ tmps := T, defers := [] } : Act) ∧ LexAt s w T w7 pos acc v) ∧ _)
                · rfl
                · rfl
                · rfl
                · rfl
                · rfl
                · exact mu_lt rfl (by omega) (by omega)
            · have ht39 : (((c : Int)) == 39) = false := by rw [beq_eq_false_iff_ne]; omega
              have HW : Hid (wordL R.data.toList = _) := Lib.hid (by rw [wordL, ← HC.out, hl, if_neg (by simp), hdg, if_neg (by simp), if_neg h39])
              go_wp2_with fail
              have hsc := fun W => lexsign_calls R W hR0 (by omega)
              have hgl := signL_le R.data.toList
              rw [size_list] at hgl
              generalize signL R.data.toList = g at *
              refine (hsc _).mono ?_
              clear hsc
              rintro e w5 ⟨rfl, hb5⟩
              have hin5 := hin3.call hb5
              have htok5 := htok3.below hb5 htok3.lt
              have b0 := htok5.cell 0
              have b1 := htok5.cell 1
              have fz := htok5.frozen
              simp only [List.getElem?_cons_zero, List.getElem?_cons_succ] at b0 b1
              have htok6 := (htok5.set_ 0 (.int .i64 5)).set_ 1 (.string ⟨g.toArray⟩)
              simp only [List.set_cons_zero, List.set_cons_succ] at htok6
              have hin6 := (hin5.put hT (i := 0) (u := .int .i64 5)).put hT (i := 1) (u := .string ⟨g.toArray⟩)
              have hq2 := HEQ.out
              by_cases hg0 : g = []
              · rw [HW.out, if_pos hg0] at hq2
                have HQ := Lib.hid hq2
                clear hq2 HW HEQ
                subst hg0
                have hbl7 := hin6.below
                clear hin6 htok6
                go_wp2_with fail
                simp only [Exit.jump]
                exact bodyPost_ret (v := .tuple #[.slice none 0 0, .int .i64 ((pos : Int) + (m : Int)), .int .i64 71]) (by simp [results, Tryd.results7, go_sem]) rfl (.no (by rw [HQ.out]; simp) hbl7)
              · rw [HW.out, if_neg hg0] at hq2
                have HQ := Lib.hid hq2
                clear hq2 HW HEQ
                have hgp : 1 ≤ g.length := by
                  cases g with
                  | nil => exact absurd rfl hg0
                  | cons a g => simp
                have hq0 : (((g.length : Int)) == 0) = false := by rw [beq_eq_false_iff_ne]; omega
                have HIN := hin6
                go_upto_region 37 with (fail)
                generalize (w5.setCell ⟨w.heap.size, 0, none⟩ (.int .i64 5)).setCell ⟨w.heap.size, 1, none⟩ (.string ⟨g.toArray⟩) = w8 at *
                clear b0 b1 fz hin6 hin5 htok5
                obtain ⟨b0, b1, b2, b3⟩ : w8.cell? ⟨w.heap.size, 0, none⟩ = some (.int .i64 5) ∧ w8.cell? ⟨w.heap.size, 1, none⟩ = some (.string ⟨g.toArray⟩) ∧ w8.cell? ⟨w.heap.size, 2, none⟩ = some (.int .i64 0) ∧ w8.cell? ⟨w.heap.size, 3, none⟩ = some (.int .i64 ((pos : Int) + (m : Int))) :=
                  ⟨htok6.cell 0, htok6.cell 1, htok6.cell 2, htok6.cell 3⟩
                have hszW := HIN.below.size
                have hown := HIN.own
                go_wp2_with (at_builtin; refine wpList_append_own _ rfl _ _ 24 rfl (w.heap.size + 1) 30 i0 _ 4 40 Tryd.underlying24 hi hz0 hz1 hz2 rfl (by decide) _ _ _ rfl (hown.alloc _) ⟨w8.heap.size, 0, none⟩ 1 1 [.int .i64 5, .string ⟨g.toArray⟩, .int .i64 0, .int .i64 ((pos : Int) + (m : Int))] rfl rfl (World.news_of_block (heap_alloc_new w8 _)) (by simp [Value.oneCell']) (by unfold maxLen; omega) (by omega) (by have := htok6.lt; simp; omega) ?_)
                intro v' w7 hown7 hgrow7 _
                go_wp2_with fail
                go_step3
                refine (⟨rfl, ⟨_, pos + m + g.length, acc ++ [⟨5, ⟨g.toArray⟩, 0, (pos + m : Nat)⟩], v', rfl, HIN.next (tok := ⟨5, ⟨g.toArray⟩, 0, (pos + m : Nat)⟩) htok6 (by simp [tokCells]) hown7 hgrow7 (by omega) (by omega) hfew hn HQ.out ?_ ?_ ?_ ?_ ?_⟩, ?_⟩ : 0 = 0 ∧ (∃ T pos acc v, _ = ({ tmps := T, defers := [] } : Act) ∧ LexAt s w T w7 pos acc v) ∧ _)
                · rfl
                · rfl
                · rfl
                · rfl
                · rfl
                · exact mu_lt rfl (by omega) (by omega)
    · intro hrest
      have HP := Lib.hid hrest
      clear hrest
      go_wp2_with fail
      go_step3
      rename_i hK
      refine hK _ _ (HP.out _ _ ⟨_, 0, [], .slice none 0 0, rfl, rfl, rfl, rfl, rfl, rfl, Nat.zero_le _, ⟨0, ⟨#[]⟩, 0, 0, Blk.new _ _ _⟩, (Below.refl _ _).alloc (Nat.le_refl _) _, World.ownsRow_nil _ _ _ _, Nat.le_refl _, s.data.toList.length + 1, by rw [size_list]; omega, ?_⟩)
      rw [lexL, if_neg (by rw [size_list]; omega)]
      rfl
end Go.Proofs.YtaonmhegnnpgaaaDoor
