/- The contract of query. No condition. -/
import Derived.Test.YtaonmhegnnpgaaaDoorRdY
namespace Go.Proofs.YtaonmhegnnpgaaaDoor
open Go Go.RowKit

def QVal (lo : Nat) (q : Qry) (v : Value) (w : World) : Prop := ∃ cs : List Value, v = .agg cs.toArray ∧ RepQ w (From lo) q cs
theorem RepS.form {α : Type} {Y : Lay α} {w : World} {S : Nat → Prop} {xs : List α} {v : Value} (h : RepS Y w S xs v) : ∃ a n c, v = .slice a n c := by
  obtain ⟨a, c, cs, rfl, _⟩ := h
  exact ⟨_, _, _, rfl⟩

set_option maxRecDepth 100000 in
set_option maxHeartbeats 16000000 in
theorem query_calls (n : Nat) (hn : n ≤ 1000000000) (r : Nat) (L : List Tok) (en : Int) (w : World) (res : Except (Int × Int) (Qry × List Tok)) (h : Rd w r L en 0) (hres : queryR en n L = some res) :
    Calls Tryd.prog 24 #[.pointer (some ⟨r, 0, none⟩)] w (Post r en 0 w (QVal w.heap.size) res) := by
  have hRes := Lib.hid hres
  clear hres
  have hr := h.lt
  go_enter Tryd.func24, Tryd.ntmps24
  go_wp2_with fail
  generalize hW : w.alloc (.cells #[.pointer (some ⟨r, 0, none⟩)] 80) = W1
  have hBB_1 := Blk.new_of (cs := [.pointer (some ⟨r, 0, none⟩)]) hW
  have hk_1 := Kp.of_alloc hW (Kp.refl r w)
  have h_1 := Rd.of_alloc hW h
  have hz_1 := size_of_alloc hW
  clear hW
  generalize hW : W1.alloc (.cells #[.slice none 0 0, .slice none 0 0, .bool false, .slice none 0 0, .slice none 0 0, .int .i64 0] 36) = W2
  have hBQ_2 := Blk.new_of (cs := [.slice none 0 0, .slice none 0 0, .bool false, .slice none 0 0, .slice none 0 0, .int .i64 0]) hW
  have hBB_2 := Blk.of_alloc hW hBB_1
  have hk_2 := Kp.of_alloc hW hk_1
  have h_2 := Rd.of_alloc hW h_1
  have hz_2 := size_of_alloc hW
  clear hW hBB_1 hk_1 h_1
  generalize hW : W2.alloc (.cells #[.slice none 0 0, .slice none 0 0, .bool false, .slice none 0 0, .slice none 0 0, .int .i64 (-1)] 36) = W3
  have hBX_3 := Blk.new_of (cs := [.slice none 0 0, .slice none 0 0, .bool false, .slice none 0 0, .slice none 0 0, .int .i64 (-1)]) hW
  have hBB_3 := Blk.of_alloc hW hBB_2
  have hBQ_3 := Blk.of_alloc hW hBQ_2
  have hk_3 := Kp.of_alloc hW hk_2
  have h_3 := Rd.of_alloc hW h_2
  have hz_3 := size_of_alloc hW
  clear hW hBB_2 hBQ_2 hk_2 h_2
  have hz2' : W2.heap.size = w.heap.size + 2 := by omega
  rw [hz_1] at hBQ_3
  rw [hz2'] at hBX_3
  have hres := hRes.out
  clear hRes
  unfold queryR at hres
  obtain ⟨r4, hr4⟩ := Res.bind_some hres
  rw [hr4] at hres
  have hRes := Lib.hid hres
  have hR4 := Lib.hid hr4
  clear hres hr4
  refine (must1_calls r L sMATCH _ 1 en 0 _ h_3.alloc_ (by simp only [← hz_1, ← hz_2, ← hz_3]; exact (Blk.new W3 _ [.string sMATCH]).cell 0) (by omega) r4 hR4.out).mono ?_
  rintro e w4 hpost
  have hres := hRes.out
  clear hRes hR4
  rcases r4 with ⟨pos', code⟩ | ⟨u1, L1⟩
  · obtain ⟨rfl, hk_4⟩ := hpost
    simp only [gave]
    go_wp2_with fail
    cases hres
    exact ⟨rfl, rfl, hk_3.alloc_.trans hk_4⟩
  simp only [Res.bind_ok] at hres
  obtain ⟨v, rfl, rfl, h_4, hkk⟩ := hpost
  have hBB_4 := (hBB_3.alloc_).kp hkk (by omega)
  have hBQ_4 := (hBQ_3.alloc_).kp hkk (by omega)
  have hBX_4 := (hBX_3.alloc_).kp hkk (by omega)
  have hk_4 := hk_3.alloc_.trans hkk
  have hs_4 := hkk.size
  simp only [World.size_alloc] at hs_4
  clear hBB_3 hBQ_3 hBX_3 hk_3 hkk h_3
  have hr_4 := h_4.lt
  have cB := hBB_4.cell 0
  simp only [List.getElem?_cons_zero] at cB
  have hbl2 := hBB_4.lt
  obtain ⟨r5, hr5⟩ := Res.bind_some hres
  rw [hr5] at hres
  have hRes := Lib.hid hres
  have hR5 := Lib.hid hr5
  clear hres hr5
  go_wp2_with fail
  refine (listed_pat n hn r L1 en 0 _ h_4 40 (enters_of Tryd.func40 (by kernel_rfl) rfl) #[.pointer (some ⟨r, 0, none⟩)] #[] (patR en n) (fun wx L' res' hrd _ hf => pattern_calls n hn r L' en 0 wx res' hrd hf) r5 hR5.out).mono ?_
  rintro e w5 hpost
  have hres := hRes.out
  clear hRes hR5
  rcases r5 with ⟨pos', code⟩ | ⟨ps, L2⟩
  · obtain ⟨rfl, hk_5⟩ := hpost
    simp only [gave]
    go_wp2_with fail
    cases hres
    exact ⟨rfl, rfl, hk_4.trans hk_5⟩
  simp only [Res.bind_ok] at hres
  obtain ⟨v, rfl, hxP, h_5, hkk⟩ := hpost
  have hBB_5 := (hBB_4).kp hkk (by omega)
  have hBQ_5 := (hBQ_4).kp hkk (by omega)
  have hBX_5 := (hBX_4).kp hkk (by omega)
  have hk_5 := hk_4.trans hkk
  have hs_5 := hkk.size
  clear hBB_4 hBQ_4 hBX_4 hk_4 hkk h_4
  have hr_5 := h_5.lt
  clear cB hbl2
  replace hxP := RepS.mono (From.down (lo := w.heap.size + 3) (by omega)) hxP
  obtain ⟨pa, pn, pc, rfl⟩ := hxP.form
  have hRes := Lib.hid hres
  clear hres
  have cB := hBB_5.cell 0
  simp only [List.getElem?_cons_zero] at cB
  have hbl2 := hBB_5.lt
  obtain ⟨x0, x1, x2, x3, x4, x5⟩ := hBX_5.c6
  have fX := hBX_5.frozen
  have hxl := hBX_5.lt
  go_wp2_with fail
  clear cB hbl2
  clear x0 x1 x2 x3 x4 x5 fX hxl
  generalize hW : w5.setCell ⟨(w.heap.size + 2), 0, none⟩ (.slice pa pn pc) = W6
  have hBB_6 := Blk.set_far hW hBB_5 (by omega)
  have hBQ_6 := Blk.set_far hW hBQ_5 (by omega)
  have hBX_6 := Blk.set_here hW hBX_5 (ds := [.slice pa pn pc, .slice none 0 0, .bool false, .slice none 0 0, .slice none 0 0, .int .i64 (-1)]) rfl
  have hk_6 := Kp.set_new hW hk_5 (by omega)
  have h_6 := Rd.set_far hW h_5 (by omega)
  have hxP_6 := RepS.same (Same.set_low hW (by omega)) hxP
  have hz_6 := size_of_set hW
  clear hW hBB_5 hBQ_5 hBX_5 hk_5 h_5 hxP
  refine (has_calls r L2 sWHERE en 0 _ h_6).mono ?_
  rintro e w7 ⟨rfl, h_7, hkk⟩
  have hBB_7 := (hBB_6).kp hkk (by omega)
  have hBQ_7 := (hBQ_6).kp hkk (by omega)
  have hBX_7 := (hBX_6).kp hkk (by omega)
  have hk_7 := hk_6.trans hkk
  have hxP_7 := RepS.same (Same.of_kp hkk fun b hb => by (try unfold From at hb); omega) hxP_6
  have hs_7 := hkk.size
  clear hBB_6 hBQ_6 hBX_6 hk_6 hxP_6 hkk h_6
  have hr_7 := h_7.lt
  have hres := hRes.out
  clear hRes
  have cB := hBB_7.cell 0
  simp only [List.getElem?_cons_zero] at cB
  have hbl2 := hBB_7.lt
  cases hh : hasB L2 sWHERE with
  | true =>
    rw [hh] at h_7
    replace h_7 : Rd w7 r L2.tail en 0 := h_7
    simp only [whereR, hh, if_true, Res.bind_assoc, Res.ret_bind] at hres
    clear hh
    obtain ⟨r8, hr8⟩ := Res.bind_some hres
    rw [hr8] at hres
    have hRes := Lib.hid hres
    have hR8 := Lib.hid hr8
    clear hres hr8
    go_wp2_with fail
    refine (expr_at n r L2.tail en 0 _ r8 h_7 (by omega) (by omega) hR8.out).mono ?_
    rintro e w8 hpost
    have hres := hRes.out
    clear hRes hR8
    rcases r8 with ⟨pos', code⟩ | ⟨wh, L3⟩
    · obtain ⟨rfl, hk_8⟩ := hpost
      simp only [gave]
      go_wp2_with fail
      cases hres
      exact ⟨rfl, rfl, hk_7.trans hk_8⟩
    simp only [Res.bind_ok] at hres
    obtain ⟨v, rfl, ⟨ds, rfl, hxE⟩, h_8, hkk⟩ := hpost
    have hBB_8 := (hBB_7).kp hkk (by omega)
    have hBQ_8 := (hBQ_7).kp hkk (by omega)
    have hBX_8 := (hBX_7).kp hkk (by omega)
    have hk_8 := hk_7.trans hkk
    have hxP_8 := RepS.same (Same.of_kp hkk fun b hb => by (try unfold From at hb); omega) hxP_7
    have hs_8 := hkk.size
    clear hBB_7 hBQ_7 hBX_7 hk_7 hxP_7 hkk h_7
    have hr_8 := h_8.lt
    clear cB hbl2
    obtain ⟨op, ka, kn, kc, nm, pr, vk, vb, vm, vt, va, vn, vc, rfl⟩ := RepE.nine hxE
    have cB := hBB_8.cell 0
    simp only [List.getElem?_cons_zero] at cB
    have hbl2 := hBB_8.lt
    obtain ⟨x0, x1, x2, x3, x4, x5⟩ := hBX_8.c6
    have fX := hBX_8.frozen
    have hxl := hBX_8.lt
    obtain ⟨r11, hr11⟩ := Res.bind_some hres
    rw [hr11] at hres
    have hRes := Lib.hid hres
    have hR11 := Lib.hid hr11
    clear hres hr11
    go_wp2_with fail
    clear cB hbl2
    clear x0 x1 x2 x3 x4 x5 fX hxl
    replace hxE := RepE.mono (From.down (lo := w.heap.size + 3) (by omega)) hxE
    generalize hW : w8.setCell ⟨(w.heap.size + 2), 1, none⟩ (.slice (some ⟨w8.heap.size, 0, none⟩) 1 1) = W9
    have hBB_9 := Blk.set_far hW hBB_8 (by omega)
    have hBQ_9 := Blk.set_far hW hBQ_8 (by omega)
    have hBX_9 := Blk.set_here hW hBX_8 (ds := [.slice pa pn pc, .slice (some ⟨w8.heap.size, 0, none⟩) 1 1, .bool false, .slice none 0 0, .slice none 0 0, .int .i64 (-1)]) rfl
    have hk_9 := Kp.set_new hW hk_8 (by omega)
    have h_9 := Rd.set_far hW h_8 (by omega)
    have hxP_9 := RepS.same (Same.set_low hW (by omega)) hxP_8
    have hxE_9 := RepE.same (Same.set_low hW (by omega)) hxE
    have hz_9 := size_of_set hW
    clear hW hBB_8 hBQ_8 hBX_8 hk_8 h_8 hxP_8 hxE
    generalize hW : W9.alloc (.cells #[.int .i64 op, .slice ka kn kc, .string nm, .string pr, .int .i64 vk, .bool vb, .int .i64 vm, .string vt, .slice va vn vc] 57) = W10
    have hxE2 : RepS layExpr W10 (From (w.heap.size + 3)) [wh] (.slice (some ⟨w8.heap.size, 0, none⟩) 1 1) := ⟨_, 1, _, rfl, by rw [← hW, ← hz_9]; exact CellsAt.new W9 _ [.int .i64 op, .slice ka kn kc, .string nm, .string pr, .int .i64 vk, .bool vb, .int .i64 vm, .string vt, .slice va vn vc] (by unfold From; omega), Reps.one (show RepE _ _ _ _ from RepE.same (Same.of_alloc hW) hxE_9)⟩
    have hBB_10 := Blk.of_alloc hW hBB_9
    have hBQ_10 := Blk.of_alloc hW hBQ_9
    have hBX_10 := Blk.of_alloc hW hBX_9
    have hk_10 := Kp.of_alloc hW hk_9
    have h_10 := Rd.of_alloc hW h_9
    have hxP_10 := RepS.same (Same.of_alloc hW) hxP_9
    have hxE_10 := RepE.same (Same.of_alloc hW) hxE_9
    have hz_10 := size_of_alloc hW
    clear hW hBB_9 hBQ_9 hBX_9 hk_9 hxP_9 hxE_9 h_9
    refine (must1_calls r L3 sRETURN _ 1 en 0 _ h_10.alloc_ (by simp only [← hz_9, ← hz_10]; exact (Blk.new W10 _ [.string sRETURN]).cell 0) (by omega) r11 hR11.out).mono ?_
    rintro e w11 hpost
    have hres := hRes.out
    clear hRes hR11
    rcases r11 with ⟨pos', code⟩ | ⟨u4, L4⟩
    · obtain ⟨rfl, hk_11⟩ := hpost
      simp only [gave]
      go_wp2_with fail
      cases hres
      exact ⟨rfl, rfl, hk_10.alloc_.trans hk_11⟩
    simp only [Res.bind_ok] at hres
    obtain ⟨v, rfl, rfl, h_11, hkk⟩ := hpost
    have hBB_11 := (hBB_10.alloc_).kp hkk (by omega)
    have hBQ_11 := (hBQ_10.alloc_).kp hkk (by omega)
    have hBX_11 := (hBX_10.alloc_).kp hkk (by omega)
    have hk_11 := hk_10.alloc_.trans hkk
    have hxP_11 := RepS.same (Same.of_kp hkk fun b hb => by (try unfold From at hb); omega) (RepS.same ((Same.refl _ _).alloc (Nat.le_refl _) _) hxP_10)
    have hxE_11 := RepS.same (Same.of_kp hkk fun b hb => by (try unfold From at hb); omega) (RepS.same ((Same.refl _ _).alloc (Nat.le_refl _) _) hxE2)
    have hs_11 := hkk.size
    simp only [World.size_alloc] at hs_11
    clear hBB_10 hBQ_10 hBX_10 hk_10 hxP_10 hxE2 hkk h_10
    have hr_11 := h_11.lt
    have hRes := Lib.hid hres
    clear hres
    have cB := hBB_11.cell 0
    simp only [List.getElem?_cons_zero] at cB
    have hbl2 := hBB_11.lt
    go_wp2_with fail
    clear cB hbl2
    refine (has_calls r L4 sDISTINCT en 0 _ h_11).mono ?_
    rintro e w12 ⟨rfl, h_12, hkk⟩
    have hBB_12 := (hBB_11).kp hkk (by omega)
    have hBQ_12 := (hBQ_11).kp hkk (by omega)
    have hBX_12 := (hBX_11).kp hkk (by omega)
    have hk_12 := hk_11.trans hkk
    have hxP_12 := RepS.same (Same.of_kp hkk fun b hb => by (try unfold From at hb); omega) hxP_11
    have hxE_12 := RepS.same (Same.of_kp hkk fun b hb => by (try unfold From at hb); omega) hxE_11
    have hs_12 := hkk.size
    clear hBB_11 hBQ_11 hBX_11 hk_11 hxP_11 hxE_11 hkk h_11
    have hr_12 := h_12.lt
    have cB := hBB_12.cell 0
    simp only [List.getElem?_cons_zero] at cB
    have hbl2 := hBB_12.lt
    obtain ⟨x0, x1, x2, x3, x4, x5⟩ := hBX_12.c6
    have fX := hBX_12.frozen
    have hxl := hBX_12.lt
    have hres := hRes.out
    clear hRes
    obtain ⟨r14, hr14⟩ := Res.bind_some hres
    rw [hr14] at hres
    have hRes := Lib.hid hres
    have hR14 := Lib.hid hr14
    clear hres hr14
    go_wp2_with fail
    clear cB hbl2
    clear x0 x1 x2 x3 x4 x5 fX hxl
    generalize hW : w12.setCell ⟨(w.heap.size + 2), 2, none⟩ (.bool (hasB L4 sDISTINCT)) = W13
    have hBB_13 := Blk.set_far hW hBB_12 (by omega)
    have hBQ_13 := Blk.set_far hW hBQ_12 (by omega)
    have hBX_13 := Blk.set_here hW hBX_12 (ds := [.slice pa pn pc, .slice (some ⟨w8.heap.size, 0, none⟩) 1 1, .bool (hasB L4 sDISTINCT), .slice none 0 0, .slice none 0 0, .int .i64 (-1)]) rfl
    have hk_13 := Kp.set_new hW hk_12 (by omega)
    have h_13 := Rd.set_far hW h_12 (by omega)
    have hxP_13 := RepS.same (Same.set_low hW (by omega)) hxP_12
    have hxE_13 := RepS.same (Same.set_low hW (by omega)) hxE_12
    have hz_13 := size_of_set hW
    clear hW hBB_12 hBQ_12 hBX_12 hk_12 h_12 hxP_12 hxE_12
    have cB := hBB_13.cell 0
    simp only [List.getElem?_cons_zero] at cB
    have hbl2 := hBB_13.lt
    refine (listed_item n hn r (after L4 (hasB L4 sDISTINCT)) en 0 _ h_13 43 (enters_of Tryd.func43 (by kernel_rfl) rfl) #[] #[.pointer (some ⟨w.heap.size, 0, none⟩)] (itemR en n) (fun wx L' res' hrd hkx hf => item_calls n r w.heap.size L' en wx res' hrd (hBB_13.kp hkx (by omega)) (by omega) hf) r14 hR14.out).mono ?_
    rintro e w14 hpost
    have hres := hRes.out
    clear hRes hR14
    rcases r14 with ⟨pos', code⟩ | ⟨is, L5⟩
    · obtain ⟨rfl, hk_14⟩ := hpost
      simp only [gave]
      go_wp2_with fail
      cases hres
      exact ⟨rfl, rfl, hk_13.trans hk_14⟩
    simp only [Res.bind_ok] at hres
    obtain ⟨v, rfl, hxI, h_14, hkk⟩ := hpost
    have hBB_14 := (hBB_13).kp hkk (by omega)
    have hBQ_14 := (hBQ_13).kp hkk (by omega)
    have hBX_14 := (hBX_13).kp hkk (by omega)
    have hk_14 := hk_13.trans hkk
    have hxP_14 := RepS.same (Same.of_kp hkk fun b hb => by (try unfold From at hb); omega) hxP_13
    have hxE_14 := RepS.same (Same.of_kp hkk fun b hb => by (try unfold From at hb); omega) hxE_13
    have hs_14 := hkk.size
    clear hBB_13 hBQ_13 hBX_13 hk_13 hxP_13 hxE_13 hkk h_13
    have hr_14 := h_14.lt
    clear cB hbl2
    replace hxI := RepS.mono (From.down (lo := w.heap.size + 3) (by omega)) hxI
    obtain ⟨ia, in_, ic, rfl⟩ := hxI.form
    have hRes := Lib.hid hres
    clear hres
    have cB := hBB_14.cell 0
    simp only [List.getElem?_cons_zero] at cB
    have hbl2 := hBB_14.lt
    obtain ⟨x0, x1, x2, x3, x4, x5⟩ := hBX_14.c6
    have fX := hBX_14.frozen
    have hxl := hBX_14.lt
    go_wp2_with fail
    clear cB hbl2
    clear x0 x1 x2 x3 x4 x5 fX hxl
    generalize hW : w14.setCell ⟨(w.heap.size + 2), 3, none⟩ (.slice ia in_ ic) = W15
    have hBB_15 := Blk.set_far hW hBB_14 (by omega)
    have hBQ_15 := Blk.set_far hW hBQ_14 (by omega)
    have hBX_15 := Blk.set_here hW hBX_14 (ds := [.slice pa pn pc, .slice (some ⟨w8.heap.size, 0, none⟩) 1 1, .bool (hasB L4 sDISTINCT), .slice ia in_ ic, .slice none 0 0, .int .i64 (-1)]) rfl
    have hk_15 := Kp.set_new hW hk_14 (by omega)
    have h_15 := Rd.set_far hW h_14 (by omega)
    have hxP_15 := RepS.same (Same.set_low hW (by omega)) hxP_14
    have hxE_15 := RepS.same (Same.set_low hW (by omega)) hxE_14
    have hxI_15 := RepS.same (Same.set_low hW (by omega)) hxI
    have hz_15 := size_of_set hW
    clear hW hBB_14 hBQ_14 hBX_14 hk_14 h_14 hxP_14 hxE_14 hxI
    refine (has_calls r L5 sORDER en 0 _ h_15).mono ?_
    rintro e w16 ⟨rfl, h_16, hkk⟩
    have hBB_16 := (hBB_15).kp hkk (by omega)
    have hBQ_16 := (hBQ_15).kp hkk (by omega)
    have hBX_16 := (hBX_15).kp hkk (by omega)
    have hk_16 := hk_15.trans hkk
    have hxP_16 := RepS.same (Same.of_kp hkk fun b hb => by (try unfold From at hb); omega) hxP_15
    have hxE_16 := RepS.same (Same.of_kp hkk fun b hb => by (try unfold From at hb); omega) hxE_15
    have hxI_16 := RepS.same (Same.of_kp hkk fun b hb => by (try unfold From at hb); omega) hxI_15
    have hs_16 := hkk.size
    clear hBB_15 hBQ_15 hBX_15 hk_15 hxP_15 hxE_15 hxI_15 hkk h_15
    have hr_16 := h_16.lt
    have hres := hRes.out
    clear hRes
    have cB := hBB_16.cell 0
    simp only [List.getElem?_cons_zero] at cB
    have hbl2 := hBB_16.lt
    cases hh : hasB L5 sORDER with
    | true =>
      rw [hh] at h_16
      replace h_16 : Rd w16 r L5.tail en 0 := h_16
      simp only [orderR, hh, if_true, Res.bind_assoc, Res.ret_bind] at hres
      clear hh
      obtain ⟨r17, hr17⟩ := Res.bind_some hres
      rw [hr17] at hres
      have hRes := Lib.hid hres
      have hR17 := Lib.hid hr17
      clear hres hr17
      go_wp2_with fail
      refine (must1_calls r L5.tail sBY w16.heap.size 1 en 0 _ h_16.alloc_ (by simp [go_sem]; rfl) (by omega) r17 hR17.out).mono ?_
      rintro e w17 hpost
      have hres := hRes.out
      clear hRes hR17
      rcases r17 with ⟨pos', code⟩ | ⟨u6, L6⟩
      · obtain ⟨rfl, hk_17⟩ := hpost
        simp only [gave]
        go_wp2_with fail
        cases hres
        exact ⟨rfl, rfl, hk_16.alloc_.trans hk_17⟩
      simp only [Res.bind_ok] at hres
      obtain ⟨v, rfl, rfl, h_17, hkk⟩ := hpost
      have hBB_17 := (hBB_16.alloc_).kp hkk (by omega)
      have hBQ_17 := (hBQ_16.alloc_).kp hkk (by omega)
      have hBX_17 := (hBX_16.alloc_).kp hkk (by omega)
      have hk_17 := hk_16.alloc_.trans hkk
      have hxP_17 := RepS.same (Same.of_kp hkk fun b hb => by (try unfold From at hb); omega) (RepS.same ((Same.refl _ _).alloc (Nat.le_refl _) _) hxP_16)
      have hxE_17 := RepS.same (Same.of_kp hkk fun b hb => by (try unfold From at hb); omega) (RepS.same ((Same.refl _ _).alloc (Nat.le_refl _) _) hxE_16)
      have hxI_17 := RepS.same (Same.of_kp hkk fun b hb => by (try unfold From at hb); omega) (RepS.same ((Same.refl _ _).alloc (Nat.le_refl _) _) hxI_16)
      have hs_17 := hkk.size
      simp only [World.size_alloc] at hs_17
      clear hBB_16 hBQ_16 hBX_16 hk_16 hxP_16 hxE_16 hxI_16 hkk h_16
      have hr_17 := h_17.lt
      clear cB hbl2
      have cB := hBB_17.cell 0
      simp only [List.getElem?_cons_zero] at cB
      have hbl2 := hBB_17.lt
      obtain ⟨r18, hr18⟩ := Res.bind_some hres
      rw [hr18] at hres
      have hRes := Lib.hid hres
      have hR18 := Lib.hid hr18
      clear hres hr18
      go_wp2_with fail
      refine (listed_key n hn r L6 en 0 _ h_17 46 (enters_of Tryd.func46 (by kernel_rfl) rfl) #[] #[.pointer (some ⟨w.heap.size, 0, none⟩)] (keyR en) (fun wx L' res' hrd hkx hf => key_calls r w.heap.size L' en wx res' hrd (hBB_17.kp hkx (by omega)) (by omega) hf) r18 hR18.out).mono ?_
      rintro e w18 hpost
      have hres := hRes.out
      clear hRes hR18
      rcases r18 with ⟨pos', code⟩ | ⟨ks, L7⟩
      · obtain ⟨rfl, hk_18⟩ := hpost
        simp only [gave]
        go_wp2_with fail
        cases hres
        exact ⟨rfl, rfl, hk_17.trans hk_18⟩
      simp only [Res.bind_ok] at hres
      obtain ⟨v, rfl, hxK, h_18, hkk⟩ := hpost
      have hBB_18 := (hBB_17).kp hkk (by omega)
      have hBQ_18 := (hBQ_17).kp hkk (by omega)
      have hBX_18 := (hBX_17).kp hkk (by omega)
      have hk_18 := hk_17.trans hkk
      have hxP_18 := RepS.same (Same.of_kp hkk fun b hb => by (try unfold From at hb); omega) hxP_17
      have hxE_18 := RepS.same (Same.of_kp hkk fun b hb => by (try unfold From at hb); omega) hxE_17
      have hxI_18 := RepS.same (Same.of_kp hkk fun b hb => by (try unfold From at hb); omega) hxI_17
      have hs_18 := hkk.size
      clear hBB_17 hBQ_17 hBX_17 hk_17 hxP_17 hxE_17 hxI_17 hkk h_17
      have hr_18 := h_18.lt
      clear cB hbl2
      replace hxK := RepS.mono (From.down (lo := w.heap.size + 3) (by omega)) hxK
      obtain ⟨ja, jn, jc, rfl⟩ := hxK.form
      have hRes := Lib.hid hres
      clear hres
      have cB := hBB_18.cell 0
      simp only [List.getElem?_cons_zero] at cB
      have hbl2 := hBB_18.lt
      obtain ⟨x0, x1, x2, x3, x4, x5⟩ := hBX_18.c6
      have fX := hBX_18.frozen
      have hxl := hBX_18.lt
      go_wp2_with fail
      clear cB hbl2
      clear x0 x1 x2 x3 x4 x5 fX hxl
      generalize hW : w18.setCell ⟨(w.heap.size + 2), 4, none⟩ (.slice ja jn jc) = W19
      have hBB_19 := Blk.set_far hW hBB_18 (by omega)
      have hBQ_19 := Blk.set_far hW hBQ_18 (by omega)
      have hBX_19 := Blk.set_here hW hBX_18 (ds := [.slice pa pn pc, .slice (some ⟨w8.heap.size, 0, none⟩) 1 1, .bool (hasB L4 sDISTINCT), .slice ia in_ ic, .slice ja jn jc, .int .i64 (-1)]) rfl
      have hk_19 := Kp.set_new hW hk_18 (by omega)
      have h_19 := Rd.set_far hW h_18 (by omega)
      have hxP_19 := RepS.same (Same.set_low hW (by omega)) hxP_18
      have hxE_19 := RepS.same (Same.set_low hW (by omega)) hxE_18
      have hxI_19 := RepS.same (Same.set_low hW (by omega)) hxI_18
      have hxK_19 := RepS.same (Same.set_low hW (by omega)) hxK
      have hz_19 := size_of_set hW
      clear hW hBB_18 hBQ_18 hBX_18 hk_18 h_18 hxP_18 hxE_18 hxI_18 hxK
      refine (has_calls r L7 sLIMIT en 0 _ h_19).mono ?_
      rintro e w20 ⟨rfl, h_20, hkk⟩
      have hBB_20 := (hBB_19).kp hkk (by omega)
      have hBQ_20 := (hBQ_19).kp hkk (by omega)
      have hBX_20 := (hBX_19).kp hkk (by omega)
      have hk_20 := hk_19.trans hkk
      have hxP_20 := RepS.same (Same.of_kp hkk fun b hb => by (try unfold From at hb); omega) hxP_19
      have hxE_20 := RepS.same (Same.of_kp hkk fun b hb => by (try unfold From at hb); omega) hxE_19
      have hxI_20 := RepS.same (Same.of_kp hkk fun b hb => by (try unfold From at hb); omega) hxI_19
      have hxK_20 := RepS.same (Same.of_kp hkk fun b hb => by (try unfold From at hb); omega) hxK_19
      have hs_20 := hkk.size
      clear hBB_19 hBQ_19 hBX_19 hk_19 hxP_19 hxE_19 hxI_19 hxK_19 hkk h_19
      have hr_20 := h_20.lt
      have hres := hRes.out
      clear hRes
      cases hh : hasB L7 sLIMIT with
      | true =>
        rw [hh] at h_20
        replace h_20 : Rd w20 r L7.tail en 0 := h_20
        have cB := hBB_20.cell 0
        simp only [List.getElem?_cons_zero] at cB
        have hbl2 := hBB_20.lt
        simp only [limitR, hh, if_true, Res.bind_assoc, Res.ret_bind] at hres
        obtain ⟨r21, hr21⟩ := Res.bind_some hres
        rw [hr21] at hres
        have hRes := Lib.hid hres
        have hR21 := Lib.hid hr21
        clear hres hr21
        go_wp2_with fail
        refine (number_calls r L7.tail en 0 0 1099511627776 _ h_20 r21 hR21.out).mono ?_
        rintro e w21 hpost
        have hres := hRes.out
        clear hRes hR21
        rcases r21 with ⟨pos', code⟩ | ⟨lim, L8⟩
        · obtain ⟨rfl, hk_21⟩ := hpost
          simp only [gave]
          go_wp2_with fail
          cases hres
          exact ⟨rfl, rfl, hk_20.trans hk_21⟩
        simp only [Res.bind_ok] at hres
        obtain ⟨v, rfl, rfl, h_21, hkk⟩ := hpost
        have hBB_21 := (hBB_20).kp hkk (by omega)
        have hBQ_21 := (hBQ_20).kp hkk (by omega)
        have hBX_21 := (hBX_20).kp hkk (by omega)
        have hk_21 := hk_20.trans hkk
        have hxP_21 := RepS.same (Same.of_kp hkk fun b hb => by (try unfold From at hb); omega) hxP_20
        have hxE_21 := RepS.same (Same.of_kp hkk fun b hb => by (try unfold From at hb); omega) hxE_20
        have hxI_21 := RepS.same (Same.of_kp hkk fun b hb => by (try unfold From at hb); omega) hxI_20
        have hxK_21 := RepS.same (Same.of_kp hkk fun b hb => by (try unfold From at hb); omega) hxK_20
        have hs_21 := hkk.size
        clear hBB_20 hBQ_20 hBX_20 hk_20 hxP_20 hxE_20 hxI_20 hxK_20 hkk h_20
        have hr_21 := h_21.lt
        clear cB hbl2
        cases hres
        obtain ⟨x0, x1, x2, x3, x4, x5⟩ := hBX_21.c6
        have fX := hBX_21.frozen
        have hxl := hBX_21.lt
        have cB := hBB_21.cell 0
        simp only [List.getElem?_cons_zero] at cB
        have hbl2 := hBB_21.lt
        obtain ⟨q0, q1, q2, q3, q4, q5⟩ := hBQ_21.c6
        have fQ := hBQ_21.frozen
        have hql := hBQ_21.lt
        clear hh
        go_wp2_with fail
        refine bodyPost_ret (v := .agg #[.slice pa pn pc, .slice (some ⟨w8.heap.size, 0, none⟩) 1 1, .bool (hasB L4 sDISTINCT), .slice ia in_ ic, .slice ja jn jc, .int .i64 lim]) (by simp [results, Tryd.results24, go_sem, *]) rfl ⟨_, rfl, ⟨_, rfl, ⟨_, _, _, _, rfl, ?_, ?_, ?_, ?_⟩⟩, ?_, ?_⟩
        · exact ((hxP_21).same ((((((((Same.refl _ _).low (by omega)).low (by omega)).low (by omega)).low (by omega)).low (by omega)).low (by omega)).low (by omega))).mono (From.down (by omega))
        · exact ((hxE_21).same ((((((((Same.refl _ _).low (by omega)).low (by omega)).low (by omega)).low (by omega)).low (by omega)).low (by omega)).low (by omega))).mono (From.down (by omega))
        · exact ((hxI_21).same ((((((((Same.refl _ _).low (by omega)).low (by omega)).low (by omega)).low (by omega)).low (by omega)).low (by omega)).low (by omega))).mono (From.down (by omega))
        · exact ((hxK_21).same ((((((((Same.refl _ _).low (by omega)).low (by omega)).low (by omega)).low (by omega)).low (by omega)).low (by omega)).low (by omega))).mono (From.down (by omega))
        · exact (((((((h_21.far_ (by omega)).far_ (by omega)).far_ (by omega)).far_ (by omega)).far_ (by omega)).far_ (by omega)).far_ (by omega))
        · exact (((((((hk_21.new_ (by omega)).new_ (by omega)).new_ (by omega)).new_ (by omega)).new_ (by omega)).new_ (by omega)).new_ (by omega))
      | false =>
        rw [hh] at h_20
        replace h_20 : Rd w20 r L7 en 0 := h_20
        simp only [limitR, hh, if_false, Bool.false_eq_true, Res.ret_bind] at hres
        cases hres
        obtain ⟨x0, x1, x2, x3, x4, x5⟩ := hBX_20.c6
        have fX := hBX_20.frozen
        have hxl := hBX_20.lt
        have cB := hBB_20.cell 0
        simp only [List.getElem?_cons_zero] at cB
        have hbl2 := hBB_20.lt
        obtain ⟨q0, q1, q2, q3, q4, q5⟩ := hBQ_20.c6
        have fQ := hBQ_20.frozen
        have hql := hBQ_20.lt
        clear hh
        go_wp2_with fail
        refine bodyPost_ret (v := .agg #[.slice pa pn pc, .slice (some ⟨w8.heap.size, 0, none⟩) 1 1, .bool (hasB L4 sDISTINCT), .slice ia in_ ic, .slice ja jn jc, .int .i64 (-1)]) (by simp [results, Tryd.results24, go_sem, *]) rfl ⟨_, rfl, ⟨_, rfl, ⟨_, _, _, _, rfl, ?_, ?_, ?_, ?_⟩⟩, ?_, ?_⟩
        · exact ((hxP_20).same (((((((Same.refl _ _).low (by omega)).low (by omega)).low (by omega)).low (by omega)).low (by omega)).low (by omega))).mono (From.down (by omega))
        · exact ((hxE_20).same (((((((Same.refl _ _).low (by omega)).low (by omega)).low (by omega)).low (by omega)).low (by omega)).low (by omega))).mono (From.down (by omega))
        · exact ((hxI_20).same (((((((Same.refl _ _).low (by omega)).low (by omega)).low (by omega)).low (by omega)).low (by omega)).low (by omega))).mono (From.down (by omega))
        · exact ((hxK_20).same (((((((Same.refl _ _).low (by omega)).low (by omega)).low (by omega)).low (by omega)).low (by omega)).low (by omega))).mono (From.down (by omega))
        · exact ((((((h_20.far_ (by omega)).far_ (by omega)).far_ (by omega)).far_ (by omega)).far_ (by omega)).far_ (by omega))
        · exact ((((((hk_20.new_ (by omega)).new_ (by omega)).new_ (by omega)).new_ (by omega)).new_ (by omega)).new_ (by omega))
    | false =>
      rw [hh] at h_16
      replace h_16 : Rd w16 r L5 en 0 := h_16
      simp only [orderR, hh, if_false, Bool.false_eq_true, Res.ret_bind] at hres
      clear hh
      have hRes := Lib.hid hres
      clear hres
      go_wp2_with fail
      clear cB hbl2
      refine (has_calls r L5 sLIMIT en 0 _ h_16).mono ?_
      rintro e w17 ⟨rfl, h_17, hkk⟩
      have hBB_17 := (hBB_16).kp hkk (by omega)
      have hBQ_17 := (hBQ_16).kp hkk (by omega)
      have hBX_17 := (hBX_16).kp hkk (by omega)
      have hk_17 := hk_16.trans hkk
      have hxP_17 := RepS.same (Same.of_kp hkk fun b hb => by (try unfold From at hb); omega) hxP_16
      have hxE_17 := RepS.same (Same.of_kp hkk fun b hb => by (try unfold From at hb); omega) hxE_16
      have hxI_17 := RepS.same (Same.of_kp hkk fun b hb => by (try unfold From at hb); omega) hxI_16
      have hs_17 := hkk.size
      clear hBB_16 hBQ_16 hBX_16 hk_16 hxP_16 hxE_16 hxI_16 hkk h_16
      have hr_17 := h_17.lt
      have hres := hRes.out
      clear hRes
      cases hh : hasB L5 sLIMIT with
      | true =>
        rw [hh] at h_17
        replace h_17 : Rd w17 r L5.tail en 0 := h_17
        have cB := hBB_17.cell 0
        simp only [List.getElem?_cons_zero] at cB
        have hbl2 := hBB_17.lt
        simp only [limitR, hh, if_true, Res.bind_assoc, Res.ret_bind] at hres
        obtain ⟨r18, hr18⟩ := Res.bind_some hres
        rw [hr18] at hres
        have hRes := Lib.hid hres
        have hR18 := Lib.hid hr18
        clear hres hr18
        go_wp2_with fail
        refine (number_calls r L5.tail en 0 0 1099511627776 _ h_17 r18 hR18.out).mono ?_
        rintro e w18 hpost
        have hres := hRes.out
        clear hRes hR18
        rcases r18 with ⟨pos', code⟩ | ⟨lim, L8⟩
        · obtain ⟨rfl, hk_18⟩ := hpost
          simp only [gave]
          go_wp2_with fail
          cases hres
          exact ⟨rfl, rfl, hk_17.trans hk_18⟩
        simp only [Res.bind_ok] at hres
        obtain ⟨v, rfl, rfl, h_18, hkk⟩ := hpost
        have hBB_18 := (hBB_17).kp hkk (by omega)
        have hBQ_18 := (hBQ_17).kp hkk (by omega)
        have hBX_18 := (hBX_17).kp hkk (by omega)
        have hk_18 := hk_17.trans hkk
        have hxP_18 := RepS.same (Same.of_kp hkk fun b hb => by (try unfold From at hb); omega) hxP_17
        have hxE_18 := RepS.same (Same.of_kp hkk fun b hb => by (try unfold From at hb); omega) hxE_17
        have hxI_18 := RepS.same (Same.of_kp hkk fun b hb => by (try unfold From at hb); omega) hxI_17
        have hs_18 := hkk.size
        clear hBB_17 hBQ_17 hBX_17 hk_17 hxP_17 hxE_17 hxI_17 hkk h_17
        have hr_18 := h_18.lt
        clear cB hbl2
        cases hres
        obtain ⟨x0, x1, x2, x3, x4, x5⟩ := hBX_18.c6
        have fX := hBX_18.frozen
        have hxl := hBX_18.lt
        have cB := hBB_18.cell 0
        simp only [List.getElem?_cons_zero] at cB
        have hbl2 := hBB_18.lt
        obtain ⟨q0, q1, q2, q3, q4, q5⟩ := hBQ_18.c6
        have fQ := hBQ_18.frozen
        have hql := hBQ_18.lt
        clear hh
        go_wp2_with fail
        refine bodyPost_ret (v := .agg #[.slice pa pn pc, .slice (some ⟨w8.heap.size, 0, none⟩) 1 1, .bool (hasB L4 sDISTINCT), .slice ia in_ ic, .slice none 0 0, .int .i64 lim]) (by simp [results, Tryd.results24, go_sem, *]) rfl ⟨_, rfl, ⟨_, rfl, ⟨_, _, _, _, rfl, ?_, ?_, ?_, ?_⟩⟩, ?_, ?_⟩
        · exact ((hxP_18).same ((((((((Same.refl _ _).low (by omega)).low (by omega)).low (by omega)).low (by omega)).low (by omega)).low (by omega)).low (by omega))).mono (From.down (by omega))
        · exact ((hxE_18).same ((((((((Same.refl _ _).low (by omega)).low (by omega)).low (by omega)).low (by omega)).low (by omega)).low (by omega)).low (by omega))).mono (From.down (by omega))
        · exact ((hxI_18).same ((((((((Same.refl _ _).low (by omega)).low (by omega)).low (by omega)).low (by omega)).low (by omega)).low (by omega)).low (by omega))).mono (From.down (by omega))
        · exact RepS.nil_
        · exact (((((((h_18.far_ (by omega)).far_ (by omega)).far_ (by omega)).far_ (by omega)).far_ (by omega)).far_ (by omega)).far_ (by omega))
        · exact (((((((hk_18.new_ (by omega)).new_ (by omega)).new_ (by omega)).new_ (by omega)).new_ (by omega)).new_ (by omega)).new_ (by omega))
      | false =>
        rw [hh] at h_17
        replace h_17 : Rd w17 r L5 en 0 := h_17
        simp only [limitR, hh, if_false, Bool.false_eq_true, Res.ret_bind] at hres
        cases hres
        obtain ⟨x0, x1, x2, x3, x4, x5⟩ := hBX_17.c6
        have fX := hBX_17.frozen
        have hxl := hBX_17.lt
        have cB := hBB_17.cell 0
        simp only [List.getElem?_cons_zero] at cB
        have hbl2 := hBB_17.lt
        obtain ⟨q0, q1, q2, q3, q4, q5⟩ := hBQ_17.c6
        have fQ := hBQ_17.frozen
        have hql := hBQ_17.lt
        clear hh
        go_wp2_with fail
        refine bodyPost_ret (v := .agg #[.slice pa pn pc, .slice (some ⟨w8.heap.size, 0, none⟩) 1 1, .bool (hasB L4 sDISTINCT), .slice ia in_ ic, .slice none 0 0, .int .i64 (-1)]) (by simp [results, Tryd.results24, go_sem, *]) rfl ⟨_, rfl, ⟨_, rfl, ⟨_, _, _, _, rfl, ?_, ?_, ?_, ?_⟩⟩, ?_, ?_⟩
        · exact ((hxP_17).same (((((((Same.refl _ _).low (by omega)).low (by omega)).low (by omega)).low (by omega)).low (by omega)).low (by omega))).mono (From.down (by omega))
        · exact ((hxE_17).same (((((((Same.refl _ _).low (by omega)).low (by omega)).low (by omega)).low (by omega)).low (by omega)).low (by omega))).mono (From.down (by omega))
        · exact ((hxI_17).same (((((((Same.refl _ _).low (by omega)).low (by omega)).low (by omega)).low (by omega)).low (by omega)).low (by omega))).mono (From.down (by omega))
        · exact RepS.nil_
        · exact ((((((h_17.far_ (by omega)).far_ (by omega)).far_ (by omega)).far_ (by omega)).far_ (by omega)).far_ (by omega))
        · exact ((((((hk_17.new_ (by omega)).new_ (by omega)).new_ (by omega)).new_ (by omega)).new_ (by omega)).new_ (by omega))
  | false =>
    rw [hh] at h_7
    replace h_7 : Rd w7 r L2 en 0 := h_7
    simp only [whereR, hh, if_false, Bool.false_eq_true, Res.ret_bind] at hres
    clear hh
    obtain ⟨r8, hr8⟩ := Res.bind_some hres
    rw [hr8] at hres
    have hRes := Lib.hid hres
    have hR8 := Lib.hid hr8
    clear hres hr8
    go_wp2_with fail
    refine (must1_calls r L2 sRETURN w7.heap.size 1 en 0 _ h_7.alloc_ (by simp [go_sem]; rfl) (by omega) r8 hR8.out).mono ?_
    rintro e w8 hpost
    have hres := hRes.out
    clear hRes hR8
    rcases r8 with ⟨pos', code⟩ | ⟨u4, L4⟩
    · obtain ⟨rfl, hk_8⟩ := hpost
      simp only [gave]
      go_wp2_with fail
      cases hres
      exact ⟨rfl, rfl, hk_7.alloc_.trans hk_8⟩
    simp only [Res.bind_ok] at hres
    obtain ⟨v, rfl, rfl, h_8, hkk⟩ := hpost
    have hBB_8 := (hBB_7.alloc_).kp hkk (by omega)
    have hBQ_8 := (hBQ_7.alloc_).kp hkk (by omega)
    have hBX_8 := (hBX_7.alloc_).kp hkk (by omega)
    have hk_8 := hk_7.alloc_.trans hkk
    have hxP_8 := RepS.same (Same.of_kp hkk fun b hb => by (try unfold From at hb); omega) (RepS.same ((Same.refl _ _).alloc (Nat.le_refl _) _) hxP_7)
    have hs_8 := hkk.size
    simp only [World.size_alloc] at hs_8
    clear hBB_7 hBQ_7 hBX_7 hk_7 hxP_7 hkk h_7
    have hr_8 := h_8.lt
    clear cB hbl2
    have hRes := Lib.hid hres
    clear hres
    have cB := hBB_8.cell 0
    simp only [List.getElem?_cons_zero] at cB
    have hbl2 := hBB_8.lt
    go_wp2_with fail
    clear cB hbl2
    refine (has_calls r L4 sDISTINCT en 0 _ h_8).mono ?_
    rintro e w9 ⟨rfl, h_9, hkk⟩
    have hBB_9 := (hBB_8).kp hkk (by omega)
    have hBQ_9 := (hBQ_8).kp hkk (by omega)
    have hBX_9 := (hBX_8).kp hkk (by omega)
    have hk_9 := hk_8.trans hkk
    have hxP_9 := RepS.same (Same.of_kp hkk fun b hb => by (try unfold From at hb); omega) hxP_8
    have hs_9 := hkk.size
    clear hBB_8 hBQ_8 hBX_8 hk_8 hxP_8 hkk h_8
    have hr_9 := h_9.lt
    have cB := hBB_9.cell 0
    simp only [List.getElem?_cons_zero] at cB
    have hbl2 := hBB_9.lt
    obtain ⟨x0, x1, x2, x3, x4, x5⟩ := hBX_9.c6
    have fX := hBX_9.frozen
    have hxl := hBX_9.lt
    have hres := hRes.out
    clear hRes
    obtain ⟨r11, hr11⟩ := Res.bind_some hres
    rw [hr11] at hres
    have hRes := Lib.hid hres
    have hR11 := Lib.hid hr11
    clear hres hr11
    go_wp2_with fail
    clear cB hbl2
    clear x0 x1 x2 x3 x4 x5 fX hxl
    generalize hW : w9.setCell ⟨(w.heap.size + 2), 2, none⟩ (.bool (hasB L4 sDISTINCT)) = W10
    have hBB_10 := Blk.set_far hW hBB_9 (by omega)
    have hBQ_10 := Blk.set_far hW hBQ_9 (by omega)
    have hBX_10 := Blk.set_here hW hBX_9 (ds := [.slice pa pn pc, .slice none 0 0, .bool (hasB L4 sDISTINCT), .slice none 0 0, .slice none 0 0, .int .i64 (-1)]) rfl
    have hk_10 := Kp.set_new hW hk_9 (by omega)
    have h_10 := Rd.set_far hW h_9 (by omega)
    have hxP_10 := RepS.same (Same.set_low hW (by omega)) hxP_9
    have hz_10 := size_of_set hW
    clear hW hBB_9 hBQ_9 hBX_9 hk_9 h_9 hxP_9
    have cB := hBB_10.cell 0
    simp only [List.getElem?_cons_zero] at cB
    have hbl2 := hBB_10.lt
    refine (listed_item n hn r (after L4 (hasB L4 sDISTINCT)) en 0 _ h_10 43 (enters_of Tryd.func43 (by kernel_rfl) rfl) #[] #[.pointer (some ⟨w.heap.size, 0, none⟩)] (itemR en n) (fun wx L' res' hrd hkx hf => item_calls n r w.heap.size L' en wx res' hrd (hBB_10.kp hkx (by omega)) (by omega) hf) r11 hR11.out).mono ?_
    rintro e w11 hpost
    have hres := hRes.out
    clear hRes hR11
    rcases r11 with ⟨pos', code⟩ | ⟨is, L5⟩
    · obtain ⟨rfl, hk_11⟩ := hpost
      simp only [gave]
      go_wp2_with fail
      cases hres
      exact ⟨rfl, rfl, hk_10.trans hk_11⟩
    simp only [Res.bind_ok] at hres
    obtain ⟨v, rfl, hxI, h_11, hkk⟩ := hpost
    have hBB_11 := (hBB_10).kp hkk (by omega)
    have hBQ_11 := (hBQ_10).kp hkk (by omega)
    have hBX_11 := (hBX_10).kp hkk (by omega)
    have hk_11 := hk_10.trans hkk
    have hxP_11 := RepS.same (Same.of_kp hkk fun b hb => by (try unfold From at hb); omega) hxP_10
    have hs_11 := hkk.size
    clear hBB_10 hBQ_10 hBX_10 hk_10 hxP_10 hkk h_10
    have hr_11 := h_11.lt
    clear cB hbl2
    replace hxI := RepS.mono (From.down (lo := w.heap.size + 3) (by omega)) hxI
    obtain ⟨ia, in_, ic, rfl⟩ := hxI.form
    have hRes := Lib.hid hres
    clear hres
    have cB := hBB_11.cell 0
    simp only [List.getElem?_cons_zero] at cB
    have hbl2 := hBB_11.lt
    obtain ⟨x0, x1, x2, x3, x4, x5⟩ := hBX_11.c6
    have fX := hBX_11.frozen
    have hxl := hBX_11.lt
    go_wp2_with fail
    clear cB hbl2
    clear x0 x1 x2 x3 x4 x5 fX hxl
    generalize hW : w11.setCell ⟨(w.heap.size + 2), 3, none⟩ (.slice ia in_ ic) = W12
    have hBB_12 := Blk.set_far hW hBB_11 (by omega)
    have hBQ_12 := Blk.set_far hW hBQ_11 (by omega)
    have hBX_12 := Blk.set_here hW hBX_11 (ds := [.slice pa pn pc, .slice none 0 0, .bool (hasB L4 sDISTINCT), .slice ia in_ ic, .slice none 0 0, .int .i64 (-1)]) rfl
    have hk_12 := Kp.set_new hW hk_11 (by omega)
    have h_12 := Rd.set_far hW h_11 (by omega)
    have hxP_12 := RepS.same (Same.set_low hW (by omega)) hxP_11
    have hxI_12 := RepS.same (Same.set_low hW (by omega)) hxI
    have hz_12 := size_of_set hW
    clear hW hBB_11 hBQ_11 hBX_11 hk_11 h_11 hxP_11 hxI
    refine (has_calls r L5 sORDER en 0 _ h_12).mono ?_
    rintro e w13 ⟨rfl, h_13, hkk⟩
    have hBB_13 := (hBB_12).kp hkk (by omega)
    have hBQ_13 := (hBQ_12).kp hkk (by omega)
    have hBX_13 := (hBX_12).kp hkk (by omega)
    have hk_13 := hk_12.trans hkk
    have hxP_13 := RepS.same (Same.of_kp hkk fun b hb => by (try unfold From at hb); omega) hxP_12
    have hxI_13 := RepS.same (Same.of_kp hkk fun b hb => by (try unfold From at hb); omega) hxI_12
    have hs_13 := hkk.size
    clear hBB_12 hBQ_12 hBX_12 hk_12 hxP_12 hxI_12 hkk h_12
    have hr_13 := h_13.lt
    have hres := hRes.out
    clear hRes
    have cB := hBB_13.cell 0
    simp only [List.getElem?_cons_zero] at cB
    have hbl2 := hBB_13.lt
    cases hh : hasB L5 sORDER with
    | true =>
      rw [hh] at h_13
      replace h_13 : Rd w13 r L5.tail en 0 := h_13
      simp only [orderR, hh, if_true, Res.bind_assoc, Res.ret_bind] at hres
      clear hh
      obtain ⟨r14, hr14⟩ := Res.bind_some hres
      rw [hr14] at hres
      have hRes := Lib.hid hres
      have hR14 := Lib.hid hr14
      clear hres hr14
      go_wp2_with fail
      refine (must1_calls r L5.tail sBY w13.heap.size 1 en 0 _ h_13.alloc_ (by simp [go_sem]; rfl) (by omega) r14 hR14.out).mono ?_
      rintro e w14 hpost
      have hres := hRes.out
      clear hRes hR14
      rcases r14 with ⟨pos', code⟩ | ⟨u6, L6⟩
      · obtain ⟨rfl, hk_14⟩ := hpost
        simp only [gave]
        go_wp2_with fail
        cases hres
        exact ⟨rfl, rfl, hk_13.alloc_.trans hk_14⟩
      simp only [Res.bind_ok] at hres
      obtain ⟨v, rfl, rfl, h_14, hkk⟩ := hpost
      have hBB_14 := (hBB_13.alloc_).kp hkk (by omega)
      have hBQ_14 := (hBQ_13.alloc_).kp hkk (by omega)
      have hBX_14 := (hBX_13.alloc_).kp hkk (by omega)
      have hk_14 := hk_13.alloc_.trans hkk
      have hxP_14 := RepS.same (Same.of_kp hkk fun b hb => by (try unfold From at hb); omega) (RepS.same ((Same.refl _ _).alloc (Nat.le_refl _) _) hxP_13)
      have hxI_14 := RepS.same (Same.of_kp hkk fun b hb => by (try unfold From at hb); omega) (RepS.same ((Same.refl _ _).alloc (Nat.le_refl _) _) hxI_13)
      have hs_14 := hkk.size
      simp only [World.size_alloc] at hs_14
      clear hBB_13 hBQ_13 hBX_13 hk_13 hxP_13 hxI_13 hkk h_13
      have hr_14 := h_14.lt
      clear cB hbl2
      have cB := hBB_14.cell 0
      simp only [List.getElem?_cons_zero] at cB
      have hbl2 := hBB_14.lt
      obtain ⟨r15, hr15⟩ := Res.bind_some hres
      rw [hr15] at hres
      have hRes := Lib.hid hres
      have hR15 := Lib.hid hr15
      clear hres hr15
      go_wp2_with fail
      refine (listed_key n hn r L6 en 0 _ h_14 46 (enters_of Tryd.func46 (by kernel_rfl) rfl) #[] #[.pointer (some ⟨w.heap.size, 0, none⟩)] (keyR en) (fun wx L' res' hrd hkx hf => key_calls r w.heap.size L' en wx res' hrd (hBB_14.kp hkx (by omega)) (by omega) hf) r15 hR15.out).mono ?_
      rintro e w15 hpost
      have hres := hRes.out
      clear hRes hR15
      rcases r15 with ⟨pos', code⟩ | ⟨ks, L7⟩
      · obtain ⟨rfl, hk_15⟩ := hpost
        simp only [gave]
        go_wp2_with fail
        cases hres
        exact ⟨rfl, rfl, hk_14.trans hk_15⟩
      simp only [Res.bind_ok] at hres
      obtain ⟨v, rfl, hxK, h_15, hkk⟩ := hpost
      have hBB_15 := (hBB_14).kp hkk (by omega)
      have hBQ_15 := (hBQ_14).kp hkk (by omega)
      have hBX_15 := (hBX_14).kp hkk (by omega)
      have hk_15 := hk_14.trans hkk
      have hxP_15 := RepS.same (Same.of_kp hkk fun b hb => by (try unfold From at hb); omega) hxP_14
      have hxI_15 := RepS.same (Same.of_kp hkk fun b hb => by (try unfold From at hb); omega) hxI_14
      have hs_15 := hkk.size
      clear hBB_14 hBQ_14 hBX_14 hk_14 hxP_14 hxI_14 hkk h_14
      have hr_15 := h_15.lt
      clear cB hbl2
      replace hxK := RepS.mono (From.down (lo := w.heap.size + 3) (by omega)) hxK
      obtain ⟨ja, jn, jc, rfl⟩ := hxK.form
      have hRes := Lib.hid hres
      clear hres
      have cB := hBB_15.cell 0
      simp only [List.getElem?_cons_zero] at cB
      have hbl2 := hBB_15.lt
      obtain ⟨x0, x1, x2, x3, x4, x5⟩ := hBX_15.c6
      have fX := hBX_15.frozen
      have hxl := hBX_15.lt
      go_wp2_with fail
      clear cB hbl2
      clear x0 x1 x2 x3 x4 x5 fX hxl
      generalize hW : w15.setCell ⟨(w.heap.size + 2), 4, none⟩ (.slice ja jn jc) = W16
      have hBB_16 := Blk.set_far hW hBB_15 (by omega)
      have hBQ_16 := Blk.set_far hW hBQ_15 (by omega)
      have hBX_16 := Blk.set_here hW hBX_15 (ds := [.slice pa pn pc, .slice none 0 0, .bool (hasB L4 sDISTINCT), .slice ia in_ ic, .slice ja jn jc, .int .i64 (-1)]) rfl
      have hk_16 := Kp.set_new hW hk_15 (by omega)
      have h_16 := Rd.set_far hW h_15 (by omega)
      have hxP_16 := RepS.same (Same.set_low hW (by omega)) hxP_15
      have hxI_16 := RepS.same (Same.set_low hW (by omega)) hxI_15
      have hxK_16 := RepS.same (Same.set_low hW (by omega)) hxK
      have hz_16 := size_of_set hW
      clear hW hBB_15 hBQ_15 hBX_15 hk_15 h_15 hxP_15 hxI_15 hxK
      refine (has_calls r L7 sLIMIT en 0 _ h_16).mono ?_
      rintro e w17 ⟨rfl, h_17, hkk⟩
      have hBB_17 := (hBB_16).kp hkk (by omega)
      have hBQ_17 := (hBQ_16).kp hkk (by omega)
      have hBX_17 := (hBX_16).kp hkk (by omega)
      have hk_17 := hk_16.trans hkk
      have hxP_17 := RepS.same (Same.of_kp hkk fun b hb => by (try unfold From at hb); omega) hxP_16
      have hxI_17 := RepS.same (Same.of_kp hkk fun b hb => by (try unfold From at hb); omega) hxI_16
      have hxK_17 := RepS.same (Same.of_kp hkk fun b hb => by (try unfold From at hb); omega) hxK_16
      have hs_17 := hkk.size
      clear hBB_16 hBQ_16 hBX_16 hk_16 hxP_16 hxI_16 hxK_16 hkk h_16
      have hr_17 := h_17.lt
      have hres := hRes.out
      clear hRes
      cases hh : hasB L7 sLIMIT with
      | true =>
        rw [hh] at h_17
        replace h_17 : Rd w17 r L7.tail en 0 := h_17
        have cB := hBB_17.cell 0
        simp only [List.getElem?_cons_zero] at cB
        have hbl2 := hBB_17.lt
        simp only [limitR, hh, if_true, Res.bind_assoc, Res.ret_bind] at hres
        obtain ⟨r18, hr18⟩ := Res.bind_some hres
        rw [hr18] at hres
        have hRes := Lib.hid hres
        have hR18 := Lib.hid hr18
        clear hres hr18
        go_wp2_with fail
        refine (number_calls r L7.tail en 0 0 1099511627776 _ h_17 r18 hR18.out).mono ?_
        rintro e w18 hpost
        have hres := hRes.out
        clear hRes hR18
        rcases r18 with ⟨pos', code⟩ | ⟨lim, L8⟩
        · obtain ⟨rfl, hk_18⟩ := hpost
          simp only [gave]
          go_wp2_with fail
          cases hres
          exact ⟨rfl, rfl, hk_17.trans hk_18⟩
        simp only [Res.bind_ok] at hres
        obtain ⟨v, rfl, rfl, h_18, hkk⟩ := hpost
        have hBB_18 := (hBB_17).kp hkk (by omega)
        have hBQ_18 := (hBQ_17).kp hkk (by omega)
        have hBX_18 := (hBX_17).kp hkk (by omega)
        have hk_18 := hk_17.trans hkk
        have hxP_18 := RepS.same (Same.of_kp hkk fun b hb => by (try unfold From at hb); omega) hxP_17
        have hxI_18 := RepS.same (Same.of_kp hkk fun b hb => by (try unfold From at hb); omega) hxI_17
        have hxK_18 := RepS.same (Same.of_kp hkk fun b hb => by (try unfold From at hb); omega) hxK_17
        have hs_18 := hkk.size
        clear hBB_17 hBQ_17 hBX_17 hk_17 hxP_17 hxI_17 hxK_17 hkk h_17
        have hr_18 := h_18.lt
        clear cB hbl2
        cases hres
        obtain ⟨x0, x1, x2, x3, x4, x5⟩ := hBX_18.c6
        have fX := hBX_18.frozen
        have hxl := hBX_18.lt
        have cB := hBB_18.cell 0
        simp only [List.getElem?_cons_zero] at cB
        have hbl2 := hBB_18.lt
        obtain ⟨q0, q1, q2, q3, q4, q5⟩ := hBQ_18.c6
        have fQ := hBQ_18.frozen
        have hql := hBQ_18.lt
        clear hh
        go_wp2_with fail
        refine bodyPost_ret (v := .agg #[.slice pa pn pc, .slice none 0 0, .bool (hasB L4 sDISTINCT), .slice ia in_ ic, .slice ja jn jc, .int .i64 lim]) (by simp [results, Tryd.results24, go_sem, *]) rfl ⟨_, rfl, ⟨_, rfl, ⟨_, _, _, _, rfl, ?_, ?_, ?_, ?_⟩⟩, ?_, ?_⟩
        · exact ((hxP_18).same ((((((((Same.refl _ _).low (by omega)).low (by omega)).low (by omega)).low (by omega)).low (by omega)).low (by omega)).low (by omega))).mono (From.down (by omega))
        · exact RepS.nil_
        · exact ((hxI_18).same ((((((((Same.refl _ _).low (by omega)).low (by omega)).low (by omega)).low (by omega)).low (by omega)).low (by omega)).low (by omega))).mono (From.down (by omega))
        · exact ((hxK_18).same ((((((((Same.refl _ _).low (by omega)).low (by omega)).low (by omega)).low (by omega)).low (by omega)).low (by omega)).low (by omega))).mono (From.down (by omega))
        · exact (((((((h_18.far_ (by omega)).far_ (by omega)).far_ (by omega)).far_ (by omega)).far_ (by omega)).far_ (by omega)).far_ (by omega))
        · exact (((((((hk_18.new_ (by omega)).new_ (by omega)).new_ (by omega)).new_ (by omega)).new_ (by omega)).new_ (by omega)).new_ (by omega))
      | false =>
        rw [hh] at h_17
        replace h_17 : Rd w17 r L7 en 0 := h_17
        simp only [limitR, hh, if_false, Bool.false_eq_true, Res.ret_bind] at hres
        cases hres
        obtain ⟨x0, x1, x2, x3, x4, x5⟩ := hBX_17.c6
        have fX := hBX_17.frozen
        have hxl := hBX_17.lt
        have cB := hBB_17.cell 0
        simp only [List.getElem?_cons_zero] at cB
        have hbl2 := hBB_17.lt
        obtain ⟨q0, q1, q2, q3, q4, q5⟩ := hBQ_17.c6
        have fQ := hBQ_17.frozen
        have hql := hBQ_17.lt
        clear hh
        go_wp2_with fail
        refine bodyPost_ret (v := .agg #[.slice pa pn pc, .slice none 0 0, .bool (hasB L4 sDISTINCT), .slice ia in_ ic, .slice ja jn jc, .int .i64 (-1)]) (by simp [results, Tryd.results24, go_sem, *]) rfl ⟨_, rfl, ⟨_, rfl, ⟨_, _, _, _, rfl, ?_, ?_, ?_, ?_⟩⟩, ?_, ?_⟩
        · exact ((hxP_17).same (((((((Same.refl _ _).low (by omega)).low (by omega)).low (by omega)).low (by omega)).low (by omega)).low (by omega))).mono (From.down (by omega))
        · exact RepS.nil_
        · exact ((hxI_17).same (((((((Same.refl _ _).low (by omega)).low (by omega)).low (by omega)).low (by omega)).low (by omega)).low (by omega))).mono (From.down (by omega))
        · exact ((hxK_17).same (((((((Same.refl _ _).low (by omega)).low (by omega)).low (by omega)).low (by omega)).low (by omega)).low (by omega))).mono (From.down (by omega))
        · exact ((((((h_17.far_ (by omega)).far_ (by omega)).far_ (by omega)).far_ (by omega)).far_ (by omega)).far_ (by omega))
        · exact ((((((hk_17.new_ (by omega)).new_ (by omega)).new_ (by omega)).new_ (by omega)).new_ (by omega)).new_ (by omega))
    | false =>
      rw [hh] at h_13
      replace h_13 : Rd w13 r L5 en 0 := h_13
      simp only [orderR, hh, if_false, Bool.false_eq_true, Res.ret_bind] at hres
      clear hh
      have hRes := Lib.hid hres
      clear hres
      go_wp2_with fail
      clear cB hbl2
      refine (has_calls r L5 sLIMIT en 0 _ h_13).mono ?_
      rintro e w14 ⟨rfl, h_14, hkk⟩
      have hBB_14 := (hBB_13).kp hkk (by omega)
      have hBQ_14 := (hBQ_13).kp hkk (by omega)
      have hBX_14 := (hBX_13).kp hkk (by omega)
      have hk_14 := hk_13.trans hkk
      have hxP_14 := RepS.same (Same.of_kp hkk fun b hb => by (try unfold From at hb); omega) hxP_13
      have hxI_14 := RepS.same (Same.of_kp hkk fun b hb => by (try unfold From at hb); omega) hxI_13
      have hs_14 := hkk.size
      clear hBB_13 hBQ_13 hBX_13 hk_13 hxP_13 hxI_13 hkk h_13
      have hr_14 := h_14.lt
      have hres := hRes.out
      clear hRes
      cases hh : hasB L5 sLIMIT with
      | true =>
        rw [hh] at h_14
        replace h_14 : Rd w14 r L5.tail en 0 := h_14
        have cB := hBB_14.cell 0
        simp only [List.getElem?_cons_zero] at cB
        have hbl2 := hBB_14.lt
        simp only [limitR, hh, if_true, Res.bind_assoc, Res.ret_bind] at hres
        obtain ⟨r15, hr15⟩ := Res.bind_some hres
        rw [hr15] at hres
        have hRes := Lib.hid hres
        have hR15 := Lib.hid hr15
        clear hres hr15
        go_wp2_with fail
        refine (number_calls r L5.tail en 0 0 1099511627776 _ h_14 r15 hR15.out).mono ?_
        rintro e w15 hpost
        have hres := hRes.out
        clear hRes hR15
        rcases r15 with ⟨pos', code⟩ | ⟨lim, L8⟩
        · obtain ⟨rfl, hk_15⟩ := hpost
          simp only [gave]
          go_wp2_with fail
          cases hres
          exact ⟨rfl, rfl, hk_14.trans hk_15⟩
        simp only [Res.bind_ok] at hres
        obtain ⟨v, rfl, rfl, h_15, hkk⟩ := hpost
        have hBB_15 := (hBB_14).kp hkk (by omega)
        have hBQ_15 := (hBQ_14).kp hkk (by omega)
        have hBX_15 := (hBX_14).kp hkk (by omega)
        have hk_15 := hk_14.trans hkk
        have hxP_15 := RepS.same (Same.of_kp hkk fun b hb => by (try unfold From at hb); omega) hxP_14
        have hxI_15 := RepS.same (Same.of_kp hkk fun b hb => by (try unfold From at hb); omega) hxI_14
        have hs_15 := hkk.size
        clear hBB_14 hBQ_14 hBX_14 hk_14 hxP_14 hxI_14 hkk h_14
        have hr_15 := h_15.lt
        clear cB hbl2
        cases hres
        obtain ⟨x0, x1, x2, x3, x4, x5⟩ := hBX_15.c6
        have fX := hBX_15.frozen
        have hxl := hBX_15.lt
        have cB := hBB_15.cell 0
        simp only [List.getElem?_cons_zero] at cB
        have hbl2 := hBB_15.lt
        obtain ⟨q0, q1, q2, q3, q4, q5⟩ := hBQ_15.c6
        have fQ := hBQ_15.frozen
        have hql := hBQ_15.lt
        clear hh
        go_wp2_with fail
        refine bodyPost_ret (v := .agg #[.slice pa pn pc, .slice none 0 0, .bool (hasB L4 sDISTINCT), .slice ia in_ ic, .slice none 0 0, .int .i64 lim]) (by simp [results, Tryd.results24, go_sem, *]) rfl ⟨_, rfl, ⟨_, rfl, ⟨_, _, _, _, rfl, ?_, ?_, ?_, ?_⟩⟩, ?_, ?_⟩
        · exact ((hxP_15).same ((((((((Same.refl _ _).low (by omega)).low (by omega)).low (by omega)).low (by omega)).low (by omega)).low (by omega)).low (by omega))).mono (From.down (by omega))
        · exact RepS.nil_
        · exact ((hxI_15).same ((((((((Same.refl _ _).low (by omega)).low (by omega)).low (by omega)).low (by omega)).low (by omega)).low (by omega)).low (by omega))).mono (From.down (by omega))
        · exact RepS.nil_
        · exact (((((((h_15.far_ (by omega)).far_ (by omega)).far_ (by omega)).far_ (by omega)).far_ (by omega)).far_ (by omega)).far_ (by omega))
        · exact (((((((hk_15.new_ (by omega)).new_ (by omega)).new_ (by omega)).new_ (by omega)).new_ (by omega)).new_ (by omega)).new_ (by omega))
      | false =>
        rw [hh] at h_14
        replace h_14 : Rd w14 r L5 en 0 := h_14
        simp only [limitR, hh, if_false, Bool.false_eq_true, Res.ret_bind] at hres
        cases hres
        obtain ⟨x0, x1, x2, x3, x4, x5⟩ := hBX_14.c6
        have fX := hBX_14.frozen
        have hxl := hBX_14.lt
        have cB := hBB_14.cell 0
        simp only [List.getElem?_cons_zero] at cB
        have hbl2 := hBB_14.lt
        obtain ⟨q0, q1, q2, q3, q4, q5⟩ := hBQ_14.c6
        have fQ := hBQ_14.frozen
        have hql := hBQ_14.lt
        clear hh
        go_wp2_with fail
        refine bodyPost_ret (v := .agg #[.slice pa pn pc, .slice none 0 0, .bool (hasB L4 sDISTINCT), .slice ia in_ ic, .slice none 0 0, .int .i64 (-1)]) (by simp [results, Tryd.results24, go_sem, *]) rfl ⟨_, rfl, ⟨_, rfl, ⟨_, _, _, _, rfl, ?_, ?_, ?_, ?_⟩⟩, ?_, ?_⟩
        · exact ((hxP_14).same (((((((Same.refl _ _).low (by omega)).low (by omega)).low (by omega)).low (by omega)).low (by omega)).low (by omega))).mono (From.down (by omega))
        · exact RepS.nil_
        · exact ((hxI_14).same (((((((Same.refl _ _).low (by omega)).low (by omega)).low (by omega)).low (by omega)).low (by omega)).low (by omega))).mono (From.down (by omega))
        · exact RepS.nil_
        · exact ((((((h_14.far_ (by omega)).far_ (by omega)).far_ (by omega)).far_ (by omega)).far_ (by omega)).far_ (by omega))
        · exact ((((((hk_14.new_ (by omega)).new_ (by omega)).new_ (by omega)).new_ (by omega)).new_ (by omega)).new_ (by omega))
end Go.Proofs.YtaonmhegnnpgaaaDoor
