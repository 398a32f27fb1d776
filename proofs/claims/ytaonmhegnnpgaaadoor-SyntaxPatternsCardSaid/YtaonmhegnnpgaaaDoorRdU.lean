/- The contract of edge. No condition. -/
import Derived.Test.YtaonmhegnnpgaaaDoorRdT
namespace Go.Proofs.YtaonmhegnnpgaaaDoor
open Go Go.RowKit

theorem Res.bind_assoc {α β γ : Type} (x : Res α) (f : α → List Tok → Res β) (g : β → List Tok → Res γ) : (x.bind f).bind g = x.bind fun a l => (f a l).bind g := by
  rcases x with _ | ⟨e | ⟨a, l⟩⟩ <;> rfl
theorem Res.ret_bind {α β : Type} (a : α) (l : List Tok) (f : α → List Tok → Res β) : (Res.ret a l).bind f = f a l := rfl
/-- Six cells of a block, as the walk reads them. -/
theorem Blk.c6 {w : World} {g : Nat} {t : TypeId} {v0 v1 v2 v3 v4 v5 : Value} (h : Blk w g t [v0, v1, v2, v3, v4, v5]) :
    w.cell? ⟨g, 0, none⟩ = some v0 ∧ w.cell? ⟨g, 1, none⟩ = some v1 ∧ w.cell? ⟨g, 2, none⟩ = some v2 ∧ w.cell? ⟨g, 3, none⟩ = some v3 ∧ w.cell? ⟨g, 4, none⟩ = some v4 ∧ w.cell? ⟨g, 5, none⟩ = some v5 :=
  ⟨h.cell 0, h.cell 1, h.cell 2, h.cell 3, h.cell 4, h.cell 5⟩

set_option maxRecDepth 100000 in
set_option maxHeartbeats 4000000 in
theorem edge_true (r : Nat) (L : List Tok) (en d : Int) (w : World) (res : Except (Int × Int) (EdgeP × List Tok)) (h : Rd w r L en d) (hres : edgeR en true L = some res) :
    Calls Tryd.prog 59 #[.pointer (some ⟨r, 0, none⟩), .bool true] w (Post r en d w (LVal layEdge w.heap.size) res) := by
  have hRes := Lib.hid hres
  clear hres
  have hr := h.lt
  go_enter Tryd.func59, Tryd.ntmps59
  go_wp2_with fail
  generalize hW : w.alloc (.cells #[.string ⟨#[]⟩, .string ⟨#[]⟩, .bool false, .int .i64 0, .int .i64 0, .int .i64 0] 45) = W1
  have hBQ_1 := Blk.new_of (cs := [.string ⟨#[]⟩, .string ⟨#[]⟩, .bool false, .int .i64 0, .int .i64 0, .int .i64 0]) hW
  have hk_1 := Kp.of_alloc hW (Kp.refl r w)
  have h_1 := Rd.of_alloc hW h
  have hz_1 := size_of_alloc hW
  clear hW
  generalize hW : W1.alloc (.cells #[.string ⟨#[]⟩, .string ⟨#[]⟩, .bool true, .int .i64 0, .int .i64 0, .int .i64 0] 45) = W2
  have hBX_2 := Blk.new_of (cs := [.string ⟨#[]⟩, .string ⟨#[]⟩, .bool true, .int .i64 0, .int .i64 0, .int .i64 0]) hW
  have hBQ_2 := Blk.of_alloc hW hBQ_1
  have hk_2 := Kp.of_alloc hW hk_1
  have h_2 := Rd.of_alloc hW h_1
  have hz_2 := size_of_alloc hW
  clear hW hBQ_1 hk_1 h_1
  simp only [hz_1] at hBX_2
  have hres := hRes.out
  clear hRes
  simp only [edgeR, if_true, Res.ret_bind] at hres
  obtain ⟨r3, hr3⟩ := Res.bind_some hres
  rw [hr3] at hres
  have hRes := Lib.hid hres
  have hR3 := Lib.hid hr3
  clear hres hr3
  refine (must1_calls r L sMinus (w.heap.size + 1 + 1) 1 en d _ h_2.alloc_ (by rw [← hz_1, ← hz_2]; exact (Blk.new W2 _ [.string sMinus]).cell 0) (by omega) r3 hR3.out).mono ?_
  rintro e w3 hpost
  have hres := hRes.out
  clear hRes hR3
  rcases r3 with ⟨pos', code⟩ | ⟨u0, L0⟩
  · obtain ⟨rfl, hk_3⟩ := hpost
    simp only [gave]
    go_wp2_with fail
    cases hres
    exact ⟨rfl, rfl, hk_2.alloc_.trans hk_3⟩
  simp only [Res.bind_ok] at hres
  obtain ⟨v, rfl, rfl, h_3, hkk⟩ := hpost
  have hBQ_3 := (hBQ_2.alloc_).kp hkk (by omega)
  have hBX_3 := (hBX_2.alloc_).kp hkk (by omega)
  have hk_3 := hk_2.alloc_.trans hkk
  have hs_3 := hkk.size
  simp only [World.size_alloc] at hs_3
  clear hBQ_2 hBX_2 hk_2 hkk h_2
  have hr_3 := h_3.lt
  obtain ⟨r4, hr4⟩ := Res.bind_some hres
  rw [hr4] at hres
  have hRes := Lib.hid hres
  have hR4 := Lib.hid hr4
  clear hres hr4
  go_wp2_with fail
  refine (must1_calls r L0 sSqO w3.heap.size 1 en d _ h_3.alloc_ (by simp [go_sem]; rfl) (by omega) r4 hR4.out).mono ?_
  rintro e w4 hpost
  have hres := hRes.out
  clear hRes hR4
  rcases r4 with ⟨pos', code⟩ | ⟨u1, L1⟩
  · obtain ⟨rfl, hk_4⟩ := hpost
    simp only [gave]
    go_wp2_with fail
    cases hres
    exact ⟨rfl, rfl, hk_3.alloc_.trans hk_4⟩
  simp only [Res.bind_ok] at hres
  obtain ⟨v, rfl, rfl, h_4, hkk⟩ := hpost
  have hBQ_4 := (hBQ_3.alloc_).kp hkk (by omega)
  have hBX_4 := (hBX_3.alloc_).kp hkk (by omega)
  have hk_4 := hk_3.alloc_.trans hkk
  have hs_4 := hkk.size
  simp only [World.size_alloc] at hs_4
  clear hBQ_3 hBX_3 hk_3 hkk h_3
  have hr_4 := h_4.lt
  obtain ⟨r5, hr5⟩ := Res.bind_some hres
  rw [hr5] at hres
  have hRes := Lib.hid hres
  have hR5 := Lib.hid hr5
  clear hres hr5
  go_wp2_with fail
  refine (named_calls r L1 emp en d _ h_4 r5 hR5.out).mono ?_
  rintro e w5 hpost
  have hres := hRes.out
  clear hRes hR5
  rcases r5 with ⟨pos', code⟩ | ⟨nm, L2⟩
  · obtain ⟨rfl, hk_5⟩ := hpost
    simp only [gave]
    go_wp2_with fail
    cases hres
    exact ⟨rfl, rfl, hk_4.trans hk_5⟩
  simp only [Res.bind_ok] at hres
  obtain ⟨v, rfl, rfl, h_5, hkk⟩ := hpost
  have hBQ_5 := (hBQ_4).kp hkk (by omega)
  have hBX_5 := (hBX_4).kp hkk (by omega)
  have hk_5 := hk_4.trans hkk
  have hs_5 := hkk.size
  clear hBQ_4 hBX_4 hk_4 hkk h_4
  have hr_5 := h_5.lt
  obtain ⟨x0, x1, x2, x3, x4, x5⟩ := hBX_5.c6
  have fX := hBX_5.frozen
  have hxl := hBX_5.lt
  obtain ⟨r7, hr7⟩ := Res.bind_some hres
  rw [hr7] at hres
  have hRes := Lib.hid hres
  have hR7 := Lib.hid hr7
  clear hres hr7
  go_wp2_with fail
  clear x0 x1 x2 x3 x4 x5 fX hxl
  generalize hW : w5.setCell ⟨(w.heap.size + 1), 0, none⟩ (.string nm) = W6
  have hBQ_6 := Blk.set_far hW hBQ_5 (by omega)
  have hBX_6 := Blk.set_here hW hBX_5 (ds := [.string nm, .string ⟨#[]⟩, .bool true, .int .i64 0, .int .i64 0, .int .i64 0]) rfl
  have hk_6 := Kp.set_new hW hk_5 (by omega)
  have h_6 := Rd.set_far hW h_5 (by omega)
  have hz_6 := size_of_set hW
  clear hW hBQ_5 hBX_5 hk_5 h_5
  refine (named_calls r L2 sColon en d _ h_6 r7 hR7.out).mono ?_
  rintro e w7 hpost
  have hres := hRes.out
  clear hRes hR7
  rcases r7 with ⟨pos', code⟩ | ⟨lb, L3⟩
  · obtain ⟨rfl, hk_7⟩ := hpost
    simp only [gave]
    go_wp2_with fail
    cases hres
    exact ⟨rfl, rfl, hk_6.trans hk_7⟩
  simp only [Res.bind_ok] at hres
  obtain ⟨v, rfl, rfl, h_7, hkk⟩ := hpost
  have hBQ_7 := (hBQ_6).kp hkk (by omega)
  have hBX_7 := (hBX_6).kp hkk (by omega)
  have hk_7 := hk_6.trans hkk
  have hs_7 := hkk.size
  clear hBQ_6 hBX_6 hk_6 hkk h_6
  have hr_7 := h_7.lt
  obtain ⟨x0, x1, x2, x3, x4, x5⟩ := hBX_7.c6
  have fX := hBX_7.frozen
  have hxl := hBX_7.lt
  have hRes := Lib.hid hres
  clear hres
  go_wp2_with fail
  clear x0 x1 x2 x3 x4 x5 fX hxl
  generalize hW : w7.setCell ⟨(w.heap.size + 1), 1, none⟩ (.string lb) = W8
  have hBQ_8 := Blk.set_far hW hBQ_7 (by omega)
  have hBX_8 := Blk.set_here hW hBX_7 (ds := [.string nm, .string lb, .bool true, .int .i64 0, .int .i64 0, .int .i64 0]) rfl
  have hk_8 := Kp.set_new hW hk_7 (by omega)
  have h_8 := Rd.set_far hW h_7 (by omega)
  have hz_8 := size_of_set hW
  clear hW hBQ_7 hBX_7 hk_7 h_7
  refine (has_calls r L3 sStar en d _ h_8).mono ?_
  rintro e w9 ⟨rfl, h_9, hkk⟩
  have hBQ_9 := (hBQ_8).kp hkk (by omega)
  have hBX_9 := (hBX_8).kp hkk (by omega)
  have hk_9 := hk_8.trans hkk
  have hs_9 := hkk.size
  clear hBQ_8 hBX_8 hk_8 hkk h_8
  have hr_9 := h_9.lt
  have hres := hRes.out
  clear hRes
  cases hh : hasB L3 sStar with
  | false =>
    rw [hh] at h_9
    replace h_9 : Rd w9 r L3 en d := h_9
    simp only [wayR, hh, if_false, Bool.false_eq_true, Res.ret_bind] at hres
    obtain ⟨r10, hr10⟩ := Res.bind_some hres
    rw [hr10] at hres
    have hRes := Lib.hid hres
    have hR10 := Lib.hid hr10
    clear hres hr10
    go_wp2_with fail
    refine (must_calls r L3 [sSqC, sMinus] (some ⟨w9.heap.size, 0, none⟩) 2 en d _ h_9.alloc_ (CellsAt.new _ _ [.string sSqC, .string sMinus] (by omega)) (by simp) r10 hR10.out).mono ?_
    rintro e w10 hpost
    have hres := hRes.out
    clear hRes hR10
    rcases r10 with ⟨pos', code⟩ | ⟨ua, La⟩
    · obtain ⟨rfl, hk_10⟩ := hpost
      simp only [gave]
      go_wp2_with fail
      cases hres
      exact ⟨rfl, rfl, hk_9.alloc_.trans hk_10⟩
    simp only [Res.bind_ok] at hres
    obtain ⟨v, rfl, rfl, h_10, hkk⟩ := hpost
    have hBQ_10 := (hBQ_9.alloc_).kp hkk (by omega)
    have hBX_10 := (hBX_9.alloc_).kp hkk (by omega)
    have hk_10 := hk_9.alloc_.trans hkk
    have hs_10 := hkk.size
    simp only [World.size_alloc] at hs_10
    clear hBQ_9 hBX_9 hk_9 hkk h_9
    have hr_10 := h_10.lt
    cases hres
    obtain ⟨x0, x1, x2, x3, x4, x5⟩ := hBX_10.c6
    have fQ := hBQ_10.frozen
    obtain ⟨q0, q1, q2, q3, q4, q5⟩ := hBQ_10.c6
    go_wp2_with fail
    refine bodyPost_ret (v := .agg #[.string nm, .string lb, .bool true, .int .i64 0, .int .i64 0, .int .i64 0]) (by simp [results, Tryd.results59, go_sem, *]) rfl ⟨_, rfl, ⟨_, rfl, rfl⟩, ?_, ?_⟩
    · exact ((((((h_10.far_ (by omega)).far_ (by omega)).far_ (by omega)).far_ (by omega)).far_ (by omega)).far_ (by omega))
    · exact ((((((hk_10.new_ (by omega)).new_ (by omega)).new_ (by omega)).new_ (by omega)).new_ (by omega)).new_ (by omega))
  | true =>
    rw [hh] at h_9
    replace h_9 : Rd w9 r L3.tail en d := h_9
    simp only [wayR, hh, if_true] at hres
    have hRes := Lib.hid hres
    clear hres hh
    go_wp2_with fail
    refine (has_calls r L3.tail sSHORTEST en d _ h_9).mono ?_
    rintro e w10 ⟨rfl, h_10, hkk⟩
    have hBQ_10 := (hBQ_9).kp hkk (by omega)
    have hBX_10 := (hBX_9).kp hkk (by omega)
    have hk_10 := hk_9.trans hkk
    have hs_10 := hkk.size
    clear hBQ_9 hBX_9 hk_9 hkk h_9
    have hr_10 := h_10.lt
    have hres := hRes.out
    clear hRes
    cases hg : hasB L3.tail sSHORTEST with
    | true =>
      rw [hg] at h_10
      replace h_10 : Rd w10 r L3.tail.tail en d := h_10
      simp only [hg, if_true, Res.bind_assoc, Res.ret_bind] at hres
      clear hg
      obtain ⟨r11, hr11⟩ := Res.bind_some hres
      rw [hr11] at hres
      have hRes := Lib.hid hres
      have hR11 := Lib.hid hr11
      clear hres hr11
      go_wp2_with fail
      refine (number_calls r L3.tail.tail en d 1 8 _ h_10 r11 hR11.out).mono ?_
      rintro e w11 hpost
      have hres := hRes.out
      clear hRes hR11
      rcases r11 with ⟨pos', code⟩ | ⟨m, L4⟩
      · obtain ⟨rfl, hk_11⟩ := hpost
        simp only [gave]
        go_wp2_with fail
        cases hres
        exact ⟨rfl, rfl, hk_10.trans hk_11⟩
      simp only [Res.bind_ok] at hres
      obtain ⟨v, rfl, rfl, h_11, hkk⟩ := hpost
      have hBQ_11 := (hBQ_10).kp hkk (by omega)
      have hBX_11 := (hBX_10).kp hkk (by omega)
      have hk_11 := hk_10.trans hkk
      have hs_11 := hkk.size
      clear hBQ_10 hBX_10 hk_10 hkk h_10
      have hr_11 := h_11.lt
      obtain ⟨x0, x1, x2, x3, x4, x5⟩ := hBX_11.c6
      have fX := hBX_11.frozen
      have hxl := hBX_11.lt
      obtain ⟨r14, hr14⟩ := Res.bind_some hres
      rw [hr14] at hres
      have hRes := Lib.hid hres
      have hR14 := Lib.hid hr14
      clear hres hr14
      go_wp2_with fail
      clear x0 x1 x2 x3 x4 x5 fX hxl
      generalize hW : w11.setCell ⟨(w.heap.size + 1), 3, none⟩ (.int .i64 2) = W12
      have hBQ_12 := Blk.set_far hW hBQ_11 (by omega)
      have hBX_12 := Blk.set_here hW hBX_11 (ds := [.string nm, .string lb, .bool true, .int .i64 2, .int .i64 0, .int .i64 0]) rfl
      have hk_12 := Kp.set_new hW hk_11 (by omega)
      have h_12 := Rd.set_far hW h_11 (by omega)
      have hz_12 := size_of_set hW
      clear hW hBQ_11 hBX_11 hk_11 h_11
      generalize hW : W12.setCell ⟨(w.heap.size + 1), 5, none⟩ (.int .i64 m) = W13
      have hBQ_13 := Blk.set_far hW hBQ_12 (by omega)
      have hBX_13 := Blk.set_here hW hBX_12 (ds := [.string nm, .string lb, .bool true, .int .i64 2, .int .i64 0, .int .i64 m]) rfl
      have hk_13 := Kp.set_new hW hk_12 (by omega)
      have h_13 := Rd.set_far hW h_12 (by omega)
      have hz_13 := size_of_set hW
      clear hW hBQ_12 hBX_12 hk_12 h_12
      refine (must_calls r L4 [sSqC, sMinus] (some ⟨w11.heap.size, 0, none⟩) 2 en d _ h_13.alloc_ (by rw [← hz_12, ← hz_13]; exact CellsAt.new _ _ [.string sSqC, .string sMinus] (by omega)) (by simp) r14 hR14.out).mono ?_
      rintro e w14 hpost
      have hres := hRes.out
      clear hRes hR14
      rcases r14 with ⟨pos', code⟩ | ⟨ua, La⟩
      · obtain ⟨rfl, hk_14⟩ := hpost
        simp only [gave]
        go_wp2_with fail
        cases hres
        exact ⟨rfl, rfl, hk_13.alloc_.trans hk_14⟩
      simp only [Res.bind_ok] at hres
      obtain ⟨v, rfl, rfl, h_14, hkk⟩ := hpost
      have hBQ_14 := (hBQ_13.alloc_).kp hkk (by omega)
      have hBX_14 := (hBX_13.alloc_).kp hkk (by omega)
      have hk_14 := hk_13.alloc_.trans hkk
      have hs_14 := hkk.size
      simp only [World.size_alloc] at hs_14
      clear hBQ_13 hBX_13 hk_13 hkk h_13
      have hr_14 := h_14.lt
      cases hres
      obtain ⟨x0, x1, x2, x3, x4, x5⟩ := hBX_14.c6
      have fQ := hBQ_14.frozen
      obtain ⟨q0, q1, q2, q3, q4, q5⟩ := hBQ_14.c6
      go_wp2_with fail
      refine bodyPost_ret (v := .agg #[.string nm, .string lb, .bool true, .int .i64 2, .int .i64 0, .int .i64 m]) (by simp [results, Tryd.results59, go_sem, *]) rfl ⟨_, rfl, ⟨_, rfl, rfl⟩, ?_, ?_⟩
      · exact ((((((h_14.far_ (by omega)).far_ (by omega)).far_ (by omega)).far_ (by omega)).far_ (by omega)).far_ (by omega))
      · exact ((((((hk_14.new_ (by omega)).new_ (by omega)).new_ (by omega)).new_ (by omega)).new_ (by omega)).new_ (by omega))
    | false =>
      rw [hg] at h_10
      replace h_10 : Rd w10 r L3.tail en d := h_10
      simp only [hg, if_false, Bool.false_eq_true, Res.bind_assoc, Res.ret_bind] at hres
      clear hg
      obtain ⟨r11, hr11⟩ := Res.bind_some hres
      rw [hr11] at hres
      have hRes := Lib.hid hres
      have hR11 := Lib.hid hr11
      clear hres hr11
      go_wp2_with fail
      refine (number_calls r L3.tail en d 0 8 _ h_10 r11 hR11.out).mono ?_
      rintro e w11 hpost
      have hres := hRes.out
      clear hRes hR11
      rcases r11 with ⟨pos', code⟩ | ⟨m, L4⟩
      · obtain ⟨rfl, hk_11⟩ := hpost
        simp only [gave]
        go_wp2_with fail
        cases hres
        exact ⟨rfl, rfl, hk_10.trans hk_11⟩
      simp only [Res.bind_ok] at hres
      obtain ⟨v, rfl, rfl, h_11, hkk⟩ := hpost
      have hBQ_11 := (hBQ_10).kp hkk (by omega)
      have hBX_11 := (hBX_10).kp hkk (by omega)
      have hk_11 := hk_10.trans hkk
      have hs_11 := hkk.size
      clear hBQ_10 hBX_10 hk_10 hkk h_10
      have hr_11 := h_11.lt
      obtain ⟨x0, x1, x2, x3, x4, x5⟩ := hBX_11.c6
      have fX := hBX_11.frozen
      have hxl := hBX_11.lt
      obtain ⟨r14, hr14⟩ := Res.bind_some hres
      rw [hr14] at hres
      have hRes := Lib.hid hres
      have hR14 := Lib.hid hr14
      clear hres hr14
      go_wp2_with fail
      clear x0 x1 x2 x3 x4 x5 fX hxl
      generalize hW : w11.setCell ⟨(w.heap.size + 1), 3, none⟩ (.int .i64 1) = W12
      have hBQ_12 := Blk.set_far hW hBQ_11 (by omega)
      have hBX_12 := Blk.set_here hW hBX_11 (ds := [.string nm, .string lb, .bool true, .int .i64 1, .int .i64 0, .int .i64 0]) rfl
      have hk_12 := Kp.set_new hW hk_11 (by omega)
      have h_12 := Rd.set_far hW h_11 (by omega)
      have hz_12 := size_of_set hW
      clear hW hBQ_11 hBX_11 hk_11 h_11
      generalize hW : W12.setCell ⟨(w.heap.size + 1), 4, none⟩ (.int .i64 m) = W13
      have hBQ_13 := Blk.set_far hW hBQ_12 (by omega)
      have hBX_13 := Blk.set_here hW hBX_12 (ds := [.string nm, .string lb, .bool true, .int .i64 1, .int .i64 m, .int .i64 0]) rfl
      have hk_13 := Kp.set_new hW hk_12 (by omega)
      have h_13 := Rd.set_far hW h_12 (by omega)
      have hz_13 := size_of_set hW
      clear hW hBQ_12 hBX_12 hk_12 h_12
      refine (must1_calls r L4 sDots w11.heap.size 1 en d _ h_13.alloc_ (by rw [← hz_12, ← hz_13]; exact (Blk.new W13 _ [.string sDots]).cell 0) (by omega) r14 hR14.out).mono ?_
      rintro e w14 hpost
      have hres := hRes.out
      clear hRes hR14
      rcases r14 with ⟨pos', code⟩ | ⟨u5, L5⟩
      · obtain ⟨rfl, hk_14⟩ := hpost
        simp only [gave]
        go_wp2_with fail
        cases hres
        exact ⟨rfl, rfl, hk_13.alloc_.trans hk_14⟩
      simp only [Res.bind_ok] at hres
      obtain ⟨v, rfl, rfl, h_14, hkk⟩ := hpost
      have hBQ_14 := (hBQ_13.alloc_).kp hkk (by omega)
      have hBX_14 := (hBX_13.alloc_).kp hkk (by omega)
      have hk_14 := hk_13.alloc_.trans hkk
      have hs_14 := hkk.size
      simp only [World.size_alloc] at hs_14
      clear hBQ_13 hBX_13 hk_13 hkk h_13
      have hr_14 := h_14.lt
      obtain ⟨x0, x1, x2, x3, x4, x5⟩ := hBX_14.c6
      have fX := hBX_14.frozen
      have hxl := hBX_14.lt
      obtain ⟨r15, hr15⟩ := Res.bind_some hres
      rw [hr15] at hres
      have hRes := Lib.hid hres
      have hR15 := Lib.hid hr15
      clear hres hr15
      go_wp2_with fail
      refine (number_calls r L5 en d m 8 _ h_14 r15 hR15.out).mono ?_
      rintro e w15 hpost
      have hres := hRes.out
      clear hRes hR15
      rcases r15 with ⟨pos', code⟩ | ⟨m2, L6⟩
      · obtain ⟨rfl, hk_15⟩ := hpost
        simp only [gave]
        go_wp2_with fail
        cases hres
        exact ⟨rfl, rfl, hk_14.trans hk_15⟩
      simp only [Res.bind_ok] at hres
      obtain ⟨v, rfl, rfl, h_15, hkk⟩ := hpost
      have hBQ_15 := (hBQ_14).kp hkk (by omega)
      have hBX_15 := (hBX_14).kp hkk (by omega)
      have hk_15 := hk_14.trans hkk
      have hs_15 := hkk.size
      clear hBQ_14 hBX_14 hk_14 hkk h_14
      have hr_15 := h_15.lt
      clear x0 x1 x2 x3 x4 x5 fX hxl
      obtain ⟨x0, x1, x2, x3, x4, x5⟩ := hBX_15.c6
      have fX := hBX_15.frozen
      have hxl := hBX_15.lt
      obtain ⟨r17, hr17⟩ := Res.bind_some hres
      rw [hr17] at hres
      have hRes := Lib.hid hres
      have hR17 := Lib.hid hr17
      clear hres hr17
      go_wp2_with fail
      clear x0 x1 x2 x3 x4 x5 fX hxl
      generalize hW : w15.setCell ⟨(w.heap.size + 1), 5, none⟩ (.int .i64 m2) = W16
      have hBQ_16 := Blk.set_far hW hBQ_15 (by omega)
      have hBX_16 := Blk.set_here hW hBX_15 (ds := [.string nm, .string lb, .bool true, .int .i64 1, .int .i64 m, .int .i64 m2]) rfl
      have hk_16 := Kp.set_new hW hk_15 (by omega)
      have h_16 := Rd.set_far hW h_15 (by omega)
      have hz_16 := size_of_set hW
      clear hW hBQ_15 hBX_15 hk_15 h_15
      refine (must_calls r L6 [sSqC, sMinus] (some ⟨w15.heap.size, 0, none⟩) 2 en d _ h_16.alloc_ (by rw [← hz_16]; exact CellsAt.new _ _ [.string sSqC, .string sMinus] (by omega)) (by simp) r17 hR17.out).mono ?_
      rintro e w17 hpost
      have hres := hRes.out
      clear hRes hR17
      rcases r17 with ⟨pos', code⟩ | ⟨ua, La⟩
      · obtain ⟨rfl, hk_17⟩ := hpost
        simp only [gave]
        go_wp2_with fail
        cases hres
        exact ⟨rfl, rfl, hk_16.alloc_.trans hk_17⟩
      simp only [Res.bind_ok] at hres
      obtain ⟨v, rfl, rfl, h_17, hkk⟩ := hpost
      have hBQ_17 := (hBQ_16.alloc_).kp hkk (by omega)
      have hBX_17 := (hBX_16.alloc_).kp hkk (by omega)
      have hk_17 := hk_16.alloc_.trans hkk
      have hs_17 := hkk.size
      simp only [World.size_alloc] at hs_17
      clear hBQ_16 hBX_16 hk_16 hkk h_16
      have hr_17 := h_17.lt
      cases hres
      obtain ⟨x0, x1, x2, x3, x4, x5⟩ := hBX_17.c6
      have fQ := hBQ_17.frozen
      obtain ⟨q0, q1, q2, q3, q4, q5⟩ := hBQ_17.c6
      go_wp2_with fail
      refine bodyPost_ret (v := .agg #[.string nm, .string lb, .bool true, .int .i64 1, .int .i64 m, .int .i64 m2]) (by simp [results, Tryd.results59, go_sem, *]) rfl ⟨_, rfl, ⟨_, rfl, rfl⟩, ?_, ?_⟩
      · exact ((((((h_17.far_ (by omega)).far_ (by omega)).far_ (by omega)).far_ (by omega)).far_ (by omega)).far_ (by omega))
      · exact ((((((hk_17.new_ (by omega)).new_ (by omega)).new_ (by omega)).new_ (by omega)).new_ (by omega)).new_ (by omega))

set_option maxRecDepth 100000 in
set_option maxHeartbeats 4000000 in
theorem edge_false (r : Nat) (L : List Tok) (en d : Int) (w : World) (res : Except (Int × Int) (EdgeP × List Tok)) (h : Rd w r L en d) (hres : edgeR en false L = some res) :
    Calls Tryd.prog 59 #[.pointer (some ⟨r, 0, none⟩), .bool false] w (Post r en d w (LVal layEdge w.heap.size) res) := by
  have hRes := Lib.hid hres
  clear hres
  have hr := h.lt
  go_enter Tryd.func59, Tryd.ntmps59
  go_wp2_with fail
  generalize hW : w.alloc (.cells #[.string ⟨#[]⟩, .string ⟨#[]⟩, .bool false, .int .i64 0, .int .i64 0, .int .i64 0] 45) = W1
  have hBQ_1 := Blk.new_of (cs := [.string ⟨#[]⟩, .string ⟨#[]⟩, .bool false, .int .i64 0, .int .i64 0, .int .i64 0]) hW
  have hk_1 := Kp.of_alloc hW (Kp.refl r w)
  have h_1 := Rd.of_alloc hW h
  have hz_1 := size_of_alloc hW
  clear hW
  generalize hW : W1.alloc (.cells #[.string ⟨#[]⟩, .string ⟨#[]⟩, .bool false, .int .i64 0, .int .i64 0, .int .i64 0] 45) = W2
  have hBX_2 := Blk.new_of (cs := [.string ⟨#[]⟩, .string ⟨#[]⟩, .bool false, .int .i64 0, .int .i64 0, .int .i64 0]) hW
  have hBQ_2 := Blk.of_alloc hW hBQ_1
  have hk_2 := Kp.of_alloc hW hk_1
  have h_2 := Rd.of_alloc hW h_1
  have hz_2 := size_of_alloc hW
  clear hW hBQ_1 hk_1 h_1
  simp only [hz_1] at hBX_2
  have hres := hRes.out
  clear hRes
  simp only [edgeR, if_false, Bool.false_eq_true, Res.ret_bind] at hres
  obtain ⟨r3, hr3⟩ := Res.bind_some hres
  rw [hr3] at hres
  have hRes := Lib.hid hres
  have hR3 := Lib.hid hr3
  clear hres hr3
  refine (must1_calls r L sSqO (w.heap.size + 1 + 1) 1 en d _ h_2.alloc_ (by rw [← hz_1, ← hz_2]; exact (Blk.new W2 _ [.string sSqO]).cell 0) (by omega) r3 hR3.out).mono ?_
  rintro e w3 hpost
  have hres := hRes.out
  clear hRes hR3
  rcases r3 with ⟨pos', code⟩ | ⟨u1, L1⟩
  · obtain ⟨rfl, hk_3⟩ := hpost
    simp only [gave]
    go_wp2_with fail
    cases hres
    exact ⟨rfl, rfl, hk_2.alloc_.trans hk_3⟩
  simp only [Res.bind_ok] at hres
  obtain ⟨v, rfl, rfl, h_3, hkk⟩ := hpost
  have hBQ_3 := (hBQ_2.alloc_).kp hkk (by omega)
  have hBX_3 := (hBX_2.alloc_).kp hkk (by omega)
  have hk_3 := hk_2.alloc_.trans hkk
  have hs_3 := hkk.size
  simp only [World.size_alloc] at hs_3
  clear hBQ_2 hBX_2 hk_2 hkk h_2
  have hr_3 := h_3.lt
  obtain ⟨r4, hr4⟩ := Res.bind_some hres
  rw [hr4] at hres
  have hRes := Lib.hid hres
  have hR4 := Lib.hid hr4
  clear hres hr4
  go_wp2_with fail
  refine (named_calls r L1 emp en d _ h_3 r4 hR4.out).mono ?_
  rintro e w4 hpost
  have hres := hRes.out
  clear hRes hR4
  rcases r4 with ⟨pos', code⟩ | ⟨nm, L2⟩
  · obtain ⟨rfl, hk_4⟩ := hpost
    simp only [gave]
    go_wp2_with fail
    cases hres
    exact ⟨rfl, rfl, hk_3.trans hk_4⟩
  simp only [Res.bind_ok] at hres
  obtain ⟨v, rfl, rfl, h_4, hkk⟩ := hpost
  have hBQ_4 := (hBQ_3).kp hkk (by omega)
  have hBX_4 := (hBX_3).kp hkk (by omega)
  have hk_4 := hk_3.trans hkk
  have hs_4 := hkk.size
  clear hBQ_3 hBX_3 hk_3 hkk h_3
  have hr_4 := h_4.lt
  obtain ⟨x0, x1, x2, x3, x4, x5⟩ := hBX_4.c6
  have fX := hBX_4.frozen
  have hxl := hBX_4.lt
  obtain ⟨r6, hr6⟩ := Res.bind_some hres
  rw [hr6] at hres
  have hRes := Lib.hid hres
  have hR6 := Lib.hid hr6
  clear hres hr6
  go_wp2_with fail
  clear x0 x1 x2 x3 x4 x5 fX hxl
  generalize hW : w4.setCell ⟨(w.heap.size + 1), 0, none⟩ (.string nm) = W5
  have hBQ_5 := Blk.set_far hW hBQ_4 (by omega)
  have hBX_5 := Blk.set_here hW hBX_4 (ds := [.string nm, .string ⟨#[]⟩, .bool false, .int .i64 0, .int .i64 0, .int .i64 0]) rfl
  have hk_5 := Kp.set_new hW hk_4 (by omega)
  have h_5 := Rd.set_far hW h_4 (by omega)
  have hz_5 := size_of_set hW
  clear hW hBQ_4 hBX_4 hk_4 h_4
  refine (named_calls r L2 sColon en d _ h_5 r6 hR6.out).mono ?_
  rintro e w6 hpost
  have hres := hRes.out
  clear hRes hR6
  rcases r6 with ⟨pos', code⟩ | ⟨lb, L3⟩
  · obtain ⟨rfl, hk_6⟩ := hpost
    simp only [gave]
    go_wp2_with fail
    cases hres
    exact ⟨rfl, rfl, hk_5.trans hk_6⟩
  simp only [Res.bind_ok] at hres
  obtain ⟨v, rfl, rfl, h_6, hkk⟩ := hpost
  have hBQ_6 := (hBQ_5).kp hkk (by omega)
  have hBX_6 := (hBX_5).kp hkk (by omega)
  have hk_6 := hk_5.trans hkk
  have hs_6 := hkk.size
  clear hBQ_5 hBX_5 hk_5 hkk h_5
  have hr_6 := h_6.lt
  obtain ⟨x0, x1, x2, x3, x4, x5⟩ := hBX_6.c6
  have fX := hBX_6.frozen
  have hxl := hBX_6.lt
  have hRes := Lib.hid hres
  clear hres
  go_wp2_with fail
  clear x0 x1 x2 x3 x4 x5 fX hxl
  generalize hW : w6.setCell ⟨(w.heap.size + 1), 1, none⟩ (.string lb) = W7
  have hBQ_7 := Blk.set_far hW hBQ_6 (by omega)
  have hBX_7 := Blk.set_here hW hBX_6 (ds := [.string nm, .string lb, .bool false, .int .i64 0, .int .i64 0, .int .i64 0]) rfl
  have hk_7 := Kp.set_new hW hk_6 (by omega)
  have h_7 := Rd.set_far hW h_6 (by omega)
  have hz_7 := size_of_set hW
  clear hW hBQ_6 hBX_6 hk_6 h_6
  refine (has_calls r L3 sStar en d _ h_7).mono ?_
  rintro e w8 ⟨rfl, h_8, hkk⟩
  have hBQ_8 := (hBQ_7).kp hkk (by omega)
  have hBX_8 := (hBX_7).kp hkk (by omega)
  have hk_8 := hk_7.trans hkk
  have hs_8 := hkk.size
  clear hBQ_7 hBX_7 hk_7 hkk h_7
  have hr_8 := h_8.lt
  have hres := hRes.out
  clear hRes
  cases hh : hasB L3 sStar with
  | false =>
    rw [hh] at h_8
    replace h_8 : Rd w8 r L3 en d := h_8
    simp only [wayR, hh, if_false, Bool.false_eq_true, Res.ret_bind] at hres
    obtain ⟨r9, hr9⟩ := Res.bind_some hres
    rw [hr9] at hres
    have hRes := Lib.hid hres
    have hR9 := Lib.hid hr9
    clear hres hr9
    go_wp2_with fail
    refine (must_calls r L3 [sSqC, sMinus] (some ⟨w8.heap.size, 0, none⟩) 2 en d _ h_8.alloc_ (CellsAt.new _ _ [.string sSqC, .string sMinus] (by omega)) (by simp) r9 hR9.out).mono ?_
    rintro e w9 hpost
    have hres := hRes.out
    clear hRes hR9
    rcases r9 with ⟨pos', code⟩ | ⟨ua, La⟩
    · obtain ⟨rfl, hk_9⟩ := hpost
      simp only [gave]
      go_wp2_with fail
      cases hres
      exact ⟨rfl, rfl, hk_8.alloc_.trans hk_9⟩
    simp only [Res.bind_ok] at hres
    obtain ⟨v, rfl, rfl, h_9, hkk⟩ := hpost
    have hBQ_9 := (hBQ_8.alloc_).kp hkk (by omega)
    have hBX_9 := (hBX_8.alloc_).kp hkk (by omega)
    have hk_9 := hk_8.alloc_.trans hkk
    have hs_9 := hkk.size
    simp only [World.size_alloc] at hs_9
    clear hBQ_8 hBX_8 hk_8 hkk h_8
    have hr_9 := h_9.lt
    obtain ⟨r10, hr10⟩ := Res.bind_some hres
    rw [hr10] at hres
    have hRes := Lib.hid hres
    have hR10 := Lib.hid hr10
    clear hres hr10
    go_wp2_with fail
    refine (must1_calls r La sGt w9.heap.size 1 en d _ h_9.alloc_ (by simp [go_sem]; rfl) (by omega) r10 hR10.out).mono ?_
    rintro e w10 hpost
    have hres := hRes.out
    clear hRes hR10
    rcases r10 with ⟨pos', code⟩ | ⟨ub, Lb⟩
    · obtain ⟨rfl, hk_10⟩ := hpost
      simp only [gave]
      go_wp2_with fail
      cases hres
      exact ⟨rfl, rfl, hk_9.alloc_.trans hk_10⟩
    simp only [Res.bind_ok] at hres
    obtain ⟨v, rfl, rfl, h_10, hkk⟩ := hpost
    have hBQ_10 := (hBQ_9.alloc_).kp hkk (by omega)
    have hBX_10 := (hBX_9.alloc_).kp hkk (by omega)
    have hk_10 := hk_9.alloc_.trans hkk
    have hs_10 := hkk.size
    simp only [World.size_alloc] at hs_10
    clear hBQ_9 hBX_9 hk_9 hkk h_9
    have hr_10 := h_10.lt
    cases hres
    obtain ⟨x0, x1, x2, x3, x4, x5⟩ := hBX_10.c6
    have fQ := hBQ_10.frozen
    obtain ⟨q0, q1, q2, q3, q4, q5⟩ := hBQ_10.c6
    go_wp2_with fail
    refine bodyPost_ret (v := .agg #[.string nm, .string lb, .bool false, .int .i64 0, .int .i64 0, .int .i64 0]) (by simp [results, Tryd.results59, go_sem, *]) rfl ⟨_, rfl, ⟨_, rfl, rfl⟩, ?_, ?_⟩
    · exact ((((((h_10.far_ (by omega)).far_ (by omega)).far_ (by omega)).far_ (by omega)).far_ (by omega)).far_ (by omega))
    · exact ((((((hk_10.new_ (by omega)).new_ (by omega)).new_ (by omega)).new_ (by omega)).new_ (by omega)).new_ (by omega))
  | true =>
    rw [hh] at h_8
    replace h_8 : Rd w8 r L3.tail en d := h_8
    simp only [wayR, hh, if_true] at hres
    have hRes := Lib.hid hres
    clear hres hh
    go_wp2_with fail
    refine (has_calls r L3.tail sSHORTEST en d _ h_8).mono ?_
    rintro e w9 ⟨rfl, h_9, hkk⟩
    have hBQ_9 := (hBQ_8).kp hkk (by omega)
    have hBX_9 := (hBX_8).kp hkk (by omega)
    have hk_9 := hk_8.trans hkk
    have hs_9 := hkk.size
    clear hBQ_8 hBX_8 hk_8 hkk h_8
    have hr_9 := h_9.lt
    have hres := hRes.out
    clear hRes
    cases hg : hasB L3.tail sSHORTEST with
    | true =>
      rw [hg] at h_9
      replace h_9 : Rd w9 r L3.tail.tail en d := h_9
      simp only [hg, if_true, Res.bind_assoc, Res.ret_bind] at hres
      clear hg
      obtain ⟨r10, hr10⟩ := Res.bind_some hres
      rw [hr10] at hres
      have hRes := Lib.hid hres
      have hR10 := Lib.hid hr10
      clear hres hr10
      go_wp2_with fail
      refine (number_calls r L3.tail.tail en d 1 8 _ h_9 r10 hR10.out).mono ?_
      rintro e w10 hpost
      have hres := hRes.out
      clear hRes hR10
      rcases r10 with ⟨pos', code⟩ | ⟨m, L4⟩
      · obtain ⟨rfl, hk_10⟩ := hpost
        simp only [gave]
        go_wp2_with fail
        cases hres
        exact ⟨rfl, rfl, hk_9.trans hk_10⟩
      simp only [Res.bind_ok] at hres
      obtain ⟨v, rfl, rfl, h_10, hkk⟩ := hpost
      have hBQ_10 := (hBQ_9).kp hkk (by omega)
      have hBX_10 := (hBX_9).kp hkk (by omega)
      have hk_10 := hk_9.trans hkk
      have hs_10 := hkk.size
      clear hBQ_9 hBX_9 hk_9 hkk h_9
      have hr_10 := h_10.lt
      obtain ⟨x0, x1, x2, x3, x4, x5⟩ := hBX_10.c6
      have fX := hBX_10.frozen
      have hxl := hBX_10.lt
      obtain ⟨r13, hr13⟩ := Res.bind_some hres
      rw [hr13] at hres
      have hRes := Lib.hid hres
      have hR13 := Lib.hid hr13
      clear hres hr13
      go_wp2_with fail
      clear x0 x1 x2 x3 x4 x5 fX hxl
      generalize hW : w10.setCell ⟨(w.heap.size + 1), 3, none⟩ (.int .i64 2) = W11
      have hBQ_11 := Blk.set_far hW hBQ_10 (by omega)
      have hBX_11 := Blk.set_here hW hBX_10 (ds := [.string nm, .string lb, .bool false, .int .i64 2, .int .i64 0, .int .i64 0]) rfl
      have hk_11 := Kp.set_new hW hk_10 (by omega)
      have h_11 := Rd.set_far hW h_10 (by omega)
      have hz_11 := size_of_set hW
      clear hW hBQ_10 hBX_10 hk_10 h_10
      generalize hW : W11.setCell ⟨(w.heap.size + 1), 5, none⟩ (.int .i64 m) = W12
      have hBQ_12 := Blk.set_far hW hBQ_11 (by omega)
      have hBX_12 := Blk.set_here hW hBX_11 (ds := [.string nm, .string lb, .bool false, .int .i64 2, .int .i64 0, .int .i64 m]) rfl
      have hk_12 := Kp.set_new hW hk_11 (by omega)
      have h_12 := Rd.set_far hW h_11 (by omega)
      have hz_12 := size_of_set hW
      clear hW hBQ_11 hBX_11 hk_11 h_11
      refine (must_calls r L4 [sSqC, sMinus] (some ⟨w10.heap.size, 0, none⟩) 2 en d _ h_12.alloc_ (by rw [← hz_11, ← hz_12]; exact CellsAt.new _ _ [.string sSqC, .string sMinus] (by omega)) (by simp) r13 hR13.out).mono ?_
      rintro e w13 hpost
      have hres := hRes.out
      clear hRes hR13
      rcases r13 with ⟨pos', code⟩ | ⟨ua, La⟩
      · obtain ⟨rfl, hk_13⟩ := hpost
        simp only [gave]
        go_wp2_with fail
        cases hres
        exact ⟨rfl, rfl, hk_12.alloc_.trans hk_13⟩
      simp only [Res.bind_ok] at hres
      obtain ⟨v, rfl, rfl, h_13, hkk⟩ := hpost
      have hBQ_13 := (hBQ_12.alloc_).kp hkk (by omega)
      have hBX_13 := (hBX_12.alloc_).kp hkk (by omega)
      have hk_13 := hk_12.alloc_.trans hkk
      have hs_13 := hkk.size
      simp only [World.size_alloc] at hs_13
      clear hBQ_12 hBX_12 hk_12 hkk h_12
      have hr_13 := h_13.lt
      obtain ⟨r14, hr14⟩ := Res.bind_some hres
      rw [hr14] at hres
      have hRes := Lib.hid hres
      have hR14 := Lib.hid hr14
      clear hres hr14
      go_wp2_with fail
      refine (must1_calls r La sGt w13.heap.size 1 en d _ h_13.alloc_ (by simp [go_sem]; rfl) (by omega) r14 hR14.out).mono ?_
      rintro e w14 hpost
      have hres := hRes.out
      clear hRes hR14
      rcases r14 with ⟨pos', code⟩ | ⟨ub, Lb⟩
      · obtain ⟨rfl, hk_14⟩ := hpost
        simp only [gave]
        go_wp2_with fail
        cases hres
        exact ⟨rfl, rfl, hk_13.alloc_.trans hk_14⟩
      simp only [Res.bind_ok] at hres
      obtain ⟨v, rfl, rfl, h_14, hkk⟩ := hpost
      have hBQ_14 := (hBQ_13.alloc_).kp hkk (by omega)
      have hBX_14 := (hBX_13.alloc_).kp hkk (by omega)
      have hk_14 := hk_13.alloc_.trans hkk
      have hs_14 := hkk.size
      simp only [World.size_alloc] at hs_14
      clear hBQ_13 hBX_13 hk_13 hkk h_13
      have hr_14 := h_14.lt
      cases hres
      obtain ⟨x0, x1, x2, x3, x4, x5⟩ := hBX_14.c6
      have fQ := hBQ_14.frozen
      obtain ⟨q0, q1, q2, q3, q4, q5⟩ := hBQ_14.c6
      go_wp2_with fail
      refine bodyPost_ret (v := .agg #[.string nm, .string lb, .bool false, .int .i64 2, .int .i64 0, .int .i64 m]) (by simp [results, Tryd.results59, go_sem, *]) rfl ⟨_, rfl, ⟨_, rfl, rfl⟩, ?_, ?_⟩
      · exact ((((((h_14.far_ (by omega)).far_ (by omega)).far_ (by omega)).far_ (by omega)).far_ (by omega)).far_ (by omega))
      · exact ((((((hk_14.new_ (by omega)).new_ (by omega)).new_ (by omega)).new_ (by omega)).new_ (by omega)).new_ (by omega))
    | false =>
      rw [hg] at h_9
      replace h_9 : Rd w9 r L3.tail en d := h_9
      simp only [hg, if_false, Bool.false_eq_true, Res.bind_assoc, Res.ret_bind] at hres
      clear hg
      obtain ⟨r10, hr10⟩ := Res.bind_some hres
      rw [hr10] at hres
      have hRes := Lib.hid hres
      have hR10 := Lib.hid hr10
      clear hres hr10
      go_wp2_with fail
      refine (number_calls r L3.tail en d 0 8 _ h_9 r10 hR10.out).mono ?_
      rintro e w10 hpost
      have hres := hRes.out
      clear hRes hR10
      rcases r10 with ⟨pos', code⟩ | ⟨m, L4⟩
      · obtain ⟨rfl, hk_10⟩ := hpost
        simp only [gave]
        go_wp2_with fail
        cases hres
        exact ⟨rfl, rfl, hk_9.trans hk_10⟩
      simp only [Res.bind_ok] at hres
      obtain ⟨v, rfl, rfl, h_10, hkk⟩ := hpost
      have hBQ_10 := (hBQ_9).kp hkk (by omega)
      have hBX_10 := (hBX_9).kp hkk (by omega)
      have hk_10 := hk_9.trans hkk
      have hs_10 := hkk.size
      clear hBQ_9 hBX_9 hk_9 hkk h_9
      have hr_10 := h_10.lt
      obtain ⟨x0, x1, x2, x3, x4, x5⟩ := hBX_10.c6
      have fX := hBX_10.frozen
      have hxl := hBX_10.lt
      obtain ⟨r13, hr13⟩ := Res.bind_some hres
      rw [hr13] at hres
      have hRes := Lib.hid hres
      have hR13 := Lib.hid hr13
      clear hres hr13
      go_wp2_with fail
      clear x0 x1 x2 x3 x4 x5 fX hxl
      generalize hW : w10.setCell ⟨(w.heap.size + 1), 3, none⟩ (.int .i64 1) = W11
      have hBQ_11 := Blk.set_far hW hBQ_10 (by omega)
      have hBX_11 := Blk.set_here hW hBX_10 (ds := [.string nm, .string lb, .bool false, .int .i64 1, .int .i64 0, .int .i64 0]) rfl
      have hk_11 := Kp.set_new hW hk_10 (by omega)
      have h_11 := Rd.set_far hW h_10 (by omega)
      have hz_11 := size_of_set hW
      clear hW hBQ_10 hBX_10 hk_10 h_10
      generalize hW : W11.setCell ⟨(w.heap.size + 1), 4, none⟩ (.int .i64 m) = W12
      have hBQ_12 := Blk.set_far hW hBQ_11 (by omega)
      have hBX_12 := Blk.set_here hW hBX_11 (ds := [.string nm, .string lb, .bool false, .int .i64 1, .int .i64 m, .int .i64 0]) rfl
      have hk_12 := Kp.set_new hW hk_11 (by omega)
      have h_12 := Rd.set_far hW h_11 (by omega)
      have hz_12 := size_of_set hW
      clear hW hBQ_11 hBX_11 hk_11 h_11
      refine (must1_calls r L4 sDots w10.heap.size 1 en d _ h_12.alloc_ (by rw [← hz_11, ← hz_12]; exact (Blk.new W12 _ [.string sDots]).cell 0) (by omega) r13 hR13.out).mono ?_
      rintro e w13 hpost
      have hres := hRes.out
      clear hRes hR13
      rcases r13 with ⟨pos', code⟩ | ⟨u5, L5⟩
      · obtain ⟨rfl, hk_13⟩ := hpost
        simp only [gave]
        go_wp2_with fail
        cases hres
        exact ⟨rfl, rfl, hk_12.alloc_.trans hk_13⟩
      simp only [Res.bind_ok] at hres
      obtain ⟨v, rfl, rfl, h_13, hkk⟩ := hpost
      have hBQ_13 := (hBQ_12.alloc_).kp hkk (by omega)
      have hBX_13 := (hBX_12.alloc_).kp hkk (by omega)
      have hk_13 := hk_12.alloc_.trans hkk
      have hs_13 := hkk.size
      simp only [World.size_alloc] at hs_13
      clear hBQ_12 hBX_12 hk_12 hkk h_12
      have hr_13 := h_13.lt
      obtain ⟨x0, x1, x2, x3, x4, x5⟩ := hBX_13.c6
      have fX := hBX_13.frozen
      have hxl := hBX_13.lt
      obtain ⟨r14, hr14⟩ := Res.bind_some hres
      rw [hr14] at hres
      have hRes := Lib.hid hres
      have hR14 := Lib.hid hr14
      clear hres hr14
      go_wp2_with fail
      refine (number_calls r L5 en d m 8 _ h_13 r14 hR14.out).mono ?_
      rintro e w14 hpost
      have hres := hRes.out
      clear hRes hR14
      rcases r14 with ⟨pos', code⟩ | ⟨m2, L6⟩
      · obtain ⟨rfl, hk_14⟩ := hpost
        simp only [gave]
        go_wp2_with fail
        cases hres
        exact ⟨rfl, rfl, hk_13.trans hk_14⟩
      simp only [Res.bind_ok] at hres
      obtain ⟨v, rfl, rfl, h_14, hkk⟩ := hpost
      have hBQ_14 := (hBQ_13).kp hkk (by omega)
      have hBX_14 := (hBX_13).kp hkk (by omega)
      have hk_14 := hk_13.trans hkk
      have hs_14 := hkk.size
      clear hBQ_13 hBX_13 hk_13 hkk h_13
      have hr_14 := h_14.lt
      clear x0 x1 x2 x3 x4 x5 fX hxl
      obtain ⟨x0, x1, x2, x3, x4, x5⟩ := hBX_14.c6
      have fX := hBX_14.frozen
      have hxl := hBX_14.lt
      obtain ⟨r16, hr16⟩ := Res.bind_some hres
      rw [hr16] at hres
      have hRes := Lib.hid hres
      have hR16 := Lib.hid hr16
      clear hres hr16
      go_wp2_with fail
      clear x0 x1 x2 x3 x4 x5 fX hxl
      generalize hW : w14.setCell ⟨(w.heap.size + 1), 5, none⟩ (.int .i64 m2) = W15
      have hBQ_15 := Blk.set_far hW hBQ_14 (by omega)
      have hBX_15 := Blk.set_here hW hBX_14 (ds := [.string nm, .string lb, .bool false, .int .i64 1, .int .i64 m, .int .i64 m2]) rfl
      have hk_15 := Kp.set_new hW hk_14 (by omega)
      have h_15 := Rd.set_far hW h_14 (by omega)
      have hz_15 := size_of_set hW
      clear hW hBQ_14 hBX_14 hk_14 h_14
      refine (must_calls r L6 [sSqC, sMinus] (some ⟨w14.heap.size, 0, none⟩) 2 en d _ h_15.alloc_ (by rw [← hz_15]; exact CellsAt.new _ _ [.string sSqC, .string sMinus] (by omega)) (by simp) r16 hR16.out).mono ?_
      rintro e w16 hpost
      have hres := hRes.out
      clear hRes hR16
      rcases r16 with ⟨pos', code⟩ | ⟨ua, La⟩
      · obtain ⟨rfl, hk_16⟩ := hpost
        simp only [gave]
        go_wp2_with fail
        cases hres
        exact ⟨rfl, rfl, hk_15.alloc_.trans hk_16⟩
      simp only [Res.bind_ok] at hres
      obtain ⟨v, rfl, rfl, h_16, hkk⟩ := hpost
      have hBQ_16 := (hBQ_15.alloc_).kp hkk (by omega)
      have hBX_16 := (hBX_15.alloc_).kp hkk (by omega)
      have hk_16 := hk_15.alloc_.trans hkk
      have hs_16 := hkk.size
      simp only [World.size_alloc] at hs_16
      clear hBQ_15 hBX_15 hk_15 hkk h_15
      have hr_16 := h_16.lt
      obtain ⟨r17, hr17⟩ := Res.bind_some hres
      rw [hr17] at hres
      have hRes := Lib.hid hres
      have hR17 := Lib.hid hr17
      clear hres hr17
      go_wp2_with fail
      refine (must1_calls r La sGt w16.heap.size 1 en d _ h_16.alloc_ (by simp [go_sem]; rfl) (by omega) r17 hR17.out).mono ?_
      rintro e w17 hpost
      have hres := hRes.out
      clear hRes hR17
      rcases r17 with ⟨pos', code⟩ | ⟨ub, Lb⟩
      · obtain ⟨rfl, hk_17⟩ := hpost
        simp only [gave]
        go_wp2_with fail
        cases hres
        exact ⟨rfl, rfl, hk_16.alloc_.trans hk_17⟩
      simp only [Res.bind_ok] at hres
      obtain ⟨v, rfl, rfl, h_17, hkk⟩ := hpost
      have hBQ_17 := (hBQ_16.alloc_).kp hkk (by omega)
      have hBX_17 := (hBX_16.alloc_).kp hkk (by omega)
      have hk_17 := hk_16.alloc_.trans hkk
      have hs_17 := hkk.size
      simp only [World.size_alloc] at hs_17
      clear hBQ_16 hBX_16 hk_16 hkk h_16
      have hr_17 := h_17.lt
      cases hres
      obtain ⟨x0, x1, x2, x3, x4, x5⟩ := hBX_17.c6
      have fQ := hBQ_17.frozen
      obtain ⟨q0, q1, q2, q3, q4, q5⟩ := hBQ_17.c6
      go_wp2_with fail
      refine bodyPost_ret (v := .agg #[.string nm, .string lb, .bool false, .int .i64 1, .int .i64 m, .int .i64 m2]) (by simp [results, Tryd.results59, go_sem, *]) rfl ⟨_, rfl, ⟨_, rfl, rfl⟩, ?_, ?_⟩
      · exact ((((((h_17.far_ (by omega)).far_ (by omega)).far_ (by omega)).far_ (by omega)).far_ (by omega)).far_ (by omega))
      · exact ((((((hk_17.new_ (by omega)).new_ (by omega)).new_ (by omega)).new_ (by omega)).new_ (by omega)).new_ (by omega))

theorem edge_calls (r : Nat) (L : List Tok) (back : Bool) (en d : Int) (w : World) (res : Except (Int × Int) (EdgeP × List Tok)) (h : Rd w r L en d) (hres : edgeR en back L = some res) :
    Calls Tryd.prog 59 #[.pointer (some ⟨r, 0, none⟩), .bool back] w (Post r en d w (LVal layEdge w.heap.size) res) := by
  cases back with
  | true => exact edge_true r L en d w res h hres
  | false => exact edge_false r L en d w res h hres
end Go.Proofs.YtaonmhegnnpgaaaDoor
