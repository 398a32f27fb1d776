/- The contracts of query's closures: an item, a key. No condition. -/
import Derived.Test.YtaonmhegnnpgaaaDoorRdX
namespace Go.Proofs.YtaonmhegnnpgaaaDoor
open Go Go.RowKit

/-- Ten cells of a block, as the walk reads them. -/
theorem Blk.c10 {w : World} {g : Nat} {t : TypeId} {v0 v1 v2 v3 v4 v5 v6 v7 v8 v9 : Value} (h : Blk w g t [v0, v1, v2, v3, v4, v5, v6, v7, v8, v9]) :
    w.cell? ⟨g, 0, none⟩ = some v0 ∧ w.cell? ⟨g, 1, none⟩ = some v1 ∧ w.cell? ⟨g, 2, none⟩ = some v2 ∧ w.cell? ⟨g, 3, none⟩ = some v3 ∧ w.cell? ⟨g, 4, none⟩ = some v4 ∧ w.cell? ⟨g, 5, none⟩ = some v5 ∧
      w.cell? ⟨g, 6, none⟩ = some v6 ∧ w.cell? ⟨g, 7, none⟩ = some v7 ∧ w.cell? ⟨g, 8, none⟩ = some v8 ∧ w.cell? ⟨g, 9, none⟩ = some v9 :=
  ⟨h.cell 0, h.cell 1, h.cell 2, h.cell 3, h.cell 4, h.cell 5, h.cell 6, h.cell 7, h.cell 8, h.cell 9⟩

set_option maxRecDepth 100000 in
set_option maxHeartbeats 2000000 in
theorem item_calls (n : Nat) (r bx : Nat) (L : List Tok) (en : Int) (w : World) (res : Except (Int × Int) (ItemP × List Tok)) (h : Rd w r L en 0) (hb : Blk w bx 80 [.pointer (some ⟨r, 0, none⟩)]) (hbr : ¬ bx = r) (hres : itemR en n L = some res) :
    Calls Tryd.prog 43 #[.pointer (some ⟨bx, 0, none⟩)] w (Post r en 0 w (LVal layItem w.heap.size) res) := by
  have hRes := Lib.hid hres
  clear hres
  have hr := h.lt
  have hbl := hb.lt
  have cB := hb.cell 0
  simp only [List.getElem?_cons_zero] at cB
  go_enter Tryd.func43, Tryd.ntmps43
  go_wp2_with fail
  clear cB
  generalize hW : w.alloc (.cells #[.int .i64 0, .slice none 0 0, .string ⟨#[]⟩, .string ⟨#[]⟩, .int .i64 0, .bool false, .int .i64 0, .string ⟨#[]⟩, .slice none 0 0, .string ⟨#[]⟩] 67) = W1
  have hBQ_1 := Blk.new_of (cs := [.int .i64 0, .slice none 0 0, .string ⟨#[]⟩, .string ⟨#[]⟩, .int .i64 0, .bool false, .int .i64 0, .string ⟨#[]⟩, .slice none 0 0, .string ⟨#[]⟩]) hW
  have hBB_1 := Blk.of_alloc hW hb
  have hk_1 := Kp.of_alloc hW (Kp.refl r w)
  have h_1 := Rd.of_alloc hW h
  have hz_1 := size_of_alloc hW
  clear hW hb
  have hres := hRes.out
  clear hRes
  unfold itemR at hres
  obtain ⟨r2, hr2⟩ := Res.bind_some hres
  rw [hr2] at hres
  have hRes := Lib.hid hres
  have hR2 := Lib.hid hr2
  clear hres hr2
  refine (expr_at n r L en 0 _ r2 h_1 (by omega) (by omega) hR2.out).mono ?_
  rintro e w2 hpost
  have hres := hRes.out
  clear hRes hR2
  rcases r2 with ⟨pos', code⟩ | ⟨x, L1⟩
  · obtain ⟨rfl, hk_2⟩ := hpost
    simp only [gave]
    go_wp2_with fail
    cases hres
    exact ⟨rfl, rfl, hk_1.trans hk_2⟩
  simp only [Res.bind_ok] at hres
  obtain ⟨v, rfl, ⟨ds, rfl, hx⟩, h_2, hkk⟩ := hpost
  have hBB_2 := (hBB_1).kp hkk (by omega)
  have hBQ_2 := (hBQ_1).kp hkk (by omega)
  have hk_2 := hk_1.trans hkk
  have hs_2 := hkk.size
  clear hBB_1 hBQ_1 hk_1 hkk h_1
  have hr_2 := h_2.lt
  obtain ⟨op, ka, kn, kc, nm, pr, vk, vb, vm, vt, pa, pn, pc, rfl⟩ := RepE.nine hx
  replace hx := RepE.mono (S' := fun b => w.heap.size + 1 ≤ b ∧ b < w2.heap.size) (fun b hb hlt => ⟨by unfold From at hb; omega, hlt⟩) hx
  have cB := hBB_2.cell 0
  simp only [List.getElem?_cons_zero] at cB
  obtain ⟨r4, hr4⟩ := Res.bind_some hres
  rw [hr4] at hres
  have hRes := Lib.hid hres
  have hR4 := Lib.hid hr4
  clear hres hr4
  have hbl2 := hBB_2.lt
  have hszx : w.heap.size + 1 ≤ w2.heap.size := by omega
  go_wp2_with fail
  clear cB hbl2
  generalize hW : w2.alloc (.cells #[.int .i64 op, .slice ka kn kc, .string nm, .string pr, .int .i64 vk, .bool vb, .int .i64 vm, .string vt, .slice pa pn pc, .string ⟨#[]⟩] 67) = W3
  have hBX_3 := Blk.new_of (cs := [.int .i64 op, .slice ka kn kc, .string nm, .string pr, .int .i64 vk, .bool vb, .int .i64 vm, .string vt, .slice pa pn pc, .string ⟨#[]⟩]) hW
  have hBB_3 := Blk.of_alloc hW hBB_2
  have hBQ_3 := Blk.of_alloc hW hBQ_2
  have hk_3 := Kp.of_alloc hW hk_2
  have h_3 := Rd.of_alloc hW h_2
  have hxE_3 := RepE.same (Same.of_alloc hW) hx
  have hz_3 := size_of_alloc hW
  clear hW hBB_2 hBQ_2 hk_2 hx h_2
  refine (named_calls r L1 sAS en 0 _ h_3 r4 hR4.out).mono ?_
  rintro e w4 hpost
  have hres := hRes.out
  clear hRes hR4
  rcases r4 with ⟨pos', code⟩ | ⟨sn, L2⟩
  · obtain ⟨rfl, hk_4⟩ := hpost
    simp only [gave]
    go_wp2_with fail
    cases hres
    exact ⟨rfl, rfl, hk_3.trans hk_4⟩
  simp only [Res.bind_ok] at hres
  obtain ⟨v, rfl, rfl, h_4, hkk⟩ := hpost
  have hBB_4 := (hBB_3).kp hkk (by omega)
  have hBQ_4 := (hBQ_3).kp hkk (by omega)
  have hBX_4 := (hBX_3).kp hkk (by omega)
  have hk_4 := hk_3.trans hkk
  have hxE_4 := RepE.same (Same.of_kp hkk fun b hb => by (try unfold From at hb); omega) hxE_3
  have hs_4 := hkk.size
  clear hBB_3 hBQ_3 hBX_3 hk_3 hxE_3 hkk h_3
  have hr_4 := h_4.lt
  cases hres
  obtain ⟨x0, x1, x2, x3, x4, x5, x6, x7, x8, x9⟩ := hBX_4.c10
  have fX := hBX_4.frozen
  have hxl := hBX_4.lt
  obtain ⟨q0, q1, q2, q3, q4, q5, q6, q7, q8, q9⟩ := hBQ_4.c10
  have fQ := hBQ_4.frozen
  have hql := hBQ_4.lt
  have hne1 : ¬ w.heap.size = w2.heap.size := by omega
  have hne2 : ¬ w2.heap.size = w.heap.size := by omega
  go_wp2_with fail
  refine bodyPost_ret (v := .agg #[.int .i64 op, .slice ka kn kc, .string nm, .string pr, .int .i64 vk, .bool vb, .int .i64 vm, .string vt, .slice pa pn pc, .string sn]) (by simp [results, Tryd.results43, go_sem, *]) rfl ⟨_, rfl, ⟨_, rfl, ⟨[.int .i64 op, .slice ka kn kc, .string nm, .string pr, .int .i64 vk, .bool vb, .int .i64 vm, .string vt, .slice pa pn pc], rfl, RepE.mono (fun b hb _ => by unfold From; omega) (RepE.same ?_ hxE_4)⟩⟩, ?_, ?_⟩
  · repeat' (first | with_reducible exact Same.refl _ _ | with_reducible refine Same.out ?_ ?_)
    all_goals omega
  · exact (((((((((((h_4.far_ (by omega)).far_ (by omega)).far_ (by omega)).far_ (by omega)).far_ (by omega)).far_ (by omega)).far_ (by omega)).far_ (by omega)).far_ (by omega)).far_ (by omega)).far_ (by omega))
  · exact (((((((((((hk_4.new_ (by omega)).new_ (by omega)).new_ (by omega)).new_ (by omega)).new_ (by omega)).new_ (by omega)).new_ (by omega)).new_ (by omega)).new_ (by omega)).new_ (by omega)).new_ (by omega))

set_option maxRecDepth 100000 in
set_option maxHeartbeats 2000000 in
theorem key_calls (r bx : Nat) (L : List Tok) (en : Int) (w : World) (res : Except (Int × Int) (KeyP × List Tok)) (h : Rd w r L en 0) (hb : Blk w bx 80 [.pointer (some ⟨r, 0, none⟩)]) (hbr : ¬ bx = r) (hres : keyR en L = some res) :
    Calls Tryd.prog 46 #[.pointer (some ⟨bx, 0, none⟩)] w (Post r en 0 w (LVal layKey w.heap.size) res) := by
  have hRes := Lib.hid hres
  clear hres
  have hr := h.lt
  have hbl := hb.lt
  have cB := hb.cell 0
  simp only [List.getElem?_cons_zero] at cB
  have hbl2 := hb.lt
  go_enter Tryd.func46, Tryd.ntmps46
  go_wp2_with fail
  clear cB hbl2
  generalize hW : w.alloc (.cells #[.string ⟨#[]⟩, .bool false] 86) = W1
  have hBQ_1 := Blk.new_of (cs := [.string ⟨#[]⟩, .bool false]) hW
  have hBB_1 := Blk.of_alloc hW hb
  have hk_1 := Kp.of_alloc hW (Kp.refl r w)
  have h_1 := Rd.of_alloc hW h
  have hz_1 := size_of_alloc hW
  clear hW hb
  have hres := hRes.out
  clear hRes
  unfold keyR at hres
  obtain ⟨r2, hr2⟩ := Res.bind_some hres
  rw [hr2] at hres
  have hRes := Lib.hid hres
  have hR2 := Lib.hid hr2
  clear hres hr2
  refine (name_calls r L en 0 _ h_1 r2 hR2.out).mono ?_
  rintro e w2 hpost
  have hres := hRes.out
  clear hRes hR2
  rcases r2 with ⟨pos', code⟩ | ⟨nm, L1⟩
  · obtain ⟨rfl, hk_2⟩ := hpost
    simp only [gave]
    go_wp2_with fail
    cases hres
    exact ⟨rfl, rfl, hk_1.trans hk_2⟩
  simp only [Res.bind_ok] at hres
  obtain ⟨v, rfl, rfl, h_2, hkk⟩ := hpost
  have hBB_2 := (hBB_1).kp hkk (by omega)
  have hBQ_2 := (hBQ_1).kp hkk (by omega)
  have hk_2 := hk_1.trans hkk
  have hs_2 := hkk.size
  clear hBB_1 hBQ_1 hk_1 hkk h_1
  have hr_2 := h_2.lt
  have cB := hBB_2.cell 0
  simp only [List.getElem?_cons_zero] at cB
  have hbl2 := hBB_2.lt
  have hszx : w.heap.size + 1 ≤ w2.heap.size := by omega
  have hRes := Lib.hid hres
  clear hres
  go_wp2_with fail
  clear cB hbl2
  generalize hW : w2.alloc (.cells #[.string nm, .bool false] 86) = W3
  have hBX_3 := Blk.new_of (cs := [.string nm, .bool false]) hW
  have hBB_3 := Blk.of_alloc hW hBB_2
  have hBQ_3 := Blk.of_alloc hW hBQ_2
  have hk_3 := Kp.of_alloc hW hk_2
  have h_3 := Rd.of_alloc hW h_2
  have hz_3 := size_of_alloc hW
  clear hW hBB_2 hBQ_2 hk_2 h_2
  refine (has_calls r L1 sDESC en 0 _ h_3).mono ?_
  rintro e w4 ⟨rfl, h_4, hkk⟩
  have hBB_4 := (hBB_3).kp hkk (by omega)
  have hBQ_4 := (hBQ_3).kp hkk (by omega)
  have hBX_4 := (hBX_3).kp hkk (by omega)
  have hk_4 := hk_3.trans hkk
  have hs_4 := hkk.size
  clear hBB_3 hBQ_3 hBX_3 hk_3 hkk h_3
  have hr_4 := h_4.lt
  obtain ⟨x0, x1⟩ := hBX_4.c2
  have fX := hBX_4.frozen
  have hxl := hBX_4.lt
  have cB := hBB_4.cell 0
  simp only [List.getElem?_cons_zero] at cB
  have hbl2 := hBB_4.lt
  have hres := hRes.out
  clear hRes
  cases hh : hasB L1 sDESC with
  | true =>
    rw [hh] at h_4
    replace h_4 : Rd w4 r L1.tail en 0 := h_4
    simp only [hh, if_true] at hres
    cases hres
    obtain ⟨q0, q1⟩ := hBQ_4.c2
    have fQ := hBQ_4.frozen
    have hql := hBQ_4.lt
    have hne1 : ¬ w.heap.size = w2.heap.size := by omega
    have hne2 : ¬ w2.heap.size = w.heap.size := by omega
    have hne3 : ¬ bx = w2.heap.size := by omega
    clear hh
    go_wp2_with fail
    refine bodyPost_ret (v := .agg #[.string nm, .bool true]) (by simp [results, Tryd.results46, go_sem, *]) rfl ⟨_, rfl, ⟨_, rfl, rfl⟩, ?_, ?_⟩
    · exact (((h_4.far_ (by omega)).far_ (by omega)).far_ (by omega))
    · exact (((hk_4.new_ (by omega)).new_ (by omega)).new_ (by omega))
  | false =>
    rw [hh] at h_4
    replace h_4 : Rd w4 r L1 en 0 := h_4
    simp only [hh, if_false, Bool.false_eq_true] at hres
    have hRes := Lib.hid hres
    clear hres hh
    have hne3 : ¬ bx = w2.heap.size := by omega
    go_wp2_with fail
    clear x0 x1 fX hxl cB hbl2 hne3
    generalize hW : w4.setCell ⟨w2.heap.size, 1, none⟩ (.bool false) = W5
    have hBB_5 := Blk.set_far hW hBB_4 (by omega)
    have hBQ_5 := Blk.set_far hW hBQ_4 (by omega)
    have hBX_5 := Blk.set_here hW hBX_4 (ds := [.string nm, .bool false]) rfl
    have hk_5 := Kp.set_new hW hk_4 (by omega)
    have h_5 := Rd.set_far hW h_4 (by omega)
    have hz_5 := size_of_set hW
    clear hW hBB_4 hBQ_4 hBX_4 hk_4 h_4
    refine (has_calls r L1 sASC en 0 _ h_5).mono ?_
    rintro e w6 ⟨rfl, h_6, hkk⟩
    have hBB_6 := (hBB_5).kp hkk (by omega)
    have hBQ_6 := (hBQ_5).kp hkk (by omega)
    have hBX_6 := (hBX_5).kp hkk (by omega)
    have hk_6 := hk_5.trans hkk
    have hs_6 := hkk.size
    clear hBB_5 hBQ_5 hBX_5 hk_5 hkk h_5
    have hr_6 := h_6.lt
    obtain ⟨x0, x1⟩ := hBX_6.c2
    have fX := hBX_6.frozen
    have hxl := hBX_6.lt
    have hres := hRes.out
    clear hRes
    cases hres
    obtain ⟨q0, q1⟩ := hBQ_6.c2
    have fQ := hBQ_6.frozen
    have hql := hBQ_6.lt
    have hne1 : ¬ w.heap.size = w2.heap.size := by omega
    have hne2 : ¬ w2.heap.size = w.heap.size := by omega
    have hne3 : ¬ bx = w2.heap.size := by omega
    go_wp2_with fail
    refine bodyPost_ret (v := .agg #[.string nm, .bool false]) (by simp [results, Tryd.results46, go_sem, *]) rfl ⟨_, rfl, ⟨_, rfl, rfl⟩, ?_, ?_⟩
    · exact ((h_6.far_ (by omega)).far_ (by omega))
    · exact ((hk_6.new_ (by omega)).new_ (by omega))
end Go.Proofs.YtaonmhegnnpgaaaDoor
