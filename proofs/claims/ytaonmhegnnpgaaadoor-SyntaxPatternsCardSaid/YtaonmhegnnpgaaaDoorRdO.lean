/- The contract of the grammar's plain expressions, by induction on the fuel. No condition. -/
import Derived.Test.YtaonmhegnnpgaaaDoorRdN
namespace Go.Proofs.YtaonmhegnnpgaaaDoor
open Go Go.RowKit

set_option maxRecDepth 100000 in
set_option maxHeartbeats 2000000 in
theorem plain_nil (n : Nat) (ih : NtAt n) (r : Nat)  (en d : Int) (w : World) (res : Except (Int × Int) (Ex × List Tok)) (h : Rd w r ([]) en d) (hd0 : 0 ≤ d) (hd1 : d ≤ 50)  (hres : parse en (n + 1) .plain d ([]) = some res) :
    Calls Tryd.prog 73 #[.pointer (some ⟨r, 0, none⟩)] w (Post r en d w (EVal w.heap.size) res) := by
  simp only [parse] at hres
  have hRes := Lib.hid hres
  have hI := Lib.hid ih
  clear hres ih
  have hr := h.lt
  go_enter Tryd.func73, Tryd.ntmps73
  go_wp2_with fail
  have hB0 := (Blk.new w 80 [.pointer (some ⟨r, 0, none⟩)]).alloc_ (o := .cells #[.int .i64 0, .slice none 0 0, .string ⟨#[]⟩, .string ⟨#[]⟩, .int .i64 0, .bool false, .int .i64 0, .string ⟨#[]⟩, .slice none 0 0] 57)
  have hQ0 := Blk.new (w.alloc (.cells #[.pointer (some ⟨r, 0, none⟩)] 80)) 57 [.int .i64 0, .slice none 0 0, .string ⟨#[]⟩, .string ⟨#[]⟩, .int .i64 0, .bool false, .int .i64 0, .string ⟨#[]⟩, .slice none 0 0]
  simp only [World.size_alloc] at hQ0
  have hk0 := ((Kp.refl r w).alloc (.cells #[.pointer (some ⟨r, 0, none⟩)] 80)).alloc (.cells #[.int .i64 0, .slice none 0 0, .string ⟨#[]⟩, .string ⟨#[]⟩, .int .i64 0, .bool false, .int .i64 0, .string ⟨#[]⟩, .slice none 0 0] 57)
  have hRd := (h.alloc (.cells #[.pointer (some ⟨r, 0, none⟩)] 80)).alloc (.cells #[.int .i64 0, .slice none 0 0, .string ⟨#[]⟩, .string ⟨#[]⟩, .int .i64 0, .bool false, .int .i64 0, .string ⟨#[]⟩, .slice none 0 0] 57)
  refine (next_calls r ([]) en d _ hRd).mono ?_
  rintro e w1 ⟨rfl, hb1⟩
  have h1 := hRd.below hb1
  have hk1 := hk0.below hb1
  have hB1 := hB0.below hb1 (by simp; omega)
  have hQ1 := hQ0.below hb1 (by simp)
  have hs1 := hb1.size
  simp only [World.size_alloc] at hs1
  clear hB0 hQ0 hk0 hRd hb1 h
  have hres := hRes.out
  clear hRes
  have hb1' := hB1.cell 0
  simp only [List.getElem?_cons_zero] at hb1'
  have hlb : w.heap.size < w1.heap.size := by omega
  have hres : parse en n .within d [] = some res := hres
  simp only [nextT, emp]
  go_wp2_with fail
  generalize hW : w1.alloc (.cells #[.int .i64 0, .string ⟨#[]⟩, .int .i64 0, .int .i64 en] 30) = W
  have hB2 := Blk.of_alloc hW hB1
  have hQ2 := Blk.of_alloc hW hQ1
  have hk2 := Kp.of_alloc hW hk1
  have h2 := Rd.of_alloc hW h1
  have hz2 := size_of_alloc hW
  have hb2 := hB2.cell 0
  simp only [List.getElem?_cons_zero] at hb2
  clear hW hB1 hQ1 hk1 h1 hb1'
  refine (hI.out .within n rfl (Nat.le_refl _) r _ en d W res h2 hd0 hd1 hres).mono ?_
  rintro e w3 hpost
  rcases res with ⟨pos', code⟩ | ⟨x, L'⟩
  · obtain ⟨rfl, hk3⟩ := hpost
    simp only [gave]
    go_wp2_with fail
    exact ⟨rfl, rfl, hk2.trans hk3⟩
  obtain ⟨v, rfl, hv, h3, hk3⟩ := hpost
  obtain ⟨op, ka, kn, kc, nm, pr, vk, vb, vm, vt, pa, pn, pc, rfl, hx⟩ := hv.nine
  have hQ3 := hQ2.kp hk3 (by omega)
  have hk := hk2.trans hk3
  obtain ⟨q0, q1, q2, q3, q4, q5, q6, q7, q8⟩ := hQ3.c9
  have fQ := hQ3.frozen
  clear hQ2 hk2 hk3 hQ3 hv hB2
  go_wp2_with fail
  exact bodyPost_ret (v := .agg #[.int .i64 op, .slice ka kn kc, .string nm, .string pr, .int .i64 vk, .bool vb, .int .i64 vm, .string vt, .slice pa pn pc]) (by simp [results, Tryd.results73, go_sem, *]) rfl (Post.end9 h3 hk hx (by omega) (by omega) (by omega))

set_option maxRecDepth 100000 in
set_option maxHeartbeats 2000000 in
theorem plain_int (n : Nat) (ih : NtAt n) (r : Nat) (t : Tok) (L : List Tok) (en d : Int) (w : World) (res : Except (Int × Int) (Ex × List Tok)) (h : Rd w r (t :: L) en d) (hd0 : 0 ≤ d) (hd1 : d ≤ 50) (k3 : t.kind = 3) (hres : parse en (n + 1) .plain d (t :: L) = some res) :
    Calls Tryd.prog 73 #[.pointer (some ⟨r, 0, none⟩)] w (Post r en d w (EVal w.heap.size) res) := by
  simp only [parse] at hres
  have hRes := Lib.hid hres
  have hI := Lib.hid ih
  clear hres ih
  have hr := h.lt
  go_enter Tryd.func73, Tryd.ntmps73
  go_wp2_with fail
  have hB0 := (Blk.new w 80 [.pointer (some ⟨r, 0, none⟩)]).alloc_ (o := .cells #[.int .i64 0, .slice none 0 0, .string ⟨#[]⟩, .string ⟨#[]⟩, .int .i64 0, .bool false, .int .i64 0, .string ⟨#[]⟩, .slice none 0 0] 57)
  have hQ0 := Blk.new (w.alloc (.cells #[.pointer (some ⟨r, 0, none⟩)] 80)) 57 [.int .i64 0, .slice none 0 0, .string ⟨#[]⟩, .string ⟨#[]⟩, .int .i64 0, .bool false, .int .i64 0, .string ⟨#[]⟩, .slice none 0 0]
  simp only [World.size_alloc] at hQ0
  have hk0 := ((Kp.refl r w).alloc (.cells #[.pointer (some ⟨r, 0, none⟩)] 80)).alloc (.cells #[.int .i64 0, .slice none 0 0, .string ⟨#[]⟩, .string ⟨#[]⟩, .int .i64 0, .bool false, .int .i64 0, .string ⟨#[]⟩, .slice none 0 0] 57)
  have hRd := (h.alloc (.cells #[.pointer (some ⟨r, 0, none⟩)] 80)).alloc (.cells #[.int .i64 0, .slice none 0 0, .string ⟨#[]⟩, .string ⟨#[]⟩, .int .i64 0, .bool false, .int .i64 0, .string ⟨#[]⟩, .slice none 0 0] 57)
  refine (next_calls r (t :: L) en d _ hRd).mono ?_
  rintro e w1 ⟨rfl, hb1⟩
  have h1 := hRd.below hb1
  have hk1 := hk0.below hb1
  have hB1 := hB0.below hb1 (by simp; omega)
  have hQ1 := hQ0.below hb1 (by simp)
  have hs1 := hb1.size
  simp only [World.size_alloc] at hs1
  clear hB0 hQ0 hk0 hRd hb1 h
  have hres := hRes.out
  clear hRes
  have hb1' := hB1.cell 0
  simp only [List.getElem?_cons_zero] at hb1'
  have hlb : w.heap.size < w1.heap.size := by omega
  simp only [nextT]
  change (if t.kind = 3 then _ else if t.kind = 4 then _ else if t.kind = 1 then _ else if t.kind = 2 then (if t.text.toList = sTRUE.toList ∨ t.text.toList = sFALSE.toList then Res.ret (lit ⟨1, decide (t.text.toList = sTRUE.toList), 0, emp, []⟩) _ else if t.text.toList = sNULL.toList then _ else _) else _) = some res at hres
  rw [if_pos k3] at hres
  go_wp2_with fail
  generalize hW : w1.alloc (.cells #[.int .i64 3, .string t.text, .int .i64 t.num, .int .i64 t.pos] 30) = W
  have hB2 := Blk.of_alloc hW hB1
  have hQ2 := Blk.of_alloc hW hQ1
  have hk2 := Kp.of_alloc hW hk1
  have h2 := Rd.of_alloc hW h1
  have hz2 := size_of_alloc hW
  have hb2 := hB2.cell 0
  simp only [List.getElem?_cons_zero] at hb2
  clear hW hB1 hQ1 hk1 h1 hb1'
  cases hres
  refine (lit_calls r w.heap.size t L en d W ⟨2, false, t.num, emp, []⟩ rfl h2 hb2).mono ?_
  rintro e w3 hpost

  obtain ⟨v, rfl, hv, h3, hk3⟩ := hpost
  obtain ⟨op, ka, kn, kc, nm, pr, vk, vb, vm, vt, pa, pn, pc, rfl, hx⟩ := hv.nine
  have hQ3 := hQ2.kp hk3 (by omega)
  have hk := hk2.trans hk3
  obtain ⟨q0, q1, q2, q3, q4, q5, q6, q7, q8⟩ := hQ3.c9
  have fQ := hQ3.frozen
  clear hQ2 hk2 hk3 hQ3 hv hB2
  go_wp2_with fail
  exact bodyPost_ret (v := .agg #[.int .i64 op, .slice ka kn kc, .string nm, .string pr, .int .i64 vk, .bool vb, .int .i64 vm, .string vt, .slice pa pn pc]) (by simp [results, Tryd.results73, go_sem, *]) rfl (Post.end9 h3 hk hx (by omega) (by omega) (by omega))

set_option maxRecDepth 100000 in
set_option maxHeartbeats 2000000 in
theorem plain_text (n : Nat) (ih : NtAt n) (r : Nat) (t : Tok) (L : List Tok) (en d : Int) (w : World) (res : Except (Int × Int) (Ex × List Tok)) (h : Rd w r (t :: L) en d) (hd0 : 0 ≤ d) (hd1 : d ≤ 50) (k4 : t.kind = 4) (hres : parse en (n + 1) .plain d (t :: L) = some res) :
    Calls Tryd.prog 73 #[.pointer (some ⟨r, 0, none⟩)] w (Post r en d w (EVal w.heap.size) res) := by
  simp only [parse] at hres
  have hRes := Lib.hid hres
  have hI := Lib.hid ih
  clear hres ih
  have hr := h.lt
  go_enter Tryd.func73, Tryd.ntmps73
  go_wp2_with fail
  have hB0 := (Blk.new w 80 [.pointer (some ⟨r, 0, none⟩)]).alloc_ (o := .cells #[.int .i64 0, .slice none 0 0, .string ⟨#[]⟩, .string ⟨#[]⟩, .int .i64 0, .bool false, .int .i64 0, .string ⟨#[]⟩, .slice none 0 0] 57)
  have hQ0 := Blk.new (w.alloc (.cells #[.pointer (some ⟨r, 0, none⟩)] 80)) 57 [.int .i64 0, .slice none 0 0, .string ⟨#[]⟩, .string ⟨#[]⟩, .int .i64 0, .bool false, .int .i64 0, .string ⟨#[]⟩, .slice none 0 0]
  simp only [World.size_alloc] at hQ0
  have hk0 := ((Kp.refl r w).alloc (.cells #[.pointer (some ⟨r, 0, none⟩)] 80)).alloc (.cells #[.int .i64 0, .slice none 0 0, .string ⟨#[]⟩, .string ⟨#[]⟩, .int .i64 0, .bool false, .int .i64 0, .string ⟨#[]⟩, .slice none 0 0] 57)
  have hRd := (h.alloc (.cells #[.pointer (some ⟨r, 0, none⟩)] 80)).alloc (.cells #[.int .i64 0, .slice none 0 0, .string ⟨#[]⟩, .string ⟨#[]⟩, .int .i64 0, .bool false, .int .i64 0, .string ⟨#[]⟩, .slice none 0 0] 57)
  refine (next_calls r (t :: L) en d _ hRd).mono ?_
  rintro e w1 ⟨rfl, hb1⟩
  have h1 := hRd.below hb1
  have hk1 := hk0.below hb1
  have hB1 := hB0.below hb1 (by simp; omega)
  have hQ1 := hQ0.below hb1 (by simp)
  have hs1 := hb1.size
  simp only [World.size_alloc] at hs1
  clear hB0 hQ0 hk0 hRd hb1 h
  have hres := hRes.out
  clear hRes
  have hb1' := hB1.cell 0
  simp only [List.getElem?_cons_zero] at hb1'
  have hlb : w.heap.size < w1.heap.size := by omega
  simp only [nextT]
  change (if t.kind = 3 then _ else if t.kind = 4 then _ else if t.kind = 1 then _ else if t.kind = 2 then (if t.text.toList = sTRUE.toList ∨ t.text.toList = sFALSE.toList then Res.ret (lit ⟨1, decide (t.text.toList = sTRUE.toList), 0, emp, []⟩) _ else if t.text.toList = sNULL.toList then _ else _) else _) = some res at hres
  have k3 : ¬ t.kind = 3 := by omega
  rw [if_neg k3, if_pos k4] at hres
  go_wp2_with fail
  generalize hW : w1.alloc (.cells #[.int .i64 4, .string t.text, .int .i64 t.num, .int .i64 t.pos] 30) = W
  have hB2 := Blk.of_alloc hW hB1
  have hQ2 := Blk.of_alloc hW hQ1
  have hk2 := Kp.of_alloc hW hk1
  have h2 := Rd.of_alloc hW h1
  have hz2 := size_of_alloc hW
  have hb2 := hB2.cell 0
  simp only [List.getElem?_cons_zero] at hb2
  clear hW hB1 hQ1 hk1 h1 hb1'
  cases hres
  refine (lit_calls r w.heap.size t L en d W ⟨3, false, 0, t.text, []⟩ rfl h2 hb2).mono ?_
  rintro e w3 hpost

  obtain ⟨v, rfl, hv, h3, hk3⟩ := hpost
  obtain ⟨op, ka, kn, kc, nm, pr, vk, vb, vm, vt, pa, pn, pc, rfl, hx⟩ := hv.nine
  have hQ3 := hQ2.kp hk3 (by omega)
  have hk := hk2.trans hk3
  obtain ⟨q0, q1, q2, q3, q4, q5, q6, q7, q8⟩ := hQ3.c9
  have fQ := hQ3.frozen
  clear hQ2 hk2 hk3 hQ3 hv hB2
  go_wp2_with fail
  exact bodyPost_ret (v := .agg #[.int .i64 op, .slice ka kn kc, .string nm, .string pr, .int .i64 vk, .bool vb, .int .i64 vm, .string vt, .slice pa pn pc]) (by simp [results, Tryd.results73, go_sem, *]) rfl (Post.end9 h3 hk hx (by omega) (by omega) (by omega))

set_option maxRecDepth 100000 in
set_option maxHeartbeats 2000000 in
theorem plain_key (n : Nat) (ih : NtAt n) (r : Nat) (t : Tok) (L : List Tok) (en d : Int) (w : World) (res : Except (Int × Int) (Ex × List Tok)) (h : Rd w r (t :: L) en d) (hd0 : 0 ≤ d) (hd1 : d ≤ 50) (k2 : t.kind = 2) (hres : parse en (n + 1) .plain d (t :: L) = some res) :
    Calls Tryd.prog 73 #[.pointer (some ⟨r, 0, none⟩)] w (Post r en d w (EVal w.heap.size) res) := by
  simp only [parse] at hres
  have hRes := Lib.hid hres
  have hI := Lib.hid ih
  clear hres ih
  have hr := h.lt
  go_enter Tryd.func73, Tryd.ntmps73
  go_wp2_with fail
  have hB0 := (Blk.new w 80 [.pointer (some ⟨r, 0, none⟩)]).alloc_ (o := .cells #[.int .i64 0, .slice none 0 0, .string ⟨#[]⟩, .string ⟨#[]⟩, .int .i64 0, .bool false, .int .i64 0, .string ⟨#[]⟩, .slice none 0 0] 57)
  have hQ0 := Blk.new (w.alloc (.cells #[.pointer (some ⟨r, 0, none⟩)] 80)) 57 [.int .i64 0, .slice none 0 0, .string ⟨#[]⟩, .string ⟨#[]⟩, .int .i64 0, .bool false, .int .i64 0, .string ⟨#[]⟩, .slice none 0 0]
  simp only [World.size_alloc] at hQ0
  have hk0 := ((Kp.refl r w).alloc (.cells #[.pointer (some ⟨r, 0, none⟩)] 80)).alloc (.cells #[.int .i64 0, .slice none 0 0, .string ⟨#[]⟩, .string ⟨#[]⟩, .int .i64 0, .bool false, .int .i64 0, .string ⟨#[]⟩, .slice none 0 0] 57)
  have hRd := (h.alloc (.cells #[.pointer (some ⟨r, 0, none⟩)] 80)).alloc (.cells #[.int .i64 0, .slice none 0 0, .string ⟨#[]⟩, .string ⟨#[]⟩, .int .i64 0, .bool false, .int .i64 0, .string ⟨#[]⟩, .slice none 0 0] 57)
  refine (next_calls r (t :: L) en d _ hRd).mono ?_
  rintro e w1 ⟨rfl, hb1⟩
  have h1 := hRd.below hb1
  have hk1 := hk0.below hb1
  have hB1 := hB0.below hb1 (by simp; omega)
  have hQ1 := hQ0.below hb1 (by simp)
  have hs1 := hb1.size
  simp only [World.size_alloc] at hs1
  clear hB0 hQ0 hk0 hRd hb1 h
  have hres := hRes.out
  clear hRes
  have hb1' := hB1.cell 0
  simp only [List.getElem?_cons_zero] at hb1'
  have hlb : w.heap.size < w1.heap.size := by omega
  simp only [nextT]
  change (if t.kind = 3 then _ else if t.kind = 4 then _ else if t.kind = 1 then _ else if t.kind = 2 then (if t.text.toList = sTRUE.toList ∨ t.text.toList = sFALSE.toList then Res.ret (lit ⟨1, decide (t.text.toList = sTRUE.toList), 0, emp, []⟩) _ else if t.text.toList = sNULL.toList then _ else _) else _) = some res at hres
  have k3 : ¬ t.kind = 3 := by omega
  have k4 : ¬ t.kind = 4 := by omega
  have k1 : ¬ t.kind = 1 := by omega
  rw [if_neg k3, if_neg k4, if_neg k1, if_pos k2] at hres
  by_cases hT : t.text.toList = sTRUE.toList
  · rw [if_pos (.inl hT), decide_eq_true hT] at hres
    have hT' : (t.text.toList == [84, 82, 85, 69]) = true := by rw [hT]; simp [sTRUE]
    clear hT
    go_wp2_with fail
    generalize hW : w1.alloc (.cells #[.int .i64 2, .string t.text, .int .i64 t.num, .int .i64 t.pos] 30) = W
    have hB2 := Blk.of_alloc hW hB1
    have hQ2 := Blk.of_alloc hW hQ1
    have hk2 := Kp.of_alloc hW hk1
    have h2 := Rd.of_alloc hW h1
    have hz2 := size_of_alloc hW
    have hb2 := hB2.cell 0
    simp only [List.getElem?_cons_zero] at hb2
    clear hW hB1 hQ1 hk1 h1 hb1'
    cases hres
    refine (lit_calls r w.heap.size t L en d W ⟨1, true, 0, emp, []⟩ rfl h2 hb2).mono ?_
    rintro e w3 hpost

    obtain ⟨v, rfl, hv, h3, hk3⟩ := hpost
    obtain ⟨op, ka, kn, kc, nm, pr, vk, vb, vm, vt, pa, pn, pc, rfl, hx⟩ := hv.nine
    have hQ3 := hQ2.kp hk3 (by omega)
    have hk := hk2.trans hk3
    obtain ⟨q0, q1, q2, q3, q4, q5, q6, q7, q8⟩ := hQ3.c9
    have fQ := hQ3.frozen
    clear hQ2 hk2 hk3 hQ3 hv hB2
    go_wp2_with fail
    exact bodyPost_ret (v := .agg #[.int .i64 op, .slice ka kn kc, .string nm, .string pr, .int .i64 vk, .bool vb, .int .i64 vm, .string vt, .slice pa pn pc]) (by simp [results, Tryd.results73, go_sem, *]) rfl (Post.end9 h3 hk hx (by omega) (by omega) (by omega))
  by_cases hF : t.text.toList = sFALSE.toList
  · rw [if_pos (.inr hF), decide_eq_false hT] at hres
    have hT' : (t.text.toList == [84, 82, 85, 69]) = false := by rw [hF]; simp [sFALSE]
    have hF' : (t.text.toList == [70, 65, 76, 83, 69]) = true := by rw [hF]; simp [sFALSE]
    clear hF hT
    go_wp2_with fail
    generalize hW : w1.alloc (.cells #[.int .i64 2, .string t.text, .int .i64 t.num, .int .i64 t.pos] 30) = W
    have hB2 := Blk.of_alloc hW hB1
    have hQ2 := Blk.of_alloc hW hQ1
    have hk2 := Kp.of_alloc hW hk1
    have h2 := Rd.of_alloc hW h1
    have hz2 := size_of_alloc hW
    have hb2 := hB2.cell 0
    simp only [List.getElem?_cons_zero] at hb2
    clear hW hB1 hQ1 hk1 h1 hb1'
    cases hres
    refine (lit_calls r w.heap.size t L en d W ⟨1, false, 0, emp, []⟩ rfl h2 hb2).mono ?_
    rintro e w3 hpost

    obtain ⟨v, rfl, hv, h3, hk3⟩ := hpost
    obtain ⟨op, ka, kn, kc, nm, pr, vk, vb, vm, vt, pa, pn, pc, rfl, hx⟩ := hv.nine
    have hQ3 := hQ2.kp hk3 (by omega)
    have hk := hk2.trans hk3
    obtain ⟨q0, q1, q2, q3, q4, q5, q6, q7, q8⟩ := hQ3.c9
    have fQ := hQ3.frozen
    clear hQ2 hk2 hk3 hQ3 hv hB2
    go_wp2_with fail
    exact bodyPost_ret (v := .agg #[.int .i64 op, .slice ka kn kc, .string nm, .string pr, .int .i64 vk, .bool vb, .int .i64 vm, .string vt, .slice pa pn pc]) (by simp [results, Tryd.results73, go_sem, *]) rfl (Post.end9 h3 hk hx (by omega) (by omega) (by omega))
  rw [if_neg (by rintro (h | h); exact hT h; exact hF h)] at hres
  have hT' : (t.text.toList == [84, 82, 85, 69]) = false := by simpa [sTRUE] using hT
  have hF' : (t.text.toList == [70, 65, 76, 83, 69]) = false := by simpa [sFALSE] using hF
  by_cases hN : t.text.toList = sNULL.toList
  · rw [if_pos hN] at hres
    have hN' : (t.text.toList == [78, 85, 76, 76]) = true := by rw [hN]; simp [sNULL]
    clear hN
    go_wp2_with fail
    generalize hW : w1.alloc (.cells #[.int .i64 2, .string t.text, .int .i64 t.num, .int .i64 t.pos] 30) = W
    have hB2 := Blk.of_alloc hW hB1
    have hQ2 := Blk.of_alloc hW hQ1
    have hk2 := Kp.of_alloc hW hk1
    have h2 := Rd.of_alloc hW h1
    have hz2 := size_of_alloc hW
    have hb2 := hB2.cell 0
    simp only [List.getElem?_cons_zero] at hb2
    clear hW hB1 hQ1 hk1 h1 hb1'
    cases hres
    refine (lit_calls r w.heap.size t L en d W ⟨0, false, 0, emp, []⟩ rfl h2 hb2).mono ?_
    rintro e w3 hpost

    obtain ⟨v, rfl, hv, h3, hk3⟩ := hpost
    obtain ⟨op, ka, kn, kc, nm, pr, vk, vb, vm, vt, pa, pn, pc, rfl, hx⟩ := hv.nine
    have hQ3 := hQ2.kp hk3 (by omega)
    have hk := hk2.trans hk3
    obtain ⟨q0, q1, q2, q3, q4, q5, q6, q7, q8⟩ := hQ3.c9
    have fQ := hQ3.frozen
    clear hQ2 hk2 hk3 hQ3 hv hB2
    go_wp2_with fail
    exact bodyPost_ret (v := .agg #[.int .i64 op, .slice ka kn kc, .string nm, .string pr, .int .i64 vk, .bool vb, .int .i64 vm, .string vt, .slice pa pn pc]) (by simp [results, Tryd.results73, go_sem, *]) rfl (Post.end9 h3 hk hx (by omega) (by omega) (by omega))
  rw [if_neg hN] at hres
  have hN' : (t.text.toList == [78, 85, 76, 76]) = false := by simpa [sNULL] using hN
  go_wp2_with fail
  generalize hW : w1.alloc (.cells #[.int .i64 2, .string t.text, .int .i64 t.num, .int .i64 t.pos] 30) = W
  have hB2 := Blk.of_alloc hW hB1
  have hQ2 := Blk.of_alloc hW hQ1
  have hk2 := Kp.of_alloc hW hk1
  have h2 := Rd.of_alloc hW h1
  have hz2 := size_of_alloc hW
  have hb2 := hB2.cell 0
  simp only [List.getElem?_cons_zero] at hb2
  clear hW hB1 hQ1 hk1 h1 hb1'
  refine (hI.out .call n rfl (Nat.le_refl _) r _ en d W res h2 hd0 hd1 hres).mono ?_
  rintro e w3 hpost
  rcases res with ⟨pos', code⟩ | ⟨x, L'⟩
  · obtain ⟨rfl, hk3⟩ := hpost
    simp only [gave]
    go_wp2_with fail
    exact ⟨rfl, rfl, hk2.trans hk3⟩
  obtain ⟨v, rfl, hv, h3, hk3⟩ := hpost
  obtain ⟨op, ka, kn, kc, nm, pr, vk, vb, vm, vt, pa, pn, pc, rfl, hx⟩ := hv.nine
  have hQ3 := hQ2.kp hk3 (by omega)
  have hk := hk2.trans hk3
  obtain ⟨q0, q1, q2, q3, q4, q5, q6, q7, q8⟩ := hQ3.c9
  have fQ := hQ3.frozen
  clear hQ2 hk2 hk3 hQ3 hv hB2
  go_wp2_with fail
  exact bodyPost_ret (v := .agg #[.int .i64 op, .slice ka kn kc, .string nm, .string pr, .int .i64 vk, .bool vb, .int .i64 vm, .string vt, .slice pa pn pc]) (by simp [results, Tryd.results73, go_sem, *]) rfl (Post.end9 h3 hk hx (by omega) (by omega) (by omega))

set_option maxRecDepth 100000 in
set_option maxHeartbeats 2000000 in
theorem plain_sign (n : Nat) (ih : NtAt n) (r : Nat) (t : Tok) (L : List Tok) (en d : Int) (w : World) (res : Except (Int × Int) (Ex × List Tok)) (h : Rd w r (t :: L) en d) (hd0 : 0 ≤ d) (hd1 : d ≤ 50) (k3 : ¬ t.kind = 3) (k4 : ¬ t.kind = 4) (k1 : ¬ t.kind = 1) (k2 : ¬ t.kind = 2) (hres : parse en (n + 1) .plain d (t :: L) = some res) :
    Calls Tryd.prog 73 #[.pointer (some ⟨r, 0, none⟩)] w (Post r en d w (EVal w.heap.size) res) := by
  simp only [parse] at hres
  have hRes := Lib.hid hres
  have hI := Lib.hid ih
  clear hres ih
  have hr := h.lt
  go_enter Tryd.func73, Tryd.ntmps73
  go_wp2_with fail
  have hB0 := (Blk.new w 80 [.pointer (some ⟨r, 0, none⟩)]).alloc_ (o := .cells #[.int .i64 0, .slice none 0 0, .string ⟨#[]⟩, .string ⟨#[]⟩, .int .i64 0, .bool false, .int .i64 0, .string ⟨#[]⟩, .slice none 0 0] 57)
  have hQ0 := Blk.new (w.alloc (.cells #[.pointer (some ⟨r, 0, none⟩)] 80)) 57 [.int .i64 0, .slice none 0 0, .string ⟨#[]⟩, .string ⟨#[]⟩, .int .i64 0, .bool false, .int .i64 0, .string ⟨#[]⟩, .slice none 0 0]
  simp only [World.size_alloc] at hQ0
  have hk0 := ((Kp.refl r w).alloc (.cells #[.pointer (some ⟨r, 0, none⟩)] 80)).alloc (.cells #[.int .i64 0, .slice none 0 0, .string ⟨#[]⟩, .string ⟨#[]⟩, .int .i64 0, .bool false, .int .i64 0, .string ⟨#[]⟩, .slice none 0 0] 57)
  have hRd := (h.alloc (.cells #[.pointer (some ⟨r, 0, none⟩)] 80)).alloc (.cells #[.int .i64 0, .slice none 0 0, .string ⟨#[]⟩, .string ⟨#[]⟩, .int .i64 0, .bool false, .int .i64 0, .string ⟨#[]⟩, .slice none 0 0] 57)
  refine (next_calls r (t :: L) en d _ hRd).mono ?_
  rintro e w1 ⟨rfl, hb1⟩
  have h1 := hRd.below hb1
  have hk1 := hk0.below hb1
  have hB1 := hB0.below hb1 (by simp; omega)
  have hQ1 := hQ0.below hb1 (by simp)
  have hs1 := hb1.size
  simp only [World.size_alloc] at hs1
  clear hB0 hQ0 hk0 hRd hb1 h
  have hres := hRes.out
  clear hRes
  have hb1' := hB1.cell 0
  simp only [List.getElem?_cons_zero] at hb1'
  have hlb : w.heap.size < w1.heap.size := by omega
  simp only [nextT]
  change (if t.kind = 3 then _ else if t.kind = 4 then _ else if t.kind = 1 then _ else if t.kind = 2 then (if t.text.toList = sTRUE.toList ∨ t.text.toList = sFALSE.toList then Res.ret (lit ⟨1, decide (t.text.toList = sTRUE.toList), 0, emp, []⟩) _ else if t.text.toList = sNULL.toList then _ else _) else _) = some res at hres
  rw [if_neg k3, if_neg k4, if_neg k1, if_neg k2] at hres
  go_wp2_with fail
  generalize hW : w1.alloc (.cells #[.int .i64 t.kind, .string t.text, .int .i64 t.num, .int .i64 t.pos] 30) = W
  have hB2 := Blk.of_alloc hW hB1
  have hQ2 := Blk.of_alloc hW hQ1
  have hk2 := Kp.of_alloc hW hk1
  have h2 := Rd.of_alloc hW h1
  have hz2 := size_of_alloc hW
  have hb2 := hB2.cell 0
  simp only [List.getElem?_cons_zero] at hb2
  clear hW hB1 hQ1 hk1 h1 hb1'
  refine (hI.out .within n rfl (Nat.le_refl _) r _ en d W res h2 hd0 hd1 hres).mono ?_
  rintro e w3 hpost
  rcases res with ⟨pos', code⟩ | ⟨x, L'⟩
  · obtain ⟨rfl, hk3⟩ := hpost
    simp only [gave]
    go_wp2_with fail
    exact ⟨rfl, rfl, hk2.trans hk3⟩
  obtain ⟨v, rfl, hv, h3, hk3⟩ := hpost
  obtain ⟨op, ka, kn, kc, nm, pr, vk, vb, vm, vt, pa, pn, pc, rfl, hx⟩ := hv.nine
  have hQ3 := hQ2.kp hk3 (by omega)
  have hk := hk2.trans hk3
  obtain ⟨q0, q1, q2, q3, q4, q5, q6, q7, q8⟩ := hQ3.c9
  have fQ := hQ3.frozen
  clear hQ2 hk2 hk3 hQ3 hv hB2
  go_wp2_with fail
  exact bodyPost_ret (v := .agg #[.int .i64 op, .slice ka kn kc, .string nm, .string pr, .int .i64 vk, .bool vb, .int .i64 vm, .string vt, .slice pa pn pc]) (by simp [results, Tryd.results73, go_sem, *]) rfl (Post.end9 h3 hk hx (by omega) (by omega) (by omega))

theorem plain_calls (n : Nat) (ih : NtAt n) (r : Nat) (L : List Tok) (en d : Int) (w : World) (res : Except (Int × Int) (Ex × List Tok)) (h : Rd w r L en d) (hd0 : 0 ≤ d) (hd1 : d ≤ 50) (hres : parse en (n + 1) .plain d L = some res) :
    Calls Tryd.prog 73 #[.pointer (some ⟨r, 0, none⟩)] w (Post r en d w (EVal w.heap.size) res) := by
  cases L with
  | nil => exact plain_nil n ih r en d w res h hd0 hd1 hres
  | cons t L =>
    by_cases k3 : t.kind = 3
    · exact plain_int n ih r t L en d w res h hd0 hd1 k3 hres
    by_cases k4 : t.kind = 4
    · exact plain_text n ih r t L en d w res h hd0 hd1 k4 hres
    by_cases k1 : t.kind = 1
    · exact plain_name n ih r t L en d w res h hd0 hd1 k1 hres
    by_cases k2 : t.kind = 2
    · exact plain_key n ih r t L en d w res h hd0 hd1 k2 hres
    exact plain_sign n ih r t L en d w res h hd0 hd1 k3 k4 k1 k2 hres
end Go.Proofs.YtaonmhegnnpgaaaDoor
