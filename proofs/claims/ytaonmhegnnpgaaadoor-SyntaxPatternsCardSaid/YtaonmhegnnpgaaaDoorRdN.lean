/- The contract of the grammar's plain expressions, by induction on the fuel. No condition. -/
import Derived.Test.YtaonmhegnnpgaaaDoorRdM
namespace Go.Proofs.YtaonmhegnnpgaaaDoor
open Go Go.RowKit

set_option maxRecDepth 100000 in
set_option maxHeartbeats 2000000 in
theorem plain_name (n : Nat) (ih : NtAt n) (r : Nat) (t : Tok) (L : List Tok) (en d : Int) (w : World) (res : Except (Int × Int) (Ex × List Tok)) (h : Rd w r (t :: L) en d) (hd0 : 0 ≤ d) (hd1 : d ≤ 50) (k1 : t.kind = 1) (hres : parse en (n + 1) .plain d (t :: L) = some res) :
    Calls Tryd.prog 73 #[.pointer (some ⟨r, 0, none⟩)] w (Post r en d w (EVal w.heap.size) res) := by
  simp only [parse] at hres
  have hRes := Lib.hid hres
  have hI := Lib.hid ih
  clear hres ih
  have hr := h.lt
  go_enter Tryd.func73, Tryd.ntmps73
  go_wp2_with fail
  have hB0 := (Blk.new w 80 [.pointer (some ⟨r, 0, none⟩)]).alloc_ (o := .cells #[.int .i64 0, .slice none 0 0, .string ⟨#[]⟩, .string ⟨#[]⟩, .int .i64 0, .bool false, .int .i64 0, .string ⟨#[]⟩, .slice none 0 0] 57)
  have hQ0 := Blk.new (w.alloc (.cells #[.pointer (some ⟨r, 0, none⟩)] 80)) 57 [.int .i64 0, .slice none 0 0, .string ⟨#[]⟩, .string ⟨#[]⟩, .int .i64 0, .bool false, .int .i64 0, .string ⟨#[]⟩, .slice none 0 0]
  simp only [World.size_alloc] at hQ0
  have hk0 := ((Kp.refl r w).alloc (.cells #[.pointer (some ⟨r, 0, none⟩)] 80)).alloc (.cells #[.int .i64 0, .slice none 0 0, .string ⟨#[]⟩, .string ⟨#[]⟩, .int .i64 0, .bool false, .int .i64 0, .string ⟨#[]⟩, .slice none 0 0] 57)
  have hRd := (h.alloc (.cells #[.pointer (some ⟨r, 0, none⟩)] 80)).alloc (.cells #[.int .i64 0, .slice none 0 0, .string ⟨#[]⟩, .string ⟨#[]⟩, .int .i64 0, .bool false, .int .i64 0, .string ⟨#[]⟩, .slice none 0 0] 57)
  refine (next_calls r (t :: L) en d _ hRd).mono ?_
  rintro e w1 ⟨rfl, hb1⟩
  have h1 := hRd.below hb1
  have hk1 := hk0.below hb1
  have hB1 := hB0.below hb1 (by simp; omega)
  have hQ1 := hQ0.below hb1 (by simp)
  have hs1 := hb1.size
  simp only [World.size_alloc] at hs1
  clear hB0 hQ0 hk0 hRd hb1 h
  have hres := hRes.out
  clear hRes
  have hb1' := hB1.cell 0
  simp only [List.getElem?_cons_zero] at hb1'
  have hlb : w.heap.size < w1.heap.size := by omega
  simp only [nextT]
  change (if t.kind = 3 then _ else if t.kind = 4 then _ else if t.kind = 1 then _ else if t.kind = 2 then (if t.text.toList = sTRUE.toList ∨ t.text.toList = sFALSE.toList then Res.ret (lit ⟨1, decide (t.text.toList = sTRUE.toList), 0, emp, []⟩) _ else if t.text.toList = sNULL.toList then _ else _) else _) = some res at hres
  have k3 : ¬ t.kind = 3 := by omega
  have k4 : ¬ t.kind = 4 := by omega
  rw [if_neg k3, if_neg k4, if_pos k1] at hres
  go_wp2_with fail
  generalize hW : w1.alloc (.cells #[.int .i64 1, .string t.text, .int .i64 t.num, .int .i64 t.pos] 30) = W
  have hB2 := Blk.of_alloc hW hB1
  have hQ2 := Blk.of_alloc hW hQ1
  have hk2 := Kp.of_alloc hW hk1
  have h2 := Rd.of_alloc hW h1
  have hz2 := size_of_alloc hW
  have hT2 := Blk.new_of (cs := [.int .i64 1, .string t.text, .int .i64 t.num, .int .i64 t.pos]) hW
  have hb2 := hB2.cell 0
  simp only [List.getElem?_cons_zero] at hb2
  clear hW hB1 hQ1 hk1 h1 hb1'
  refine (take_calls r t L en d W h2).mono ?_
  rintro e w3 ⟨rfl, h3, hk3⟩
  have hB3 := hB2.kp hk3 (by omega)
  have hQ3 := hQ2.kp hk3 (by omega)
  have hT3 := hT2.kp hk3 (by omega)
  have hk3' := hk2.trans hk3
  have hres : (if hasB L sDot then (nameR en L.tail).bind fun p L => .ret (.mk 3 [] t.text p vl0) L else .ret (.mk 2 [] t.text emp vl0) L) = some res := hres
  have hRes := Lib.hid hres
  have hb3 := hB3.cell 0
  simp only [List.getElem?_cons_zero] at hb3
  clear hB2 hQ2 hT2 hk2 hk3 h2 hres hb2
  go_wp2_with fail
  refine (has_calls r L sDot en d _ h3).mono ?_
  rintro e w4 ⟨rfl, h4, hk4⟩
  have hB4 := hB3.kp hk4 (by omega)
  have hQ4 := hQ3.kp hk4 (by omega)
  have hT4 := hT3.kp hk4 (by omega)
  have hk4' := hk3'.trans hk4
  have hb4 := hB4.cell 0
  have ht1 := hT4.cell 1
  have hbl := hB4.lt
  have htl := hT4.lt
  have hql := hQ4.lt
  simp only [List.getElem?_cons_zero, List.getElem?_cons_succ] at hb4 ht1
  clear hB3 hQ3 hT3 hk3' hk4 h3 hb3
  have hres := hRes.out
  clear hRes
  obtain ⟨q0, q1, q2, q3, q4, q5, q6, q7, q8⟩ := hQ4.c9
  have fQ := hQ4.frozen
  cases hh : hasB L sDot with
  | false =>
    rw [hh] at h4
    have h4' : Rd w4 r L en d := h4
    simp only [hh] at hres
    cases hres
    clear h4
    go_wp2_with fail
    exact bodyPost_ret (v := .agg #[.int .i64 2, .slice none 0 0, .string t.text, .string ⟨#[]⟩, .int .i64 0, .bool false, .int .i64 0, .string ⟨#[]⟩, .slice none 0 0]) (by simp [results, Tryd.results73, go_sem, *]) rfl
      (Post.end9 (lo := w.heap.size + 2) h4' hk4' ⟨none, 0, [], _, rfl, RepV.flat _ _ 0 false 0 emp none 0, .nil_, rfl⟩ (by omega) (by omega) (by omega))
  | true =>
    rw [hh] at h4
    have h4' : Rd w4 r L.tail en d := h4
    simp only [hh, if_true] at hres
    obtain ⟨r5, hr5⟩ := Res.bind_some hres
    rw [hr5] at hres
    have hRes := Lib.hid hres
    have hR5 := Lib.hid hr5
    clear h4 hres hr5
    go_wp2_with fail
    rcases r5 with ⟨pos', code⟩ | ⟨p, L2⟩
    · have hres := hRes.out
      cases hres
      clear hRes
      go_region_held2 (fun w' => w'.cell? ⟨w.heap.size, 0, none⟩ = some (.pointer (some ⟨r, 0, none⟩)) ∧ w'.cell? ⟨w1.heap.size, 1, none⟩ = some (.string t.text))
        (first | exact (hF.out.elim) | go_keep)
        ((go_at_call 47; refine Calls.gives_up (.string emp) (name_calls r L.tail en d _ h4'.drew _ hR5.out) (fun w6 hk6 => ⟨rfl, rfl, hk4'.drew.trans hk6⟩) ?_; intro w6 hF; obtain ⟨q0', q1', q2', q3', q4', q5', q6', q7', q8'⟩ := Blk.c9 (w := w6) (g := w.heap.size + 1) (t := 0) (v0 := .int .i64 0) (v1 := .int .i64 0) (v2 := .int .i64 0) (v3 := .int .i64 0) (v4 := .int .i64 0) (v5 := .int .i64 0) (v6 := .int .i64 0) (v7 := .int .i64 0) (v8 := .int .i64 0) hF.out.elim; have fQ' : ∀ i, w6.frozen? ⟨w.heap.size + 1, i, none⟩ = false := hF.out.elim; have hq6 : w.heap.size < w6.heap.size := hF.out.elim))
      all_goals exact hF.out.elim
    · have hres := hRes.out
      simp only [Res.bind_ok] at hres
      cases hres
      clear hRes
      have hne1 : ¬ w.heap.size = w.heap.size + 1 := by omega
      have hne2 : ¬ w1.heap.size = w.heap.size + 1 := by omega
      have hne3 : ¬ w.heap.size + 1 = w1.heap.size := by omega
      go_region_held3 (fun w' => w'.cell? ⟨w.heap.size, 0, none⟩ = some (.pointer (some ⟨r, 0, none⟩)) ∧ w'.cell? ⟨w1.heap.size, 1, none⟩ = some (.string t.text))
        (first | (with_reducible exact ⟨hb6, ht6⟩) | go_keep)
        ((go_at_call 47; refine (name_calls r L.tail en d _ h4'.drew _ hR5.out).mono ?_; rintro e w6 ⟨v, rfl, rfl, h6, hk6⟩; have hb6 := (Blk.kp (Blk.drew hB4) hk6 (by omega)).cell 0; have ht6 := (Blk.kp (Blk.drew hT4) hk6 (by omega)).cell 1; simp only [List.getElem?_cons_zero, List.getElem?_cons_succ] at hb6 ht6; obtain ⟨q0', q1', q2', q3', q4', q5', q6', q7', q8'⟩ := (Blk.kp (Blk.drew hQ4) hk6 (by omega)).c9; have fQ' := (Blk.kp (Blk.drew hQ4) hk6 (by omega)).frozen; have hq6 := (Blk.kp (Blk.drew hQ4) hk6 (by omega)).lt))
      have hk6' := hk4'.drew.trans hk6
      go_wp2_with fail
      exact bodyPost_ret (v := .agg #[.int .i64 3, .slice none 0 0, .string t.text, .string p, .int .i64 0, .bool false, .int .i64 0, .string ⟨#[]⟩, .slice none 0 0]) (by simp [results, Tryd.results73, go_sem, *]) rfl
        (Post.end9 (lo := w.heap.size + 2) h6 hk6' ⟨none, 0, [], _, rfl, RepV.flat _ _ 0 false 0 emp none 0, .nil_, rfl⟩ (by omega) (by omega) (by omega))

end Go.Proofs.YtaonmhegnnpgaaaDoor
