/- The contract of a function's call, by induction on the fuel. No condition. -/
import Derived.Test.YtaonmhegnnpgaaaDoorRdP
namespace Go.Proofs.YtaonmhegnnpgaaaDoor
open Go Go.RowKit

/-- The closure that reads the star. -/
theorem star_calls (r bx : Nat) (L : List Tok) (en d : Int) (w : World) (h : Rd w r L en d) (hb : w.cell? ⟨bx, 0, none⟩ = some (.pointer (some ⟨r, 0, none⟩))) (res : Except (Int × Int) (Ex × List Tok))
    (hres : ((mustR en sStar L).bind fun _ L' => .ret (.mk 26 [] emp emp vl0) L') = some res) :
    Calls Tryd.prog 77 #[.pointer (some ⟨bx, 0, none⟩)] w (Post r en d w (EVal w.heap.size) res) := by
  have hbl := lt_of_cell hb
  simp only at hbl
  have hr := h.lt
  obtain ⟨r1, hr1⟩ := Res.bind_some hres
  rw [hr1] at hres
  have hRes := Lib.hid hres
  have hR1 := Lib.hid hr1
  clear hres hr1
  go_enter Tryd.func77, Tryd.ntmps77
  go_wp2_with fail
  have hk0 := ((Kp.refl r w).alloc (.cells #[.int .i64 0, .slice none 0 0, .string ⟨#[]⟩, .string ⟨#[]⟩, .int .i64 0, .bool false, .int .i64 0, .string ⟨#[]⟩, .slice none 0 0] 57)).alloc (.cells #[.string sStar] 9)
  have hQ0 := (Blk.new w 57 [.int .i64 0, .slice none 0 0, .string ⟨#[]⟩, .string ⟨#[]⟩, .int .i64 0, .bool false, .int .i64 0, .string ⟨#[]⟩, .slice none 0 0]).alloc_ (o := .cells #[.string sStar] 9)
  have hS0 := (Blk.new (w.alloc (.cells #[.int .i64 0, .slice none 0 0, .string ⟨#[]⟩, .string ⟨#[]⟩, .int .i64 0, .bool false, .int .i64 0, .string ⟨#[]⟩, .slice none 0 0] 57)) 9 [.string sStar]).cell 0
  simp only [World.size_alloc] at hS0
  refine (must1_calls r L sStar (w.heap.size + 1) 1 en d _ ((h.alloc _).alloc _) hS0 (by omega) r1 hR1.out).mono ?_
  rintro e w1 hpost
  have hres := hRes.out
  clear hRes hR1 hS0
  rcases r1 with ⟨pos', code⟩ | ⟨u', L1⟩
  · obtain ⟨rfl, hk1⟩ := hpost
    simp only [gave]
    go_wp2_with fail
    cases hres
    exact ⟨rfl, rfl, hk0.trans hk1⟩
  cases hres
  obtain ⟨v, rfl, rfl, h1, hk1⟩ := hpost
  have hQ1 := hQ0.kp hk1 (by omega)
  have hk := hk0.trans hk1
  obtain ⟨q0, q1, q2, q3, q4, q5, q6, q7, q8⟩ := hQ1.c9
  have fQ := hQ1.frozen
  clear hQ0 hk0 hk1 hQ1 hb
  go_wp2_with fail
  exact bodyPost_ret (v := .agg #[.int .i64 26, .slice none 0 0, .string ⟨#[]⟩, .string ⟨#[]⟩, .int .i64 0, .bool false, .int .i64 0, .string ⟨#[]⟩, .slice none 0 0]) (by simp [results, Tryd.results77, go_sem, *]) rfl
    (Post.end9 (lo := w.heap.size + 2) h1 hk ⟨none, 0, [], _, rfl, RepV.flat _ _ 0 false 0 emp none 0, .nil_, rfl⟩ (by omega) (by omega) (by omega))

theorem callOp_nil (en : Int) : callOp (nextT en []).text = none := by simp [callOp, nextT, emp, sLENGTH, sCOUNT, sSUM, sMIN, sMAX]

/-- The second of some words, as the walk reads it. -/
theorem Toks.second {w : World} {a : Option Addr} {t u : Tok} {L : List Tok} (h : Toks w a (t :: u :: L)) :
    ∃ b off, a = some ⟨b, off, none⟩ ∧ w.cell? ⟨b, off + 4, none⟩ = some (.int .i64 u.kind) ∧ w.cell? ⟨b, off + 4 + 1, none⟩ = some (.string u.text) := by
  obtain ⟨b, off, ha, _, hc⟩ := CellsAt.first (v := .int .i64 t.kind) (cs := .string t.text :: .int .i64 t.num :: .int .i64 t.pos :: .int .i64 u.kind :: .string u.text :: .int .i64 u.num :: .int .i64 u.pos :: L.flatMap tokCells) h
  exact ⟨b, off, ha, hc 4 _ rfl, hc 5 _ rfl⟩

set_option maxRecDepth 100000 in
set_option maxHeartbeats 2000000 in
theorem call_calls (n : Nat) (ih : NtAt n) (r : Nat) (L : List Tok) (en d : Int) (w : World) (res : Except (Int × Int) (Ex × List Tok)) (h : Rd w r L en d) (hd0 : 0 ≤ d) (hd1 : d ≤ 50) (hres : parse en (n + 1) .call d L = some res) :
    Calls Tryd.prog 75 #[.pointer (some ⟨r, 0, none⟩)] w (Post r en d w (EVal w.heap.size) res) := by
  simp only [parse] at hres
  have hRes := Lib.hid hres
  have hI := Lib.hid ih
  clear hres ih
  have hr := h.lt
  have hmm := @run_makeMap Tryd.prog
  have hk0 := ((Kp.refl r w).alloc (.cells #[.pointer (some ⟨r, 0, none⟩)] 80)).alloc (.cells #[.int .i64 0, .slice none 0 0, .string ⟨#[]⟩, .string ⟨#[]⟩, .int .i64 0, .bool false, .int .i64 0, .string ⟨#[]⟩, .slice none 0 0] 57)
  have hQ0 := Blk.new (w.alloc (.cells #[.pointer (some ⟨r, 0, none⟩)] 80)) 57 [.int .i64 0, .slice none 0 0, .string ⟨#[]⟩, .string ⟨#[]⟩, .int .i64 0, .bool false, .int .i64 0, .string ⟨#[]⟩, .slice none 0 0]
  have hB0 := (Blk.new w 80 [.pointer (some ⟨r, 0, none⟩)]).alloc (.cells #[.int .i64 0, .slice none 0 0, .string ⟨#[]⟩, .string ⟨#[]⟩, .int .i64 0, .bool false, .int .i64 0, .string ⟨#[]⟩, .slice none 0 0] 57)
  have hh := (Below.refl w.heap.size w).alloc (Nat.le_refl _) (.cells #[.pointer (some ⟨r, 0, none⟩)] 80)
  have hh0 := hh.alloc (by simp) (.cells #[.int .i64 0, .slice none 0 0, .string ⟨#[]⟩, .string ⟨#[]⟩, .int .i64 0, .bool false, .int .i64 0, .string ⟨#[]⟩, .slice none 0 0] 57)
  have hM0 := heap_alloc_new ((w.alloc (.cells #[.pointer (some ⟨r, 0, none⟩)] 80)).alloc (.cells #[.int .i64 0, .slice none 0 0, .string ⟨#[]⟩, .string ⟨#[]⟩, .int .i64 0, .bool false, .int .i64 0, .string ⟨#[]⟩, .slice none 0 0] 57)) (.map #[] 0)
  simp only [World.size_alloc] at hM0 hQ0
  obtain ⟨w1, w2, w3, w4, w5, e1, e2, e3, e4, e5, hM5, hg5⟩ := five_puts _ _ hM0
  have hb5 := (hh0.alloc (by simp; omega) (.map #[] 0)).grown hg5 (by simp; omega) (by simp; omega)
  have h5 := h.below hb5
  have hQ5 := (hQ0.alloc (.map #[] 0)).grown hg5 (by simp)
  have hB5 := (hB0.alloc (.map #[] 0)).grown hg5 (by simp; omega)
  have hk5 := (Kp.of_below hb5 : Kp r w w5)
  have hs5 : w.heap.size + 3 ≤ w5.heap.size := by have := hg5.size; simp at this; omega
  have c5 := hB5.cell 0
  simp only [List.getElem?_cons_zero] at c5
  clear hM0 hk0 hQ0 hB0 hh hh0 hg5 hb5
  go_enter Tryd.func75, Tryd.ntmps75
  go_wp2_with fail
  clear e1 e2 e3 e4 e5 hmm
  refine (next_calls r L en d _ h5).mono ?_
  rintro e w6 ⟨rfl, hb6⟩
  have h6 := h5.below hb6
  have hk6 := hk5.below hb6
  have hM6 : w6.heap[w.heap.size + 1 + 1]? = some (.map callMap 5) := (hb6.block _ (by omega)).trans hM5
  have hQ6 := hQ5.below hb6 (by omega)
  have hB6 := hB5.below hb6 (by omega)
  have hs6 := hb6.size
  clear hM5 hQ5 hB5 h5 hk5 hb6 c5
  have hf := find_call w6 (w.heap.size + 1 + 1) (nextT en L).text hM6
  have c6 := hB6.cell 0
  simp only [List.getElem?_cons_zero] at c6
  have hres := hRes.out
  clear hRes
  cases hc : callOp (nextT en L).text with
  | none =>
    rw [hc] at hres hf
    have hRes := Lib.hid hres
    clear hres hc hM6
    simp only [Option.getD_none, Option.isSome_none] at hf
    go_wp2_with fail
    refine (stop_calls r L en d _ h6).mono ?_
    rintro e w7 ⟨rfl, hb7⟩
    simp only [gave]
    go_wp2_with fail
    have hres := hRes.out
    cases hres
    exact ⟨rfl, rfl, hk6.below hb7⟩
  | some op =>
    rw [hc] at hres hf
    cases L with
    | nil => rw [callOp_nil] at hc; cases hc
    | cons t L =>
    have hRes := Lib.hid hres
    clear hres hc hM6
    simp only [Option.getD_some, Option.isSome_some] at hf
    go_wp2_with fail
    refine (take_calls r t L en d _ h6).mono ?_
    rintro e w7 ⟨rfl, h7, hk7⟩
    have hQ7 := hQ6.kp hk7 (by omega)
    have hB7 := hB6.kp hk7 (by omega)
    have hk7' := hk6.trans hk7
    have hs7 := hk7.size
    have c7 := hB7.cell 0
    simp only [List.getElem?_cons_zero] at c7
    clear hf c6 hQ6 hB6 h6 hk6 hk7
    obtain ⟨a, c, hlc, hcm, hrb, ha, ht⟩ := id h7
    have c0 := hrb.cell 0
    simp only [List.getElem?_cons_zero] at c0
    clear hrb ha
                -- cases
    by_cases h22 : op = 22
    · subst h22
      cases L with
      | nil =>
        clear ht
        have hres := hRes.out
        clear hRes
        rw [if_pos (.inr rfl)] at hres
        obtain ⟨r2, hr2⟩ := Res.bind_some hres
        rw [hr2] at hres
        have hRes := Lib.hid hres
        have hR2 := Lib.hid hr2
        clear hres hr2
        go_wp2_with fail
        refine (hI.out .within n rfl (Nat.le_refl _) r [] en d _ r2 h7 hd0 hd1 hR2.out).mono ?_
        rintro e w8 hpost
        have hres := hRes.out
        clear hRes hR2 hI
        rcases r2 with ⟨pos', code⟩ | ⟨x', L2⟩
        · obtain ⟨rfl, hk8⟩ := hpost
          simp only [gave]
          go_wp2_with fail
          cases hres
          exact ⟨rfl, rfl, hk7'.trans hk8⟩
        · simp only [Res.bind, Res.ret] at hres
          cases hres
          obtain ⟨v, rfl, hv, h8, hk8⟩ := hpost
          obtain ⟨op', kk, kn, kc, nm, pr, vk, vb, vm, vt, pa, pn, pc, rfl, hx⟩ := hv.nine
          have hQ8 := hQ7.kp hk8 (by omega)
          have hk := hk7'.trans hk8
          obtain ⟨q0, q1, q2, q3, q4, q5, q6, q7, q8⟩ := hQ8.c9
          have fQ := hQ8.frozen
          have hql := hQ8.lt
          have hs8 := hk8.size
          clear hk8 hQ8 hv hQ7 hk7' h7 hB7 c7 c0
          go_wp2_with fail
          refine bodyPost_ret (v := .agg #[.int .i64 22, .slice (some ⟨w8.heap.size, 0, none⟩) 1 1, .string ⟨#[]⟩, .string ⟨#[]⟩, .int .i64 0, .bool false, .int .i64 0, .string ⟨#[]⟩, .slice none 0 0]) (by simp [results, Tryd.results75, go_sem, *]) rfl ⟨_, rfl, EVal.mk_ ?_, ?_, ?_⟩
          · refine RepE.mono (S := From (w.heap.size + 2)) (From.down (by omega)) ?_
            with_reducible refine RepE.new_one ?hC1 (RepE.same ?hs1 (RepE.mono (From.down (by omega)) hx)) ?hb1
            case hC1 => simp only [World.size_setCell]
            case hb1 => unfold From; omega
            repeat' (first | with_reducible exact Same.refl _ _ | with_reducible refine Same.low ?_ ?_)
            all_goals omega
          · repeat' (first | with_reducible exact h8 | with_reducible refine Rd.alloc_ ?_ | with_reducible refine Rd.far_ ?_ ?_)
            all_goals omega
          · repeat' (first | with_reducible exact hk | with_reducible refine Kp.alloc_ ?_ | with_reducible refine Kp.new_ ?_ ?_)
            all_goals omega
      | cons x L =>
      cases L with
      | nil =>
        clear ht
        have hres := hRes.out
        clear hRes
        rw [if_pos (.inr rfl)] at hres
        obtain ⟨r2, hr2⟩ := Res.bind_some hres
        rw [hr2] at hres
        have hRes := Lib.hid hres
        have hR2 := Lib.hid hr2
        clear hres hr2
        go_wp2_with fail
        refine (hI.out .within n rfl (Nat.le_refl _) r [x] en d _ r2 h7 hd0 hd1 hR2.out).mono ?_
        rintro e w8 hpost
        have hres := hRes.out
        clear hRes hR2 hI
        rcases r2 with ⟨pos', code⟩ | ⟨x', L2⟩
        · obtain ⟨rfl, hk8⟩ := hpost
          simp only [gave]
          go_wp2_with fail
          cases hres
          exact ⟨rfl, rfl, hk7'.trans hk8⟩
        · simp only [Res.bind, Res.ret] at hres
          cases hres
          obtain ⟨v, rfl, hv, h8, hk8⟩ := hpost
          obtain ⟨op', kk, kn, kc, nm, pr, vk, vb, vm, vt, pa, pn, pc, rfl, hx⟩ := hv.nine
          have hQ8 := hQ7.kp hk8 (by omega)
          have hk := hk7'.trans hk8
          obtain ⟨q0, q1, q2, q3, q4, q5, q6, q7, q8⟩ := hQ8.c9
          have fQ := hQ8.frozen
          have hql := hQ8.lt
          have hs8 := hk8.size
          clear hk8 hQ8 hv hQ7 hk7' h7 hB7 c7 c0
          go_wp2_with fail
          refine bodyPost_ret (v := .agg #[.int .i64 22, .slice (some ⟨w8.heap.size, 0, none⟩) 1 1, .string ⟨#[]⟩, .string ⟨#[]⟩, .int .i64 0, .bool false, .int .i64 0, .string ⟨#[]⟩, .slice none 0 0]) (by simp [results, Tryd.results75, go_sem, *]) rfl ⟨_, rfl, EVal.mk_ ?_, ?_, ?_⟩
          · refine RepE.mono (S := From (w.heap.size + 2)) (From.down (by omega)) ?_
            with_reducible refine RepE.new_one ?hC2 (RepE.same ?hs2 (RepE.mono (From.down (by omega)) hx)) ?hb2
            case hC2 => simp only [World.size_setCell]
            case hb2 => unfold From; omega
            repeat' (first | with_reducible exact Same.refl _ _ | with_reducible refine Same.low ?_ ?_)
            all_goals omega
          · repeat' (first | with_reducible exact h8 | with_reducible refine Rd.alloc_ ?_ | with_reducible refine Rd.far_ ?_ ?_)
            all_goals omega
          · repeat' (first | with_reducible exact hk | with_reducible refine Kp.alloc_ ?_ | with_reducible refine Kp.new_ ?_ ?_)
            all_goals omega
      | cons y L =>
      obtain ⟨b, off, rfl, y0, y1⟩ := ht.second
      clear ht
      by_cases k5 : y.kind = 5
      · have k5' : (y.kind == 5) = true := by simpa using k5
        by_cases ks : (y.text.toList == [42]) = true
        · have hB : ¬ ((22 : Int) ≠ 22 ∨ starB (t :: x :: y :: L).tail = false) := by simp [starB, k5, sStar] ; simpa using ks
          clear k5
          have hres := hRes.out
          clear hRes
          rw [if_neg hB] at hres
          simp only [List.tail_cons] at hres
          obtain ⟨r2, hr2⟩ := Res.bind_some hres
          rw [hr2] at hres
          have hRes := Lib.hid hres
          have hR2 := Lib.hid hr2
          clear hres hr2 hB
          go_wp2_with fail
          clear y0 y1 c0
          refine (next_calls r (x :: y :: L) en d _ h7).mono ?_
          rintro e w8 ⟨rfl, hb8⟩
          rw [place_next]
          have h8 := h7.below hb8
          have hQ8 := hQ7.below hb8 (by omega)
          have hB8 := hB7.below hb8 (by omega)
          have hk8 := hk7'.below hb8
          have hs8 := hb8.size
          have hr8 := h8.lt
          have c8 := hB8.cell 0
          simp only [List.getElem?_cons_zero] at c8
          clear h7 hQ7 hB7 c7 hk7' hb8
          go_wp2_with fail
          refine (must1_calls r (x :: y :: L) sOpen w8.heap.size 1 en d _ h8.alloc_ (by simp [go_sem]; rfl) (by omega) r2 hR2.out).mono ?_
          rintro e w9 hpost
          have hres := hRes.out
          clear hRes hR2
          rcases r2 with ⟨pos', code⟩ | ⟨u, L2⟩
          · obtain ⟨rfl, hk9⟩ := hpost
            simp only [gave]
            go_wp2_with fail
            cases hres
            exact ⟨rfl, rfl, hk8.alloc_.trans hk9⟩
          simp only [Res.bind_ok] at hres
          obtain ⟨v, rfl, rfl, h9, hk9⟩ := hpost
          have hQ9 := (hQ8.alloc_).kp hk9 (by omega)
          have hB9 := (hB8.alloc_).kp hk9 (by omega)
          have hk9' := hk8.alloc_.trans hk9
          have hs9 := hk9.size
          simp only [World.size_alloc] at hs9
          have c9 := hB9.cell 0
          simp only [List.getElem?_cons_zero] at c9
          have hb9 := hB9.lt
          clear h8 hk8 hQ8 hB8 c8 hk9
          obtain ⟨r3, hr3⟩ := Res.bind_some hres
          rw [hr3] at hres
          have hRes := Lib.hid hres
          have hR3 := Lib.hid hr3
          clear hres hr3
          go_wp2_with fail
          refine (deeper_calls r L2 en d (place en (x :: y :: L)) _ h9 hd0 hd1 77 (enters_of Tryd.func77 (by kernel_rfl) rfl) #[] #[.pointer (some ⟨w.heap.size, 0, none⟩)] _
            (fun wx res' hrd hkx _ hf => star_calls r w.heap.size L2 en (d + 1) wx hrd ((hB9.kp hkx (by omega)).cell 0) res' hf) r3 hR3.out).mono ?_
          rintro e w10 hpost
          have hres := hRes.out
          clear hRes hR3 hI
          rcases r3 with ⟨pos', code⟩ | ⟨x', L3⟩
          · obtain ⟨rfl, hk10⟩ := hpost
            simp only [gave]
            go_wp2_with fail
            cases hres
            exact ⟨rfl, rfl, hk9'.trans hk10⟩
          simp only [Res.bind_ok] at hres
          obtain ⟨v, rfl, hv, h10, hk10⟩ := hpost
          obtain ⟨op0, ka, kn, kc, nm, pr, vk, vb, vm, vt, pa, pn, pc, rfl, hx⟩ := hv.nine
          have hQ10 := hQ9.kp hk10 (by omega)
          have hB10 := hB9.kp hk10 (by omega)
          have hk10' := hk9'.trans hk10
          have hs10 := hk10.size
          have c10 := hB10.cell 0
          simp only [List.getElem?_cons_zero] at c10
          clear h9 hk9' hQ9 hB9 c9 hk10 hv
          obtain ⟨r4, hr4⟩ := Res.bind_some hres
          rw [hr4] at hres
          have hRes := Lib.hid hres
          have hR4 := Lib.hid hr4
          clear hres hr4
          have hr10 := h10.lt
          have hb10 := hB10.lt
          go_wp2_with fail
          generalize hW : w10.alloc (.cells #[.int .i64 op0, .slice ka kn kc, .string nm, .string pr, .int .i64 vk, .bool vb, .int .i64 vm, .string vt, .slice pa pn pc] 57) = W
          have hX11 := Blk.new_of (cs := [.int .i64 op0, .slice ka kn kc, .string nm, .string pr, .int .i64 vk, .bool vb, .int .i64 vm, .string vt, .slice pa pn pc]) hW
          have hQ11 := Blk.of_alloc hW hQ10
          have hk11 := Kp.of_alloc hW hk10'
          have h11 := Rd.of_alloc hW h10
          have hx11 := RepE.same (Same.of_alloc hW) hx
          have hz11 := size_of_alloc hW
          clear hW hQ10 hk10' h10 hx hB10 c10
          refine (must1_calls r L3 sShut (w10.heap.size + 1) 1 en d _ h11.alloc_ (by rw [← hz11]; exact (Blk.new W _ [.string sShut]).cell 0) (by omega) r4 hR4.out).mono ?_
          rintro e w12 hpost
          have hres := hRes.out
          clear hRes hR4
          rcases r4 with ⟨pos', code⟩ | ⟨u', L4⟩
          · obtain ⟨rfl, hk12⟩ := hpost
            simp only [gave]
            go_wp2_with fail
            cases hres
            exact ⟨rfl, rfl, hk11.alloc_.trans hk12⟩
          obtain ⟨v, rfl, rfl, h12, hk12⟩ := hpost
          cases hres
          have hX12 := (hX11.alloc_).kp hk12 (by omega)
          have hQ12 := (hQ11.alloc_).kp hk12 (by omega)
          have hx12 := RepE.same (Same.of_kp hk12 fun b hb => by unfold From at hb; omega) (RepE.same ((Same.refl _ _).alloc (Nat.le_refl _) (.cells #[.string sShut] 9)) hx11)
          have hk := hk11.alloc_.trans hk12
          obtain ⟨q0, q1, q2, q3, q4, q5, q6, q7, q8⟩ := hQ12.c9
          obtain ⟨x0, x1, x2, x3, x4, x5, x6, x7, x8⟩ := hX12.c9
          have fQ := hQ12.frozen
          clear hX11 hQ11 hx11 hk11 h11 hk12 hX12 hQ12 hz11
          go_wp2_with fail
          exact bodyPost_ret (v := .agg #[.int .i64 op0, .slice ka kn kc, .string nm, .string pr, .int .i64 vk, .bool vb, .int .i64 vm, .string vt, .slice pa pn pc]) (by simp [results, Tryd.results75, go_sem, *]) rfl (Post.end9 h12 hk hx12 (by omega) (by omega) (by omega))
        · have ks' : (y.text.toList == [42]) = false := by simpa using ks
          have hA : ((22 : Int) ≠ 22 ∨ starB (t :: x :: y :: L).tail = false) := .inr (by simp [starB, sStar] ; intro _ ; simpa using ks')
          clear ks k5
          have hres := hRes.out
          clear hRes
          rw [if_pos hA] at hres
          obtain ⟨r2, hr2⟩ := Res.bind_some hres
          rw [hr2] at hres
          have hRes := Lib.hid hres
          have hR2 := Lib.hid hr2
          clear hres hr2
          go_wp2_with fail
          refine (hI.out .within n rfl (Nat.le_refl _) r (x :: y :: L) en d _ r2 h7 hd0 hd1 hR2.out).mono ?_
          rintro e w8 hpost
          have hres := hRes.out
          clear hRes hR2 hI
          rcases r2 with ⟨pos', code⟩ | ⟨x', L2⟩
          · obtain ⟨rfl, hk8⟩ := hpost
            simp only [gave]
            go_wp2_with fail
            cases hres
            exact ⟨rfl, rfl, hk7'.trans hk8⟩
          · simp only [Res.bind, Res.ret] at hres
            cases hres
            obtain ⟨v, rfl, hv, h8, hk8⟩ := hpost
            obtain ⟨op', kk, kn, kc, nm, pr, vk, vb, vm, vt, pa, pn, pc, rfl, hx⟩ := hv.nine
            have hQ8 := hQ7.kp hk8 (by omega)
            have hk := hk7'.trans hk8
            obtain ⟨q0, q1, q2, q3, q4, q5, q6, q7, q8⟩ := hQ8.c9
            have fQ := hQ8.frozen
            have hql := hQ8.lt
            have hs8 := hk8.size
            clear hk8 hQ8 hv hQ7 hk7' h7 hB7 c7 c0
            go_wp2_with fail
            refine bodyPost_ret (v := .agg #[.int .i64 22, .slice (some ⟨w8.heap.size, 0, none⟩) 1 1, .string ⟨#[]⟩, .string ⟨#[]⟩, .int .i64 0, .bool false, .int .i64 0, .string ⟨#[]⟩, .slice none 0 0]) (by simp [results, Tryd.results75, go_sem, *]) rfl ⟨_, rfl, EVal.mk_ ?_, ?_, ?_⟩
            · refine RepE.mono (S := From (w.heap.size + 2)) (From.down (by omega)) ?_
              with_reducible refine RepE.new_one ?hC3 (RepE.same ?hs3 (RepE.mono (From.down (by omega)) hx)) ?hb3
              case hC3 => simp only [World.size_setCell]
              case hb3 => unfold From; omega
              repeat' (first | with_reducible exact Same.refl _ _ | with_reducible refine Same.low ?_ ?_)
              all_goals omega
            · repeat' (first | with_reducible exact h8 | with_reducible refine Rd.alloc_ ?_ | with_reducible refine Rd.far_ ?_ ?_)
              all_goals omega
            · repeat' (first | with_reducible exact hk | with_reducible refine Kp.alloc_ ?_ | with_reducible refine Kp.new_ ?_ ?_)
              all_goals omega
      · have k5' : (y.kind == 5) = false := by simpa using k5
        have hA : ((22 : Int) ≠ 22 ∨ starB (t :: x :: y :: L).tail = false) := .inr (by simp [starB, k5])
        clear k5
        have hres := hRes.out
        clear hRes
        rw [if_pos hA] at hres
        obtain ⟨r2, hr2⟩ := Res.bind_some hres
        rw [hr2] at hres
        have hRes := Lib.hid hres
        have hR2 := Lib.hid hr2
        clear hres hr2
        go_wp2_with fail
        refine (hI.out .within n rfl (Nat.le_refl _) r (x :: y :: L) en d _ r2 h7 hd0 hd1 hR2.out).mono ?_
        rintro e w8 hpost
        have hres := hRes.out
        clear hRes hR2 hI
        rcases r2 with ⟨pos', code⟩ | ⟨x', L2⟩
        · obtain ⟨rfl, hk8⟩ := hpost
          simp only [gave]
          go_wp2_with fail
          cases hres
          exact ⟨rfl, rfl, hk7'.trans hk8⟩
        · simp only [Res.bind, Res.ret] at hres
          cases hres
          obtain ⟨v, rfl, hv, h8, hk8⟩ := hpost
          obtain ⟨op', kk, kn, kc, nm, pr, vk, vb, vm, vt, pa, pn, pc, rfl, hx⟩ := hv.nine
          have hQ8 := hQ7.kp hk8 (by omega)
          have hk := hk7'.trans hk8
          obtain ⟨q0, q1, q2, q3, q4, q5, q6, q7, q8⟩ := hQ8.c9
          have fQ := hQ8.frozen
          have hql := hQ8.lt
          have hs8 := hk8.size
          clear hk8 hQ8 hv hQ7 hk7' h7 hB7 c7 c0
          go_wp2_with fail
          refine bodyPost_ret (v := .agg #[.int .i64 22, .slice (some ⟨w8.heap.size, 0, none⟩) 1 1, .string ⟨#[]⟩, .string ⟨#[]⟩, .int .i64 0, .bool false, .int .i64 0, .string ⟨#[]⟩, .slice none 0 0]) (by simp [results, Tryd.results75, go_sem, *]) rfl ⟨_, rfl, EVal.mk_ ?_, ?_, ?_⟩
          · refine RepE.mono (S := From (w.heap.size + 2)) (From.down (by omega)) ?_
            with_reducible refine RepE.new_one ?hC4 (RepE.same ?hs4 (RepE.mono (From.down (by omega)) hx)) ?hb4
            case hC4 => simp only [World.size_setCell]
            case hb4 => unfold From; omega
            repeat' (first | with_reducible exact Same.refl _ _ | with_reducible refine Same.low ?_ ?_)
            all_goals omega
          · repeat' (first | with_reducible exact h8 | with_reducible refine Rd.alloc_ ?_ | with_reducible refine Rd.far_ ?_ ?_)
            all_goals omega
          · repeat' (first | with_reducible exact hk | with_reducible refine Kp.alloc_ ?_ | with_reducible refine Kp.new_ ?_ ?_)
            all_goals omega
    · have h22' : (op == 22) = false := by simpa using h22
      cases L with
      | nil =>
        clear ht
        have hres := hRes.out
        clear hRes
        rw [if_pos (.inl h22)] at hres
        obtain ⟨r2, hr2⟩ := Res.bind_some hres
        rw [hr2] at hres
        have hRes := Lib.hid hres
        have hR2 := Lib.hid hr2
        clear hres hr2
        go_wp2_with fail
        refine (hI.out .within n rfl (Nat.le_refl _) r [] en d _ r2 h7 hd0 hd1 hR2.out).mono ?_
        rintro e w8 hpost
        have hres := hRes.out
        clear hRes hR2 hI
        rcases r2 with ⟨pos', code⟩ | ⟨x', L2⟩
        · obtain ⟨rfl, hk8⟩ := hpost
          simp only [gave]
          go_wp2_with fail
          cases hres
          exact ⟨rfl, rfl, hk7'.trans hk8⟩
        · simp only [Res.bind, Res.ret] at hres
          cases hres
          obtain ⟨v, rfl, hv, h8, hk8⟩ := hpost
          obtain ⟨op', kk, kn, kc, nm, pr, vk, vb, vm, vt, pa, pn, pc, rfl, hx⟩ := hv.nine
          have hQ8 := hQ7.kp hk8 (by omega)
          have hk := hk7'.trans hk8
          obtain ⟨q0, q1, q2, q3, q4, q5, q6, q7, q8⟩ := hQ8.c9
          have fQ := hQ8.frozen
          have hql := hQ8.lt
          have hs8 := hk8.size
          clear hk8 hQ8 hv hQ7 hk7' h7 hB7 c7 c0
          go_wp2_with fail
          refine bodyPost_ret (v := .agg #[.int .i64 op, .slice (some ⟨w8.heap.size, 0, none⟩) 1 1, .string ⟨#[]⟩, .string ⟨#[]⟩, .int .i64 0, .bool false, .int .i64 0, .string ⟨#[]⟩, .slice none 0 0]) (by simp [results, Tryd.results75, go_sem, *]) rfl ⟨_, rfl, EVal.mk_ ?_, ?_, ?_⟩
          · refine RepE.mono (S := From (w.heap.size + 2)) (From.down (by omega)) ?_
            with_reducible refine RepE.new_one ?hC5 (RepE.same ?hs5 (RepE.mono (From.down (by omega)) hx)) ?hb5
            case hC5 => simp only [World.size_setCell]
            case hb5 => unfold From; omega
            repeat' (first | with_reducible exact Same.refl _ _ | with_reducible refine Same.low ?_ ?_)
            all_goals omega
          · repeat' (first | with_reducible exact h8 | with_reducible refine Rd.alloc_ ?_ | with_reducible refine Rd.far_ ?_ ?_)
            all_goals omega
          · repeat' (first | with_reducible exact hk | with_reducible refine Kp.alloc_ ?_ | with_reducible refine Kp.new_ ?_ ?_)
            all_goals omega
      | cons x L =>
      cases L with
      | nil =>
        clear ht
        have hres := hRes.out
        clear hRes
        rw [if_pos (.inl h22)] at hres
        obtain ⟨r2, hr2⟩ := Res.bind_some hres
        rw [hr2] at hres
        have hRes := Lib.hid hres
        have hR2 := Lib.hid hr2
        clear hres hr2
        go_wp2_with fail
        refine (hI.out .within n rfl (Nat.le_refl _) r [x] en d _ r2 h7 hd0 hd1 hR2.out).mono ?_
        rintro e w8 hpost
        have hres := hRes.out
        clear hRes hR2 hI
        rcases r2 with ⟨pos', code⟩ | ⟨x', L2⟩
        · obtain ⟨rfl, hk8⟩ := hpost
          simp only [gave]
          go_wp2_with fail
          cases hres
          exact ⟨rfl, rfl, hk7'.trans hk8⟩
        · simp only [Res.bind, Res.ret] at hres
          cases hres
          obtain ⟨v, rfl, hv, h8, hk8⟩ := hpost
          obtain ⟨op', kk, kn, kc, nm, pr, vk, vb, vm, vt, pa, pn, pc, rfl, hx⟩ := hv.nine
          have hQ8 := hQ7.kp hk8 (by omega)
          have hk := hk7'.trans hk8
          obtain ⟨q0, q1, q2, q3, q4, q5, q6, q7, q8⟩ := hQ8.c9
          have fQ := hQ8.frozen
          have hql := hQ8.lt
          have hs8 := hk8.size
          clear hk8 hQ8 hv hQ7 hk7' h7 hB7 c7 c0
          go_wp2_with fail
          refine bodyPost_ret (v := .agg #[.int .i64 op, .slice (some ⟨w8.heap.size, 0, none⟩) 1 1, .string ⟨#[]⟩, .string ⟨#[]⟩, .int .i64 0, .bool false, .int .i64 0, .string ⟨#[]⟩, .slice none 0 0]) (by simp [results, Tryd.results75, go_sem, *]) rfl ⟨_, rfl, EVal.mk_ ?_, ?_, ?_⟩
          · refine RepE.mono (S := From (w.heap.size + 2)) (From.down (by omega)) ?_
            with_reducible refine RepE.new_one ?hC6 (RepE.same ?hs6 (RepE.mono (From.down (by omega)) hx)) ?hb6
            case hC6 => simp only [World.size_setCell]
            case hb6 => unfold From; omega
            repeat' (first | with_reducible exact Same.refl _ _ | with_reducible refine Same.low ?_ ?_)
            all_goals omega
          · repeat' (first | with_reducible exact h8 | with_reducible refine Rd.alloc_ ?_ | with_reducible refine Rd.far_ ?_ ?_)
            all_goals omega
          · repeat' (first | with_reducible exact hk | with_reducible refine Kp.alloc_ ?_ | with_reducible refine Kp.new_ ?_ ?_)
            all_goals omega
      | cons y L =>
      obtain ⟨b, off, rfl, y0, y1⟩ := ht.second
      clear ht
      by_cases k5 : y.kind = 5
      · have k5' : (y.kind == 5) = true := by simpa using k5
        by_cases ks : (y.text.toList == [42]) = true
        · clear k5
          have hres := hRes.out
          clear hRes
          rw [if_pos (.inl h22)] at hres
          obtain ⟨r2, hr2⟩ := Res.bind_some hres
          rw [hr2] at hres
          have hRes := Lib.hid hres
          have hR2 := Lib.hid hr2
          clear hres hr2
          go_wp2_with fail
          refine (hI.out .within n rfl (Nat.le_refl _) r (x :: y :: L) en d _ r2 h7 hd0 hd1 hR2.out).mono ?_
          rintro e w8 hpost
          have hres := hRes.out
          clear hRes hR2 hI
          rcases r2 with ⟨pos', code⟩ | ⟨x', L2⟩
          · obtain ⟨rfl, hk8⟩ := hpost
            simp only [gave]
            go_wp2_with fail
            cases hres
            exact ⟨rfl, rfl, hk7'.trans hk8⟩
          · simp only [Res.bind, Res.ret] at hres
            cases hres
            obtain ⟨v, rfl, hv, h8, hk8⟩ := hpost
            obtain ⟨op', kk, kn, kc, nm, pr, vk, vb, vm, vt, pa, pn, pc, rfl, hx⟩ := hv.nine
            have hQ8 := hQ7.kp hk8 (by omega)
            have hk := hk7'.trans hk8
            obtain ⟨q0, q1, q2, q3, q4, q5, q6, q7, q8⟩ := hQ8.c9
            have fQ := hQ8.frozen
            have hql := hQ8.lt
            have hs8 := hk8.size
            clear hk8 hQ8 hv hQ7 hk7' h7 hB7 c7 c0
            go_wp2_with fail
            refine bodyPost_ret (v := .agg #[.int .i64 op, .slice (some ⟨w8.heap.size, 0, none⟩) 1 1, .string ⟨#[]⟩, .string ⟨#[]⟩, .int .i64 0, .bool false, .int .i64 0, .string ⟨#[]⟩, .slice none 0 0]) (by simp [results, Tryd.results75, go_sem, *]) rfl ⟨_, rfl, EVal.mk_ ?_, ?_, ?_⟩
            · refine RepE.mono (S := From (w.heap.size + 2)) (From.down (by omega)) ?_
              with_reducible refine RepE.new_one ?hC7 (RepE.same ?hs7 (RepE.mono (From.down (by omega)) hx)) ?hb7
              case hC7 => simp only [World.size_setCell]
              case hb7 => unfold From; omega
              repeat' (first | with_reducible exact Same.refl _ _ | with_reducible refine Same.low ?_ ?_)
              all_goals omega
            · repeat' (first | with_reducible exact h8 | with_reducible refine Rd.alloc_ ?_ | with_reducible refine Rd.far_ ?_ ?_)
              all_goals omega
            · repeat' (first | with_reducible exact hk | with_reducible refine Kp.alloc_ ?_ | with_reducible refine Kp.new_ ?_ ?_)
              all_goals omega
        · have ks' : (y.text.toList == [42]) = false := by simpa using ks
          clear ks k5
          have hres := hRes.out
          clear hRes
          rw [if_pos (.inl h22)] at hres
          obtain ⟨r2, hr2⟩ := Res.bind_some hres
          rw [hr2] at hres
          have hRes := Lib.hid hres
          have hR2 := Lib.hid hr2
          clear hres hr2
          go_wp2_with fail
          refine (hI.out .within n rfl (Nat.le_refl _) r (x :: y :: L) en d _ r2 h7 hd0 hd1 hR2.out).mono ?_
          rintro e w8 hpost
          have hres := hRes.out
          clear hRes hR2 hI
          rcases r2 with ⟨pos', code⟩ | ⟨x', L2⟩
          · obtain ⟨rfl, hk8⟩ := hpost
            simp only [gave]
            go_wp2_with fail
            cases hres
            exact ⟨rfl, rfl, hk7'.trans hk8⟩
          · simp only [Res.bind, Res.ret] at hres
            cases hres
            obtain ⟨v, rfl, hv, h8, hk8⟩ := hpost
            obtain ⟨op', kk, kn, kc, nm, pr, vk, vb, vm, vt, pa, pn, pc, rfl, hx⟩ := hv.nine
            have hQ8 := hQ7.kp hk8 (by omega)
            have hk := hk7'.trans hk8
            obtain ⟨q0, q1, q2, q3, q4, q5, q6, q7, q8⟩ := hQ8.c9
            have fQ := hQ8.frozen
            have hql := hQ8.lt
            have hs8 := hk8.size
            clear hk8 hQ8 hv hQ7 hk7' h7 hB7 c7 c0
            go_wp2_with fail
            refine bodyPost_ret (v := .agg #[.int .i64 op, .slice (some ⟨w8.heap.size, 0, none⟩) 1 1, .string ⟨#[]⟩, .string ⟨#[]⟩, .int .i64 0, .bool false, .int .i64 0, .string ⟨#[]⟩, .slice none 0 0]) (by simp [results, Tryd.results75, go_sem, *]) rfl ⟨_, rfl, EVal.mk_ ?_, ?_, ?_⟩
            · refine RepE.mono (S := From (w.heap.size + 2)) (From.down (by omega)) ?_
              with_reducible refine RepE.new_one ?hC8 (RepE.same ?hs8 (RepE.mono (From.down (by omega)) hx)) ?hb8
              case hC8 => simp only [World.size_setCell]
              case hb8 => unfold From; omega
              repeat' (first | with_reducible exact Same.refl _ _ | with_reducible refine Same.low ?_ ?_)
              all_goals omega
            · repeat' (first | with_reducible exact h8 | with_reducible refine Rd.alloc_ ?_ | with_reducible refine Rd.far_ ?_ ?_)
              all_goals omega
            · repeat' (first | with_reducible exact hk | with_reducible refine Kp.alloc_ ?_ | with_reducible refine Kp.new_ ?_ ?_)
              all_goals omega
      · have k5' : (y.kind == 5) = false := by simpa using k5
        clear k5
        have hres := hRes.out
        clear hRes
        rw [if_pos (.inl h22)] at hres
        obtain ⟨r2, hr2⟩ := Res.bind_some hres
        rw [hr2] at hres
        have hRes := Lib.hid hres
        have hR2 := Lib.hid hr2
        clear hres hr2
        go_wp2_with fail
        refine (hI.out .within n rfl (Nat.le_refl _) r (x :: y :: L) en d _ r2 h7 hd0 hd1 hR2.out).mono ?_
        rintro e w8 hpost
        have hres := hRes.out
        clear hRes hR2 hI
        rcases r2 with ⟨pos', code⟩ | ⟨x', L2⟩
        · obtain ⟨rfl, hk8⟩ := hpost
          simp only [gave]
          go_wp2_with fail
          cases hres
          exact ⟨rfl, rfl, hk7'.trans hk8⟩
        · simp only [Res.bind, Res.ret] at hres
          cases hres
          obtain ⟨v, rfl, hv, h8, hk8⟩ := hpost
          obtain ⟨op', kk, kn, kc, nm, pr, vk, vb, vm, vt, pa, pn, pc, rfl, hx⟩ := hv.nine
          have hQ8 := hQ7.kp hk8 (by omega)
          have hk := hk7'.trans hk8
          obtain ⟨q0, q1, q2, q3, q4, q5, q6, q7, q8⟩ := hQ8.c9
          have fQ := hQ8.frozen
          have hql := hQ8.lt
          have hs8 := hk8.size
          clear hk8 hQ8 hv hQ7 hk7' h7 hB7 c7 c0
          go_wp2_with fail
          refine bodyPost_ret (v := .agg #[.int .i64 op, .slice (some ⟨w8.heap.size, 0, none⟩) 1 1, .string ⟨#[]⟩, .string ⟨#[]⟩, .int .i64 0, .bool false, .int .i64 0, .string ⟨#[]⟩, .slice none 0 0]) (by simp [results, Tryd.results75, go_sem, *]) rfl ⟨_, rfl, EVal.mk_ ?_, ?_, ?_⟩
          · refine RepE.mono (S := From (w.heap.size + 2)) (From.down (by omega)) ?_
            with_reducible refine RepE.new_one ?hC9 (RepE.same ?hs9 (RepE.mono (From.down (by omega)) hx)) ?hb9
            case hC9 => simp only [World.size_setCell]
            case hb9 => unfold From; omega
            repeat' (first | with_reducible exact Same.refl _ _ | with_reducible refine Same.low ?_ ?_)
            all_goals omega
          · repeat' (first | with_reducible exact h8 | with_reducible refine Rd.alloc_ ?_ | with_reducible refine Rd.far_ ?_ ?_)
            all_goals omega
          · repeat' (first | with_reducible exact hk | with_reducible refine Kp.alloc_ ?_ | with_reducible refine Kp.new_ ?_ ?_)
            all_goals omega
end Go.Proofs.YtaonmhegnnpgaaaDoor
