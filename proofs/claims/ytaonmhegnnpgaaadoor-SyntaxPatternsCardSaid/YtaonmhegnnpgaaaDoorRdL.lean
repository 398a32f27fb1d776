/- The contract of the grammar's tests, by induction on the fuel. No condition. -/
import Derived.Test.YtaonmhegnnpgaaaDoorRdK
import Derived.Deep.RegionWith
import Derived.Deep.RegionHeld2
import Derived.IntWalk
namespace Go.Proofs.YtaonmhegnnpgaaaDoor
open Go Go.RowKit

theorem RepE.new_two_alloc {C : World} {S : Nat → Prop} {t : TypeId} {op : Int} {x y : Ex} {xs ys cs : List Value} {n : Nat} (hC : C.heap.size = n) (hcs : cs = xs ++ ys) (hx : RepE C S x xs) (hy : RepE C S y ys) (hb : S n) :
    RepE (C.alloc (.cells cs.toArray t)) S (two op x y) [.int .i64 op, .slice (some ⟨n, 0, none⟩) 2 2, .string ⟨#[]⟩, .string ⟨#[]⟩, .int .i64 0, .bool false, .int .i64 0, .string ⟨#[]⟩, .slice none 0 0] := by
  subst hcs hC
  have hs : Same S C (C.alloc (.cells (xs ++ ys).toArray t)) := (Same.refl _ _).alloc (Nat.le_refl _) _
  exact RepE.new_two (RepE.same hs hx) (RepE.same hs hy) hb fun j u hu => ((Blk.new C t (xs ++ ys)).cell j).trans hu
theorem tests_op : ∀ k : Nat, k < 6 → 6 + (k : Int) = opAt tests k
  | 0, _ => rfl
  | 1, _ => rfl
  | 2, _ => rfl
  | 3, _ => rfl
  | 4, _ => rfl
  | 5, _ => rfl
theorem tests_ix0 (w : World) : (Instr.index 137 (.agg #[.string ⟨#[61]⟩, .string ⟨#[60, 62]⟩, .string ⟨#[60]⟩, .string ⟨#[60, 61]⟩, .string ⟨#[62]⟩, .string ⟨#[62, 61]⟩]) (.int .i64 0)).run Tryd.prog w = .ok (.string ⟨#[61]⟩) w := by kernel_rfl
theorem tests_ix1 (w : World) : (Instr.index 137 (.agg #[.string ⟨#[61]⟩, .string ⟨#[60, 62]⟩, .string ⟨#[60]⟩, .string ⟨#[60, 61]⟩, .string ⟨#[62]⟩, .string ⟨#[62, 61]⟩]) (.int .i64 1)).run Tryd.prog w = .ok (.string ⟨#[60, 62]⟩) w := by kernel_rfl
theorem tests_ix2 (w : World) : (Instr.index 137 (.agg #[.string ⟨#[61]⟩, .string ⟨#[60, 62]⟩, .string ⟨#[60]⟩, .string ⟨#[60, 61]⟩, .string ⟨#[62]⟩, .string ⟨#[62, 61]⟩]) (.int .i64 2)).run Tryd.prog w = .ok (.string ⟨#[60]⟩) w := by kernel_rfl
theorem tests_ix3 (w : World) : (Instr.index 137 (.agg #[.string ⟨#[61]⟩, .string ⟨#[60, 62]⟩, .string ⟨#[60]⟩, .string ⟨#[60, 61]⟩, .string ⟨#[62]⟩, .string ⟨#[62, 61]⟩]) (.int .i64 3)).run Tryd.prog w = .ok (.string ⟨#[60, 61]⟩) w := by kernel_rfl
theorem tests_ix4 (w : World) : (Instr.index 137 (.agg #[.string ⟨#[61]⟩, .string ⟨#[60, 62]⟩, .string ⟨#[60]⟩, .string ⟨#[60, 61]⟩, .string ⟨#[62]⟩, .string ⟨#[62, 61]⟩]) (.int .i64 4)).run Tryd.prog w = .ok (.string ⟨#[62]⟩) w := by kernel_rfl
theorem tests_ix5 (w : World) : (Instr.index 137 (.agg #[.string ⟨#[61]⟩, .string ⟨#[60, 62]⟩, .string ⟨#[60]⟩, .string ⟨#[60, 61]⟩, .string ⟨#[62]⟩, .string ⟨#[62, 61]⟩]) (.int .i64 5)).run Tryd.prog w = .ok (.string ⟨#[62, 61]⟩) w := by kernel_rfl
theorem tests_ix (k : Nat) (hk : k < 6) (w : World) : (Instr.index 137 (.agg #[.string ⟨#[61]⟩, .string ⟨#[60, 62]⟩, .string ⟨#[60]⟩, .string ⟨#[60, 61]⟩, .string ⟨#[62]⟩, .string ⟨#[62, 61]⟩]) (.int .i64 (k : Int))).run Tryd.prog w = .ok (.string (tests.getD k (emp, 0)).1) w :=
  match k, hk with
  | 0, _ => tests_ix0 w
  | 1, _ => tests_ix1 w
  | 2, _ => tests_ix2 w
  | 3, _ => tests_ix3 w
  | 4, _ => tests_ix4 w
  | 5, _ => tests_ix5 w

set_option maxRecDepth 100000 in
set_option maxHeartbeats 2000000 in
theorem test_calls (n : Nat) (ih : NtAt n) (r : Nat) (L : List Tok) (en d : Int) (w : World) (res : Except (Int × Int) (Ex × List Tok)) (h : Rd w r L en d) (hd0 : 0 ≤ d) (hd1 : d ≤ 50) (hres : parse en (n + 1) .test d L = some res) :
    Calls Tryd.prog 68 #[.pointer (some ⟨r, 0, none⟩)] w (Post r en d w (EVal w.heap.size) res) := by
  simp only [parse] at hres
  obtain ⟨r1, hr1⟩ := Res.bind_some hres
  rw [hr1] at hres
  have hRes := Lib.hid hres
  have hR1 := Lib.hid hr1
  have hI := Lib.hid ih
  clear hres ih hr1
  have hr := h.lt
  go_enter Tryd.func68, Tryd.ntmps68
  go_wp2_with fail
  have hQ0 := Blk.new w 57 [.int .i64 0, .slice none 0 0, .string ⟨#[]⟩, .string ⟨#[]⟩, .int .i64 0, .bool false, .int .i64 0, .string ⟨#[]⟩, .slice none 0 0]
  have hk0 := (Kp.refl r w).alloc (.cells #[.int .i64 0, .slice none 0 0, .string ⟨#[]⟩, .string ⟨#[]⟩, .int .i64 0, .bool false, .int .i64 0, .string ⟨#[]⟩, .slice none 0 0] 57)
  have hRd := h.alloc (.cells #[.int .i64 0, .slice none 0 0, .string ⟨#[]⟩, .string ⟨#[]⟩, .int .i64 0, .bool false, .int .i64 0, .string ⟨#[]⟩, .slice none 0 0] 57)
  refine (hI.out .sum n rfl (Nat.le_refl _) r L en d _ r1 hRd hd0 hd1 hR1.out).mono ?_
  rintro e w1 hpost
  have hres := hRes.out
  clear hRes hR1
  rcases r1 with ⟨pos', code⟩ | ⟨x, L1⟩
  · obtain ⟨rfl, hk1⟩ := hpost
    simp only [gave]
    go_wp2_with fail
    cases hres
    exact ⟨rfl, rfl, hk0.trans hk1⟩
  simp only [Res.bind_ok] at hres
  obtain ⟨v, rfl, hv, h1, hk1⟩ := hpost
  obtain ⟨op, ka, kn, kc, nm, pr, vk, vb, vm, vt, pa, pn, pc, rfl, hx⟩ := hv.nine
  simp only [World.size_alloc] at hx
  have hQ1 := hQ0.kp hk1 (by omega)
  have hk1' := hk0.trans hk1
  have hs1 := hk1.size
  simp only [World.size_alloc] at hs1
  have hRes := Lib.hid hres
  clear hres hk0 hQ0 hRd hk1 hv h
  go_wp2_with fail
  generalize hW : w1.alloc (.cells #[.int .i64 op, .slice ka kn kc, .string nm, .string pr, .int .i64 vk, .bool vb, .int .i64 vm, .string vt, .slice pa pn pc] 57) = W
  have hX2 := Blk.new_of (cs := [.int .i64 op, .slice ka kn kc, .string nm, .string pr, .int .i64 vk, .bool vb, .int .i64 vm, .string vt, .slice pa pn pc]) hW
  have hQ2 := Blk.of_alloc hW hQ1
  have hk2 := Kp.of_alloc hW hk1'
  have h2 := Rd.of_alloc hW h1
  have hx2 := RepE.same (Same.of_alloc hW) (RepE.mono (S' := fun b => w.heap.size + 1 ≤ b ∧ ¬ b = w1.heap.size) (fun b hb hlt => ⟨hb, by omega⟩) hx)
  have hz2 := size_of_alloc hW
  clear hW hQ1 hk1' h1 hx
  have hxq : w.heap.size < w1.heap.size := by omega
  generalize w1.heap.size = xb at hX2 hx2 hz2 hxq hs1 ⊢
  refine (has_calls r L1 sIS en d _ h2).mono ?_
  rintro e w3 ⟨rfl, h3, hk3⟩
  have hX3 := hX2.kp hk3 (by omega)
  have hQ3 := hQ2.kp hk3 (by omega)
  have hx3 := RepE.same (Same.of_kp hk3 fun b hb => by omega) hx2
  have hk3' := hk2.trans hk3
  clear hX2 hQ2 hx2 hk2 hk3 h2 hz2
  have hres := hRes.out
  clear hRes
  cases hh : hasB L1 sIS with
  | true =>
    rw [hh] at h3
    have h3' : Rd w3 r L1.tail en d := h3
    simp only [hh, if_true] at hres
    obtain ⟨r4, hr4⟩ := Res.bind_some hres
    rw [hr4] at hres
    have hRes := Lib.hid hres
    have hR4 := Lib.hid hr4
    clear hres hr4 h3 hI
    go_wp2_with fail
    refine (has_calls r L1.tail sNOT en d _ h3').mono ?_
    rintro e w4 ⟨rfl, h4, hk4⟩
    have hX4 := hX3.kp hk4 (by omega)
    have hQ4 := hQ3.kp hk4 (by omega)
    have hx4 := RepE.same (Same.of_kp hk4 fun b hb => by omega) hx3
    have hk4' := hk3'.trans hk4
    clear hX3 hQ3 hx3 hk3' hk4 h3'
    have hr4' := h4.lt
    have hres := hRes.out
    clear hRes
    generalize hn : hasB L1.tail sNOT = b at h4 hR4 hres
    clear hn
    generalize after L1.tail b = L2 at h4 hR4
    have hRes := Lib.hid hres
    clear hres
    cases b
    all_goals
      go_wp2_with fail
      refine (must1_calls r L2 sNULL w4.heap.size 1 en d _ h4.alloc_ ((Blk.new w4 _ [.string sNULL]).cell 0) (by omega) r4 hR4.out).mono ?_
      rintro e w5 hpost
      have hres := hRes.out
      clear hRes hR4
      rcases r4 with ⟨pos', code⟩ | ⟨u', L3⟩
      · obtain ⟨rfl, hk5⟩ := hpost
        simp only [gave]
        go_wp2_with fail
        cases hres
        exact ⟨rfl, rfl, hk4'.alloc_.trans hk5⟩
      obtain ⟨v, rfl, rfl, h5, hk5⟩ := hpost
      cases hres
      have hX5 := (hX4.alloc_).kp hk5 (by omega)
      have hQ5 := (hQ4.alloc_).kp hk5 (by omega)
      have hx5 := RepE.same (Same.of_kp hk5 fun b hb => by omega) (RepE.same ((Same.refl _ _).alloc (Nat.le_refl _) (.cells #[.string sNULL] 9)) hx4)
      have hk := hk4'.alloc_.trans hk5
      obtain ⟨q0, q1, q2, q3, q4, q5, q6, q7, q8⟩ := hQ5.c9
      obtain ⟨x0, x1, x2, x3, x4, x5, x6, x7, x8⟩ := hX5.c9
      have fQ := hQ5.frozen
      have hql := hQ5.lt
      have hxl := hX5.lt
      clear hX4 hQ4 hx4 hk4' h4 hk5 hX5 hQ5
      go_wp2_with fail
      refine bodyPost_ret (v := .agg #[.int .i64 _, .slice (some ⟨w5.heap.size, 0, none⟩) 1 1, .string ⟨#[]⟩, .string ⟨#[]⟩, .int .i64 0, .bool false, .int .i64 0, .string ⟨#[]⟩, .slice none 0 0]) (by simp [results, Tryd.results68, go_sem, *]; rfl) rfl ⟨_, rfl, EVal.mk_ ?_, ?_, ?_⟩
      · refine RepE.mono (S := fun b => w.heap.size + 1 ≤ b ∧ ¬ b = xb) (fun b hb _ => by unfold From; omega) ?_
        with_reducible refine RepE.new_one ?_ (RepE.same ?_ hx5) ?_
        · simp only [World.size_setCell]
        · repeat' (first | with_reducible exact Same.refl _ _ | with_reducible refine Same.out ?_ ?_)
          all_goals omega
        · omega
      · repeat' (first | with_reducible exact h5 | with_reducible refine Rd.alloc_ ?_ | with_reducible refine Rd.far_ ?_ ?_)
        all_goals omega
      · repeat' (first | with_reducible exact hk | with_reducible refine Kp.alloc_ ?_ | with_reducible refine Kp.new_ ?_ ?_)
        all_goals omega
  | false =>
    rw [hh] at h3
    have h3' : Rd w3 r L1 en d := h3
    simp only [hh] at hres
    have hRes := Lib.hid hres
    clear hres h3
    go_wp2_with fail
    go_loopw [21] (fun i wr => ∃ k : Nat, k ≤ 6 ∧ i = .int .i64 k ∧ Hid (signAt tests L1 = (signAt (tests.drop k) L1).map (· + k)) ∧ Rd wr r L1 en d ∧ Kp r w wr ∧
      Blk wr xb 57 [.int .i64 op, .slice ka kn kc, .string nm, .string pr, .int .i64 vk, .bool vb, .int .i64 vm, .string vt, .slice pa pn pc] ∧
      Blk wr w.heap.size 57 [.int .i64 0, .slice none 0 0, .string ⟨#[]⟩, .string ⟨#[]⟩, .int .i64 0, .bool false, .int .i64 0, .string ⟨#[]⟩, .slice none 0 0] ∧
      RepE wr (fun b => w.heap.size + 1 ≤ b ∧ ¬ b = xb) x [.int .i64 op, .slice ka kn kc, .string nm, .string pr, .int .i64 vk, .bool vb, .int .i64 vm, .string vt, .slice pa pn pc]) (fun i _ => 6 - (intOf i).toNat)
    case atStart => exact ⟨0, by omega, rfl, by simp [Hid], h3', hk3', hX3, hQ3, hx3⟩
    case round =>
      obtain ⟨k, hk, rfl, hsg, h4, hk4, hX4, hQ4, hx4⟩ := hrel
      clear hX3 hQ3 hx3 hk3' h3'
      have hql := hQ4.lt
      have hxl := hX4.lt
      by_cases hlt : k < 6
      · have hix := tests_ix k hlt
        have hsg' := hsg.out
        rw [List.drop_eq_getElem_cons (show k < tests.length from hlt)] at hsg'
        have hgd : tests.getD k (emp, 0) = tests[k]'hlt := by
          simp [List.getD, show k < tests.length from hlt]
          rfl
        rw [hgd] at hix
        generalize tests[k]'hlt = p at hix hsg' hgd
        obtain ⟨s, o⟩ := p
        simp only at hix
        clear hsg
        have hsg := Lib.hid hsg'
        have hGd := Lib.hid hgd
        clear hsg' hgd
        go_wp2_with fail
        refine (has_calls r L1 s en d _ h4).mono ?_
        rintro e w5 ⟨rfl, h5, hk5⟩
        have hX5 := hX4.kp hk5 (by omega)
        have hQ5 := hQ4.kp hk5 (by omega)
        have hx5 := RepE.same (Same.of_kp hk5 fun b hb => by omega) hx4
        have hk5' := hk4.trans hk5
        clear hX4 hQ4 hx4 hk4 hk5 h4
        have hsg' := hsg.out
        clear hsg
        cases hs : hasB L1 s with
        | false =>
          rw [hs] at h5
          have h5' : Rd w5 r L1 en d := h5
          clear h5
          simp only [signAt, hs] at hsg'
          have hsg := Lib.hid hsg'
          clear hsg'
          go_wp2_with fail
          go_roundw
          case rel =>
            refine ⟨k + 1, by omega, by go_num, ?_, h5', hk5', hX5, hQ5, hx5⟩
            have h1 := hsg.out
            unfold Hid
            rw [h1]
            cases signAt (List.drop (k + 1) tests) L1 with
            | none => rfl
            | some i => simp [Nat.add_assoc, Nat.add_comm 1 k]
          case measure => simp [intOf]; omega
        | true =>
          rw [hs] at h5
          have h5' : Rd w5 r L1.tail en d := h5
          clear h5
          simp only [signAt, hs, if_true, Option.map_some, Nat.zero_add] at hsg'
          have hres := hRes.out
          simp only [hsg'] at hres
          obtain ⟨r6, hr6⟩ := Res.bind_some hres
          rw [hr6] at hres
          have hRes2 := Lib.hid hres
          have hR6 := Lib.hid hr6
          clear hres hr6 hRes hsg'
          go_wp2_with fail
          obtain ⟨q0, q1, q2, q3, q4, q5, q6, q7, q8⟩ := hQ5.c9
          obtain ⟨x0, x1, x2, x3, x4, x5, x6, x7, x8⟩ := hX5.c9
          have fQ := hQ5.frozen
          have hwr : IntKind.i64.wrap (6 + (k : Int)) = 6 + (k : Int) := IntWalk.i64_in _ (by omega)
          have hq5 := hQ5.lt
          have hx5' := hX5.lt
          have hne1 : ¬ w.heap.size = xb := by omega
          have hne2 : ¬ xb = w.heap.size := by omega
          rcases r6 with ⟨pos', code⟩ | ⟨y, L2⟩
          · have hres := hRes2.out
            cases hres
            clear hRes2
            go_region_held2 (fun w' => w'.cell? ⟨xb, 0, none⟩ = some (.int .i64 op) ∧ w'.cell? ⟨xb, 1, none⟩ = some (.slice ka kn kc) ∧ w'.cell? ⟨xb, 2, none⟩ = some (.string nm) ∧ w'.cell? ⟨xb, 3, none⟩ = some (.string pr) ∧
                w'.cell? ⟨xb, 4, none⟩ = some (.int .i64 vk) ∧ w'.cell? ⟨xb, 5, none⟩ = some (.bool vb) ∧ w'.cell? ⟨xb, 6, none⟩ = some (.int .i64 vm) ∧ w'.cell? ⟨xb, 7, none⟩ = some (.string vt) ∧ w'.cell? ⟨xb, 8, none⟩ = some (.slice pa pn pc))
              (first | exact (hF.out.elim) | go_keep)
              ((go_at_call 70; refine Calls.gives_up (.agg #[.int .i64 0, .slice none 0 0, .string ⟨#[]⟩, .string ⟨#[]⟩, .int .i64 0, .bool false, .int .i64 0, .string ⟨#[]⟩, .slice none 0 0]) (hI.out .sum n rfl (Nat.le_refl _) r L1.tail en d _ _ h5'.drew hd0 hd1 hR6.out) (fun w6 hk6 => ⟨rfl, rfl, hk5'.drew.trans hk6⟩) ?_; intro w6 hF; obtain ⟨q0', q1', q2', q3', q4', q5', q6', q7', q8'⟩ := Blk.c9 (w := w6) (g := w.heap.size) (t := 0) (v0 := .int .i64 0) (v1 := .int .i64 0) (v2 := .int .i64 0) (v3 := .int .i64 0) (v4 := .int .i64 0) (v5 := .int .i64 0) (v6 := .int .i64 0) (v7 := .int .i64 0) (v8 := .int .i64 0) hF.out.elim; have fQ' : ∀ i, w6.frozen? ⟨w.heap.size, i, none⟩ = false := hF.out.elim; have hq6 : w.heap.size < w6.heap.size := hF.out.elim))
            all_goals exact hF.out.elim
          · go_region_held3 (fun w' => w'.cell? ⟨xb, 0, none⟩ = some (.int .i64 op) ∧ w'.cell? ⟨xb, 1, none⟩ = some (.slice ka kn kc) ∧ w'.cell? ⟨xb, 2, none⟩ = some (.string nm) ∧ w'.cell? ⟨xb, 3, none⟩ = some (.string pr) ∧
                w'.cell? ⟨xb, 4, none⟩ = some (.int .i64 vk) ∧ w'.cell? ⟨xb, 5, none⟩ = some (.bool vb) ∧ w'.cell? ⟨xb, 6, none⟩ = some (.int .i64 vm) ∧ w'.cell? ⟨xb, 7, none⟩ = some (.string vt) ∧ w'.cell? ⟨xb, 8, none⟩ = some (.slice pa pn pc))
              (first | with_reducible exact hX6.c9 | (refine Blk.c9 (t := 57) ?_; (with_reducible refine Blk.alloc_ ?_); (repeat' (first | (with_reducible assumption) | (with_reducible refine Blk.far_ ?_ ?_))); done) | go_keep)
              ((go_at_call 70; refine (hI.out .sum n rfl (Nat.le_refl _) r L1.tail en d _ _ h5'.drew hd0 hd1 hR6.out).mono ?_; rintro e w6 ⟨v, rfl, hv, h6, hk6⟩; obtain ⟨op2, ka2, kn2, kc2, nm2, pr2, vk2, vb2, vm2, vt2, pa2, pn2, pc2, rfl, hy⟩ := EVal.nine hv; have hX6 := Blk.kp (Blk.drew hX5) hk6 (by omega); obtain ⟨q0', q1', q2', q3', q4', q5', q6', q7', q8'⟩ := (Blk.kp (Blk.drew hQ5) hk6 (by omega)).c9; have fQ' := (Blk.kp (Blk.drew hQ5) hk6 (by omega)).frozen; have hq6 := (Blk.kp (Blk.drew hQ5) hk6 (by omega)).lt))
            have hres := hRes2.out
            simp only [Res.bind_ok] at hres
            cases hres
            have hs6 := hk6.size
            simp only [World.size_drew] at hs6
            have hx6 := RepE.same (Same.of_kp hk6 fun b hb => by omega) (RepE.same (Same.refl _ _).drew hx5)
            have hy6 := RepE.mono (S' := fun b => w.heap.size + 1 ≤ b ∧ ¬ b = xb) (fun b hb hlt => by unfold From at hb; simp at hb; omega) hy
            have hk6' := hk5'.drew.trans hk6
            go_wp2_with fail
            rw [tests_op k hlt]
            refine bodyPost_ret (v := .agg #[.int .i64 (opAt tests k), .slice (some ⟨w6.heap.size, 0, none⟩) 2 2, .string ⟨#[]⟩, .string ⟨#[]⟩, .int .i64 0, .bool false, .int .i64 0, .string ⟨#[]⟩, .slice none 0 0]) (by simp [results, Tryd.results68, go_sem, *]) rfl ⟨_, rfl, EVal.mk_ ?_, ?_, ?_⟩
            · refine RepE.mono (S := fun b => w.heap.size + 1 ≤ b ∧ ¬ b = xb) (fun b hb _ => by unfold From; omega) ?_
              with_reducible refine RepE.new_two_alloc ?_ ?_ (RepE.same ?_ hx6) (RepE.same ?_ hy6) ?_
              · simp only [World.size_setCell]
              · simp only [List.cons_append, List.nil_append]
              · repeat' (first | with_reducible exact Same.refl _ _ | with_reducible refine Same.out ?_ ?_)
                all_goals omega
              · repeat' (first | with_reducible exact Same.refl _ _ | with_reducible refine Same.out ?_ ?_)
                all_goals omega
              · omega
            · repeat' (first | with_reducible exact h6 | with_reducible refine Rd.alloc_ ?_ | with_reducible refine Rd.far_ ?_ ?_)
              all_goals omega
            · repeat' (first | with_reducible exact hk6' | with_reducible refine Kp.alloc_ ?_ | with_reducible refine Kp.new_ ?_ ?_)
              all_goals omega
      · have hk' : k = 6 := by omega
        have hsg' := hsg.out
        rw [hk'] at hsg'
        have hres := hRes.out
        rw [show signAt tests L1 = none from hsg'] at hres
        cases hres
        clear hsg hsg' hk' hRes
        obtain ⟨q0, q1, q2, q3, q4, q5, q6, q7, q8⟩ := hQ4.c9
        obtain ⟨x0, x1, x2, x3, x4, x5, x6, x7, x8⟩ := hX4.c9
        have fQ := hQ4.frozen
        go_wp2_with fail
        refine bodyPost_ret (v := .agg #[.int .i64 op, .slice ka kn kc, .string nm, .string pr, .int .i64 vk, .bool vb, .int .i64 vm, .string vt, .slice pa pn pc]) (by simp [results, Tryd.results68, go_sem, *]) rfl (Post.end9 h4 hk4 (RepE.mono (fun b hb _ => hb.1) hx4) hr (Nat.le_refl _) (Nat.lt_succ_self _))
end Go.Proofs.YtaonmhegnnpgaaaDoor
