/- SyntaxLevels returns true. Condition: the tables are laid. -/
import Derived.Test.YtaonmhegnnpgaaaDoorLevP
import Derived.Test.YtaonmhegnnpgaaaDoorHead
import Derived.Deep.RegionHeld3
import Derived.Deep.QuietTactic
import Derived.BigQuiet
import Derived.Deep.DeepCutAuto
namespace Go.Proofs.YtaonmhegnnpgaaaDoor
open Go Go.RowKit

theorem lvSigns_size (i : Nat) : (lvSigns.getD i emp).size ≤ 5 := by
  have : ∀ i, i < 9 → (lvSigns.getD i emp).size ≤ 5 := by decide
  rcases Nat.lt_or_ge i 9 with h | h
  · exact this i h
  · rw [List.getD_eq_getElem?_getD, List.getElem?_eq_none (by exact h)]
    decide

/-- What is known of the cells that ParseExpr hands back, and of its error. -/
def LvRes (res : Except (Int × Int) Ex) (S : Nat → Prop) (cc : Int) (cs : List Value) (W : World) : Prop :=
  match res with
  | .error q => cc = q.2
  | .ok x => cc = 0 ∧ RepE W S x cs
theorem ReadE.form {r : Except (Int × Int) Ex} {w w' : World} {e : Ending} (h : match r with
  | .error (p, c) => e = .returned (.tuple #[.agg zeroE.toArray, .int .i64 p, .int .i64 c])
  | .ok q => ∃ cs : List Value, e = .returned (.tuple #[.agg cs.toArray, .int .i64 0, .int .i64 0]) ∧ RepE w' (From w.heap.size) q cs) :
    ∃ op ka kn kc nm pr vk vb vm vt pa pn pc p c, e = .returned (.tuple #[.agg #[.int .i64 op, .slice ka kn kc, .string nm, .string pr, .int .i64 vk, .bool vb, .int .i64 vm, .string vt, .slice pa pn pc], .int .i64 p, .int .i64 c]) ∧
      LvRes r (From w.heap.size) c [.int .i64 op, .slice ka kn kc, .string nm, .string pr, .int .i64 vk, .bool vb, .int .i64 vm, .string vt, .slice pa pn pc] w' := by
  cases r with
  | error q =>
    obtain ⟨p, c⟩ := q
    exact ⟨0, none, 0, 0, ⟨#[]⟩, ⟨#[]⟩, 0, false, 0, ⟨#[]⟩, none, 0, 0, p, c, h, rfl⟩
  | ok x =>
    obtain ⟨cs, rfl, hX⟩ := h
    obtain ⟨op, ka, kn, kc, nm, pr, vk, vb, vm, vt, pa, pn, pc, rfl⟩ := hX.nine
    exact ⟨op, ka, kn, kc, nm, pr, vk, vb, vm, vt, pa, pn, pc, 0, 0, rfl, rfl, hX⟩

/-- What stands behind a call of ParseExpr whose results were laid into variables. -/
def LvAt (w4 : World) (res : Except (Int × Int) Ex) (x c : Value) (W : World) : Prop :=
  ∃ xb cs cc, x = .pointer (some ⟨xb, 0, none⟩) ∧ c = .int .i64 cc ∧ Blk W xb 57 cs ∧ w4.heap.size ≤ xb ∧ Below w4.heap.size w4 W ∧ LvRes res (fun b => w4.heap.size ≤ b ∧ ¬ b = xb) cc cs W

theorem LvAt.after {w4 w5 : World} {res : Except (Int × Int) Ex} {cs : List Value} {cc : Int} (hb : Below w4.heap.size w4 w5) (h : LvRes res (From w4.heap.size) cc cs w5) : LvAt w4 res (.pointer (some ⟨w5.heap.size, 0, none⟩)) (.int .i64 cc) (w5.alloc (.cells cs.toArray 57)) := by
  refine ⟨_, cs, cc, rfl, rfl, Blk.new _ _ _, hb.size, hb.alloc hb.size _, ?_⟩
  cases res with
  | error q => exact h
  | ok x => exact ⟨h.1, RepE.same ((Same.refl _ w5).alloc (Nat.le_refl _) _) (RepE.mono (fun b hb hlt => ⟨hb, by omega⟩) h.2)⟩
theorem LvAt.before {w4 w5 : World} {res : Except (Int × Int) Ex} {o : Obj} {z : List Value} {v0 v1 v2 v3 v4 v5 v6 v7 v8 : Value} {cc : Int} (hx : Blk w5 w4.heap.size 57 z) (hz : z.length = 9) (hb1 : Below (w4.alloc o).drew.heap.size (w4.alloc o).drew w5) (h : LvRes res (From (w4.alloc o).drew.heap.size) cc [v0, v1, v2, v3, v4, v5, v6, v7, v8] w5) : LvAt w4 res (.pointer (some ⟨w4.heap.size, 0, none⟩)) (.int .i64 cc) (((((((((w5.setCell ⟨w4.heap.size, 0, none⟩ v0).setCell ⟨w4.heap.size, 1, none⟩ v1).setCell ⟨w4.heap.size, 2, none⟩ v2).setCell ⟨w4.heap.size, 3, none⟩ v3).setCell ⟨w4.heap.size, 4, none⟩ v4).setCell ⟨w4.heap.size, 5, none⟩ v5).setCell ⟨w4.heap.size, 6, none⟩ v6).setCell ⟨w4.heap.size, 7, none⟩ v7).setCell ⟨w4.heap.size, 8, none⟩ v8) := by
  have hb : Below w4.heap.size w4 w5 := (((Below.refl _ w4).alloc (Nat.le_refl _) o).drew).trans (hb1.mono (by simp))
  have hs : (w4.alloc o).drew.heap.size = w4.heap.size + 1 := by simp
  obtain ⟨z0, z1, z2, z3, z4, z5, z6, z7, z8, rfl⟩ : ∃ z0 z1 z2 z3 z4 z5 z6 z7 z8, z = [z0, z1, z2, z3, z4, z5, z6, z7, z8] := by
    match z, hz with
    | [z0, z1, z2, z3, z4, z5, z6, z7, z8], _ => exact ⟨_, _, _, _, _, _, _, _, _, rfl⟩
  refine ⟨_, _, cc, rfl, rfl, hx.put9, Nat.le_refl _, (((((((((hb.setCell (p := ⟨w4.heap.size, 0, none⟩) (Nat.le_refl _) _).setCell (p := ⟨w4.heap.size, 1, none⟩) (Nat.le_refl _) _).setCell (p := ⟨w4.heap.size, 2, none⟩) (Nat.le_refl _) _).setCell (p := ⟨w4.heap.size, 3, none⟩) (Nat.le_refl _) _).setCell (p := ⟨w4.heap.size, 4, none⟩) (Nat.le_refl _) _).setCell (p := ⟨w4.heap.size, 5, none⟩) (Nat.le_refl _) _).setCell (p := ⟨w4.heap.size, 6, none⟩) (Nat.le_refl _) _).setCell (p := ⟨w4.heap.size, 7, none⟩) (Nat.le_refl _) _).setCell (p := ⟨w4.heap.size, 8, none⟩) (Nat.le_refl _) _), ?_⟩
  cases res with
  | error q => exact h
  | ok x =>
    rw [hs] at h
    exact ⟨h.1, RepE.mono (fun b hb _ => ⟨Nat.le_of_succ_le hb, fun e => by have : w4.heap.size + 1 ≤ b := hb; omega⟩) (RepE.same ((((((((((Same.refl (From (w4.heap.size + 1)) w5).low (b := w4.heap.size) (i := 0) (by omega)).low (b := w4.heap.size) (i := 1) (by omega)).low (b := w4.heap.size) (i := 2) (by omega)).low (b := w4.heap.size) (i := 3) (by omega)).low (b := w4.heap.size) (i := 4) (by omega)).low (b := w4.heap.size) (i := 5) (by omega)).low (b := w4.heap.size) (i := 6) (by omega)).low (b := w4.heap.size) (i := 7) (by omega)).low (b := w4.heap.size) (i := 8) (by omega)) h.2)⟩

theorem lv_cell (l : List Int) (i : Nat) (h : i < l.length) : (l.map (Value.int .i64))[i]? = some (.int .i64 (l.getD i 0)) := by
  rw [List.getElem?_map, List.getD_eq_getElem?_getD, List.getElem?_eq_getElem h]
  rfl
theorem lv_text (a b : ByteArray) : ((⟨#[112]⟩ : ByteArray) ++ a ++ ⟨#[113]⟩ ++ b ++ ⟨#[114]⟩).data.toList = lvText a b := by
  simp [lvText]

set_option maxRecDepth 100000 in
set_option maxHeartbeats 2000000 in
theorem levels_calls (a b : Nat) (ha : a < 256) (hb : b < 256) (w : World) (hT : Tabs w) :
    Calls Tryd.prog 5 #[.int .u8 (a : Int), .int .u8 (b : Int)] w fun e w' => e = .returned (.bool true) ∧ Below w.heap.size w w' := by
  go_enter Tryd.func5, Tryd.ntmps5
  go_wp2_with fail
  refine (head_calls _ hT).mono ?_
  rintro e w1 ⟨rfl, hb1⟩
  obtain ⟨i, hi, hia⟩ : ∃ i : Nat, i < 9 ∧ ((a : Int) % 9) = (i : Int) := ⟨a % 9, by omega, by omega⟩
  obtain ⟨k, hk, hkb⟩ : ∃ k : Nat, k < 9 ∧ ((b : Int) % 9) = (k : Int) := ⟨b % 9, by omega, by omega⟩
  have HI := Lib.hid hia
  have HB := Lib.hid hkb
  clear hia hkb
  go_wp2_with fail
  rw [HI.out, HB.out]
  clear HI HB ha hb
  have hS0 := ((Blk.new w1 9 (lvSigns.map Value.string)).alloc (.cells (lvOps.map (Value.int .i64)).toArray 51)).alloc (.cells (lvLevels.map (Value.int .i64)).toArray 3)
  have hO0 := (Blk.new (w1.alloc (.cells (lvSigns.map Value.string).toArray 9)) 51 (lvOps.map (Value.int .i64))).alloc (.cells (lvLevels.map (Value.int .i64)).toArray 3)
  have hL0 := Blk.new ((w1.alloc (.cells (lvSigns.map Value.string).toArray 9)).alloc (.cells (lvOps.map (Value.int .i64)).toArray 51)) 3 (lvLevels.map (Value.int .i64))
  have hb4 := ((hb1.alloc hb1.size (.cells (lvSigns.map Value.string).toArray 9)).alloc (by simp; have := hb1.size; omega) (.cells (lvOps.map (Value.int .i64)).toArray 51)).alloc (by simp; have := hb1.size; omega) (.cells (lvLevels.map (Value.int .i64)).toArray 3)
  simp only [World.size_alloc] at hS0 hO0 hL0
  generalize hW : ((w1.alloc (.cells (lvSigns.map Value.string).toArray 9)).alloc (.cells (lvOps.map (Value.int .i64)).toArray 51)).alloc (.cells (lvLevels.map (Value.int .i64)).toArray 3) = w4 at hS0 hO0 hL0 hb4
  have hW' : ((w1.alloc (.cells #[.string ⟨#[32, 79, 82, 32]⟩, .string ⟨#[32, 65, 78, 68, 32]⟩, .string ⟨#[32, 61, 32]⟩, .string ⟨#[32, 60, 32]⟩, .string ⟨#[32, 43, 32]⟩, .string ⟨#[32, 45, 32]⟩, .string ⟨#[32, 42, 32]⟩, .string ⟨#[32, 47, 32]⟩, .string ⟨#[32, 37, 32]⟩] 9)).alloc (.cells #[.int .i64 4, .int .i64 5, .int .i64 6, .int .i64 8, .int .i64 12, .int .i64 13, .int .i64 14, .int .i64 15, .int .i64 16] 51)).alloc (.cells #[.int .i64 1, .int .i64 2, .int .i64 4, .int .i64 4, .int .i64 5, .int .i64 5, .int .i64 6, .int .i64 6, .int .i64 6] 3) = w4 := hW
  rw [hW']
  clear hW hW'
  have hT4 := hT.below hb4
  generalize w1.heap.size = sb at *
  have ci := hS0.cell i
  have ck := hS0.cell k
  have hsi : (lvSigns.map Value.string)[i]? = some (.string (lvSigns.getD i emp)) := by
    rw [List.getElem?_map, List.getD_eq_getElem?_getD, List.getElem?_eq_getElem (show i < lvSigns.length from hi)]
    rfl
  have hsk : (lvSigns.map Value.string)[k]? = some (.string (lvSigns.getD k emp)) := by
    rw [List.getElem?_map, List.getD_eq_getElem?_getD, List.getElem?_eq_getElem (show k < lvSigns.length from hk)]
    rfl
  rw [hsi] at ci
  rw [hsk] at ck
  have hr := lv_all i k hi hk
  unfold lvRead at hr
  have z1 := lvSigns_size i
  have z2 := lvSigns_size k
  have hres : lvRes i k = lvRes i k := rfl
  conv at hres => rhs; rw [lvRes]
  have li := hL0.cell i
  have lk := hL0.cell k
  have oi := hO0.cell i
  have ok := hO0.cell k
  rw [lv_cell lvLevels i hi] at li
  rw [lv_cell lvLevels k hk] at lk
  rw [lv_cell lvOps i hi] at oi
  rw [lv_cell lvOps k hk] at ok
  generalize lvRes i k = res at *
  generalize lvSigns.getD i emp = si at *
  generalize lvSigns.getD k emp = sk at *
  generalize lvLevels.getD i 0 = vi at *
  generalize lvLevels.getD k 0 = vk at *
  generalize lvOps.getD i 0 = pi at *
  generalize lvOps.getD k 0 = pk at *
  have hp := fun W (hTW : Tabs W) => expr_parses 100 (by decide) (⟨#[112]⟩ ++ si ++ ⟨#[113]⟩ ++ sk ++ ⟨#[114]⟩) W (by rw [ByteArray.size_append, ByteArray.size_append, ByteArray.size_append, ByteArray.size_append, show (⟨#[112]⟩ : ByteArray).size = 1 from rfl, show (⟨#[113]⟩ : ByteArray).size = 1 from rfl, show (⟨#[114]⟩ : ByteArray).size = 1 from rfl]; omega) hTW res (by rw [← hr, lv_text])
  have HP := Lib.hid hp
  have r1 := fun W => run_string_add_sum (P := Tryd.prog) W ⟨#[112]⟩ si (by rw [show (⟨#[112]⟩ : ByteArray).size = 1 from rfl]; omega)
  have r2 := fun W => run_string_add_sum (P := Tryd.prog) W (⟨#[112]⟩ ++ si) ⟨#[113]⟩ (by rw [ByteArray.size_append, show (⟨#[112]⟩ : ByteArray).size = 1 from rfl, show (⟨#[113]⟩ : ByteArray).size = 1 from rfl]; omega)
  have r3 := fun W => run_string_add_sum (P := Tryd.prog) W (⟨#[112]⟩ ++ si ++ ⟨#[113]⟩) sk (by rw [ByteArray.size_append, ByteArray.size_append, show (⟨#[112]⟩ : ByteArray).size = 1 from rfl, show (⟨#[113]⟩ : ByteArray).size = 1 from rfl]; omega)
  have r4 := fun W => run_string_add_sum (P := Tryd.prog) W (⟨#[112]⟩ ++ si ++ ⟨#[113]⟩ ++ sk) ⟨#[114]⟩ (by rw [ByteArray.size_append, ByteArray.size_append, ByteArray.size_append, show (⟨#[112]⟩ : ByteArray).size = 1 from rfl, show (⟨#[113]⟩ : ByteArray).size = 1 from rfl, show (⟨#[114]⟩ : ByteArray).size = 1 from rfl]; omega)
  clear hr hsi hsk hp
  have i0 : (0 : Int) ≤ (i : Int) := by omega
  have i1 : (i : Int) < 9 := by omega
  have k0 : (0 : Int) ≤ (k : Int) := by omega
  have k1 : (k : Int) < 9 := by omega
  have hlt := hL0.lt
  have ne0 : ¬ w4.heap.size = sb := by omega
  have ne1 : ¬ w4.heap.size = sb + 1 := by omega
  have ne2 : ¬ w4.heap.size = sb + 1 + 1 := by omega
  have ne3 : ¬ sb = w4.heap.size := by omega
  have ne4 : ¬ sb + 1 = w4.heap.size := by omega
  have ne5 : ¬ sb + 1 + 1 = w4.heap.size := by omega
  go_cut [11, 12, 13] (fun x p c W => LvAt w4 res x c W)
  case first =>
    go_region_held3 (fun w' => w'.cell? ⟨sb, i, none⟩ = some (.string si) ∧ w'.cell? ⟨sb, k, none⟩ = some (.string sk))
      (first | (with_reducible exact ⟨ci5, ck5⟩) | go_keep)
      ((first | (go_at_call 10; refine (HP.out _ (hT4.below ((Below.refl _ w4).drew))).mono ?_; rintro e w5 ⟨hb5, he5⟩; obtain ⟨op, ka, kn, kc, nm, pr, vk', vb, vm, vt, pa, pn, pc, pp, cc, rfl, hend⟩ := ReadE.form he5; have ci5 := cell_below (w := w4.drew) hb5 ci; have ck5 := cell_below (w := w4.drew) hb5 ck; have hfin := LvAt.after (w4 := w4) (res := res) (cc := cc) (cs := [.int .i64 op, .slice ka kn kc, .string nm, .string pr, .int .i64 vk', .bool vb, .int .i64 vm, .string vt, .slice pa pn pc]) ((Below.refl _ w4).drew.trans hb5) hend; clear hend) | (go_at_call 10; refine (HP.out _ (hT4.below (((Below.refl _ w4).alloc (Nat.le_refl _) (.cells #[.int .i64 0, .slice none 0 0, .string ⟨#[]⟩, .string ⟨#[]⟩, .int .i64 0, .bool false, .int .i64 0, .string ⟨#[]⟩, .slice none 0 0] 57)).drew))).mono ?_; rintro e w5 ⟨hb5, he5⟩; obtain ⟨op, ka, kn, kc, nm, pr, vk', vb, vm, vt, pa, pn, pc, pp, cc, rfl, hend⟩ := ReadE.form he5; have hx5 := (Blk.new w4 57 [.int .i64 0, .slice none 0 0, .string ⟨#[]⟩, .string ⟨#[]⟩, .int .i64 0, .bool false, .int .i64 0, .string ⟨#[]⟩, .slice none 0 0]).drew.below hb5 (by simp); have hx9 := hx5.c9; have fx9 := hx5.frozen; have ci5 := cell_below (w := (w4.alloc (.cells #[.int .i64 0, .slice none 0 0, .string ⟨#[]⟩, .string ⟨#[]⟩, .int .i64 0, .bool false, .int .i64 0, .string ⟨#[]⟩, .slice none 0 0] 57)).drew) hb5 (show (w4.alloc (.cells #[.int .i64 0, .slice none 0 0, .string ⟨#[]⟩, .string ⟨#[]⟩, .int .i64 0, .bool false, .int .i64 0, .string ⟨#[]⟩, .slice none 0 0] 57)).cell? _ = _ from cell_of_alloc rfl ci); have ck5 := cell_below (w := (w4.alloc (.cells #[.int .i64 0, .slice none 0 0, .string ⟨#[]⟩, .string ⟨#[]⟩, .int .i64 0, .bool false, .int .i64 0, .string ⟨#[]⟩, .slice none 0 0] 57)).drew) hb5 (show (w4.alloc (.cells #[.int .i64 0, .slice none 0 0, .string ⟨#[]⟩, .string ⟨#[]⟩, .int .i64 0, .bool false, .int .i64 0, .string ⟨#[]⟩, .slice none 0 0] 57)).cell? _ = _ from cell_of_alloc rfl ck); have hlx := hx5.lt; have hfin := LvAt.before hx5 rfl hb5 hend; clear hend)))
    all_goals (go_wp2_with fail; go_meet)
    all_goals exact hfin
  case rest =>
    obtain ⟨xb, cs, cc, rfl, rfl, hx, hxb, hbw, hres5⟩ := hcut
    have li5 := cell_below hbw li
    have lk5 := cell_below hbw lk
    have oi5 := cell_below hbw oi
    have ok5 := cell_below hbw ok
    have hfin := hb4.trans (hbw.mono hb4.size)
    clear li lk oi ok ci ck hS0 hO0 hL0 HP hT4 hT hb1
    by_cases hA : vi = 4 ∧ vk = 4
    · obtain ⟨rfl, rfl⟩ := hA
      simp only [and_self, if_true] at hres
      subst hres
      have hcc : cc = 81 := hres5
      subst hcc
      go_wp2_with fail
      go_ret
      exact ⟨rfl, hfin⟩
    · rw [if_neg hA] at hres
      have hxl := hx.lt
      by_cases hB : vi < vk
      · rw [if_pos hB] at hres
        subst hres
        obtain ⟨rfl, a, c, ks, vc, rfl, ⟨av, cv, rfl, _⟩, hks, c1, c2', rfl, ⟨a1, b1, k1', v1, rfl, ⟨av1, cv1, rfl, _⟩, _, _⟩, c2, c3, rfl, ⟨a2, b2, k2', v2, rfl, ⟨av2, cv2, rfl, _⟩, _, _⟩, rfl⟩ := hres5
        have x0 := hx.cell 0
        have x1 := hx.cell 1
        obtain ⟨kb, ko, rfl, _, hc⟩ := CellsAt.first hks
        have k0' := hc 0 _ rfl
        have k2' := hc 2 _ rfl
        have k9' := hc 9 _ rfl
        have k11' := hc 11 _ rfl
        simp only [List.getElem?_cons_zero, List.getElem?_cons_succ, Nat.add_zero, List.length_cons, List.length_nil, Nat.zero_add] at x0 x1 k0'
        clear hc hks hx
        go_wp2_with fail
        all_goals
          go_quiet (fail)
          go_wp2_with fail
          go_quiet (fail)
          go_wp2_with fail
          go_ret
          exact ⟨rfl, hfin.os, hfin.tape, hfin.output, hfin.size, hfin.block⟩
      · rw [if_neg hB] at hres
        subst hres
        obtain ⟨rfl, a, c, ks, vc, rfl, ⟨av, cv, rfl, _⟩, hks, c1, c2', rfl, ⟨a1, b1, k1', v1, rfl, ⟨av1, cv1, rfl, _⟩, _, _⟩, c2, c3, rfl, ⟨a2, b2, k2', v2, rfl, ⟨av2, cv2, rfl, _⟩, _, _⟩, rfl⟩ := hres5
        have x0 := hx.cell 0
        have x1 := hx.cell 1
        obtain ⟨kb, ko, rfl, _, hc⟩ := CellsAt.first hks
        have k0' := hc 0 _ rfl
        have k2' := hc 2 _ rfl
        have k9' := hc 9 _ rfl
        have k11' := hc 11 _ rfl
        simp only [List.getElem?_cons_zero, List.getElem?_cons_succ, Nat.add_zero, List.length_cons, List.length_nil, Nat.zero_add] at x0 x1 k0'
        clear hc hks hx
        go_wp2_with fail
        all_goals
          go_quiet (fail)
          go_wp2_with fail
          go_quiet (fail)
          go_wp2_with fail
          go_ret
          exact ⟨rfl, hfin.os, hfin.tape, hfin.output, hfin.size, hfin.block⟩
end Go.Proofs.YtaonmhegnnpgaaaDoor
