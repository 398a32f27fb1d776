/- SyntaxPatterns returns true. Condition: the tables are laid. -/
import Derived.Test.YtaonmhegnnpgaaaDoorPatP
import Derived.Test.YtaonmhegnnpgaaaDoorHead
import Derived.LoopTactic
import Derived.IntWalk
import Derived.Deep.RegionHeld3
import Derived.Deep.QuietTactic
import Derived.BigQuiet
import Derived.Deep.DeepCutAuto
namespace Go.Proofs.YtaonmhegnnpgaaaDoor
open Go Go.RowKit

theorem below_drawn {n q : Nat} {w w' : World} (h : Below n w w') : Below n w (w'.drewN q) := ⟨h.os, h.tape, h.output, h.size, h.block⟩
/-- A sum of two strings, by a name of its own. -/
theorem add_named {P : Program} (a b : ByteArray) (n m : Nat) (ha : a.size ≤ n) (hb : b.size ≤ m) (h : n + m ≤ 1000000) :
    ∃ c : ByteArray, Hid (c.data.toList = a.data.toList ++ b.data.toList) ∧ c.size ≤ n + m ∧ ∀ W : World, (Op.stringOp .add a b).run P W = .ok (.string c) W :=
  ⟨a ++ b, Lib.hid (by simp), by rw [ByteArray.size_append]; omega, fun W => run_string_add_sum W a b (by omega)⟩
theorem digit_named {P : Program} (t : TypeId) (ht : P.underlying t = some .string) (n : Nat) (h : n ≤ 8) :
    ∃ c : ByteArray, Hid (c.data.toList = [UInt8.ofNat (48 + n)]) ∧ c.size ≤ 1 ∧ ∀ W : World, (Instr.slice t (.string ⟨#[48, 49, 50, 51, 52, 53, 54, 55, 56]⟩) (some (.int .i64 (n : Int))) (some (.int .i64 ((n : Int) + 1))) none).run P W = .ok (.string c) W := by
  have hd : ∀ n : Nat, n < 9 → (⟨#[48, 49, 50, 51, 52, 53, 54, 55, 56]⟩ : ByteArray).extract n (n + 1) = ⟨#[UInt8.ofNat (48 + n)]⟩ := by decide
  refine ⟨⟨#[UInt8.ofNat (48 + n)]⟩, Lib.hid rfl, Nat.le_refl _, fun W => ?_⟩
  rw [run_slice_string W t ⟨#[48, 49, 50, 51, 52, 53, 54, 55, 56]⟩ .i64 .i64 (n : Int) ((n : Int) + 1) ht (by omega) (by omega) (by rw [show (⟨#[48, 49, 50, 51, 52, 53, 54, 55, 56]⟩ : ByteArray).size = 9 from rfl]; omega),
    show ((n : Int)).toNat = n by omega, show ((n : Int) + 1).toNat = n + 1 by omega, hd n (by omega)]

def patVals (v label edge : ByteArray) : List ByteArray := [v, label, edge]

set_option maxRecDepth 100000 in
set_option maxHeartbeats 2000000 in
theorem patterns_calls (v label edge : ByteArray) (back : Bool) (least more : Nat) (hl : least < 256) (hm : more < 256) (hv : v.size ≤ 9223372036854775807) (hlb : label.size ≤ 9223372036854775807) (hed : edge.size ≤ 9223372036854775807) (w : World) (hT : Tabs w) :
    Calls Tryd.prog 3 #[.string v, .string label, .string edge, .bool back, .int .u8 (least : Int), .int .u8 (more : Int)] w fun e w' => e = .returned (.bool true) ∧ Below w.heap.size w w' := by
  go_enter Tryd.func3, Tryd.ntmps3
  go_wp2_with fail
  refine (head_calls _ hT).mono ?_
  rintro e w1 ⟨rfl, hb1⟩
  go_wp2_with fail
  have hS0 := Blk.new w1 9 ((patVals v label edge).map Value.string)
  have hb2 := hb1.alloc hb1.size (.cells ((patVals v label edge).map Value.string).toArray 9)
  have hlen : ∀ j, ((patVals v label edge).getD j emp).size ≤ 9223372036854775807 := by
    intro j
    match j with
    | 0 => exact hv
    | 1 => exact hlb
    | 2 => exact hed
    | j + 3 => exact Nat.zero_le _
  generalize hW : w1.alloc (.cells ((patVals v label edge).map Value.string).toArray 9) = w2 at hS0 hb2
  have hW' : w1.alloc (.cells #[.string v, .string label, .string edge] 9) = w2 := hW
  rw [hW']
  have hT2 := hT.below hb2
  have hls := hS0.lt
  generalize w1.heap.size = sb at *
  clear hW hW'
  go_loopw [15] (fun i wr => ∃ k : Nat, k ≤ 3 ∧ i = .int .i64 k ∧ Below w2.heap.size w2 wr ∧ ∀ j, j < k → IsName ((patVals v label edge).getD j emp).data.toList) (fun i _ => 3 - (intOf i).toNat)
  case atStart => exact ⟨0, by omega, rfl, Below.refl _ _, fun j hj => absurd hj (by omega)⟩
  case round =>
    obtain ⟨k, hk, rfl, hbr, hn⟩ := hrel
    by_cases hlt : k < 3
    · have ck := (hS0.below hbr hls).cell k
      have hsk : ((patVals v label edge).map Value.string)[k]? = some (.string ((patVals v label edge).getD k emp)) := by
        rw [List.getElem?_map, List.getD_eq_getElem?_getD, List.getElem?_eq_getElem (show k < (patVals v label edge).length from hlt)]
        rfl
      rw [hsk] at ck
      have hTr := hT2.below hbr
      have hlk := hlen k
      have hnk : IsName ((patVals v label edge).getD k emp).data.toList → ∀ j, j < k + 1 → IsName ((patVals v label edge).getD j emp).data.toList := fun h j hj => by
        by_cases e : j = k
        · rw [e]; exact h
        · exact hn j (by omega)
      clear hsk
      generalize (patVals v label edge).getD k emp = sk at ck hlk hnk
      go_wp2_with fail
      refine (lex_calls sk _ hlk hTr).mono ?_
      rintro e wl ⟨hbl, hend⟩
      cases hlx : lexL sk.data.toList with
      | error q =>
        obtain ⟨p, c⟩ := q
        rw [hlx] at hend
        simp only at hend
        subst hend
        have hc := lexL_err hlx
        have hcb : (c != 0) = true := by rw [bne_iff_ne]; exact hc
        have hfin := hb2.trans ((hbr.trans (hbl.mono hbr.size)).mono hb2.size)
        go_wp2_with fail
        go_quiet (fail)
        go_wp2_with fail
        go_ret
        exact ⟨rfl, below_drawn hfin⟩
      | ok L =>
        rw [hlx] at hend
        obtain ⟨a, cap, rfl, hcap, hcap2, htk, hab⟩ := hend
        have hfin := hb2.trans ((hbr.trans (hbl.mono hbr.size)).mono hb2.size)
        have ck2 := cell_below hbl ck
        by_cases h1 : L.length = 1
        · obtain ⟨t, rfl⟩ : ∃ t, L = [t] := List.length_eq_one_iff.1 h1
          obtain ⟨tb, off, rfl, c0, c1, _, _⟩ := htk.first
          have hl0 := lt_of_cell c0
          by_cases hkd : t.kind = 1
          · by_cases htx : t.text = sk
            · have htb : (t.text.toList == sk.toList) = true := by rw [htx]; exact beq_self_eq_true _
              have hnm := hnk (isName_of_lex hlx hkd (by rw [htx]))
              rw [hkd] at c0
              go_wp2_with fail
              go_quiet (fail)
              go_wp2_with fail
              go_roundw
              case rel => exact ⟨k + 1, by omega, by go_num, below_drawn (hbr.trans (hbl.mono hbr.size)), hnm⟩
              case measure => simp [intOf]; omega
            · have htb : (t.text.toList == sk.toList) = false := by rw [ByteArray.toList_eq, ByteArray.toList_eq]; exact beq_eq_false_iff_ne.2 fun e => htx (ByteArray.ext (Array.toList_inj.1 e))
              rw [hkd] at c0
              go_wp2_with fail
              go_quiet (fail)
              go_wp2_with fail
              go_ret
              exact ⟨rfl, below_drawn hfin⟩
          · have hkb : (t.kind != 1) = true := by rw [bne_iff_ne]; exact hkd
            go_wp2_with fail
            go_quiet (fail)
            go_wp2_with fail
            go_ret
            exact ⟨rfl, below_drawn hfin⟩
        · have h1b : ((L.length : Int) != 1) = true := by rw [bne_iff_ne]; omega
          go_wp2_with fail
          go_quiet (fail)
          go_wp2_with fail
          go_ret
          exact ⟨rfl, below_drawn hfin⟩
    · have hk3 : k = 3 := by omega
      subst hk3
      have nv : IsName v.data.toList := hn 0 (by omega)
      have nl : IsName label.data.toList := hn 1 (by omega)
      have ne : IsName edge.data.toList := hn 2 (by omega)
      clear hn hlen hS0 hls hk hlt
      obtain ⟨n, hn8, hna⟩ : ∃ n : Nat, n ≤ 8 ∧ ((least : Int) % 9) = (n : Int) := ⟨least % 9, by omega, by omega⟩
      obtain ⟨m, hnm, hm8, hma⟩ : ∃ m : Nat, n ≤ m ∧ m ≤ 8 ∧ wrap64 ((n : Int) + (more : Int) % (9 - (n : Int))) = (m : Int) := by
        have h0 := Int.emod_nonneg (more : Int) (show (9 - (n : Int)) ≠ 0 by omega)
        have h1 := Int.emod_lt_of_pos (more : Int) (show 0 < (9 - (n : Int)) by omega)
        refine ⟨((n : Int) + (more : Int) % (9 - (n : Int))).toNat, by omega, by omega, ?_⟩
        rw [wrap64]; omega
      have HA := Lib.hid hna
      have HM := Lib.hid hma
      clear hna hma
      have zv : v.size ≤ 32 := by have := nv.few; rwa [size_list] at this
      have zl : label.size ≤ 32 := by have := nl.few; rwa [size_list] at this
      have ze : edge.size ≤ 32 := by have := ne.few; rwa [size_list] at this
      have n2 : wrap64 ((n : Int) + 1) = (n : Int) + 1 := by unfold wrap64; omega
      have m2 : wrap64 ((m : Int) + 1) = (m : Int) + 1 := by unfold wrap64; omega
      obtain ⟨dn, HDN, zn, sn⟩ := digit_named (P := Tryd.prog) 9 Tryd.underlying9 n (by omega)
      obtain ⟨dm, HDM, zm, sm⟩ := digit_named (P := Tryd.prog) 9 Tryd.underlying9 m hm8
      obtain ⟨b1, Hb1, zb1, eb1⟩ := add_named (P := Tryd.prog) ⟨#[91]⟩ edge 1 32 (Nat.le_refl _) ze (by decide)
      obtain ⟨b2, Hb2, zb2, eb2⟩ := add_named (P := Tryd.prog) b1 ⟨#[58]⟩ 33 1 zb1 (Nat.le_refl _) (by decide)
      obtain ⟨b3, Hb3, zb3, eb3⟩ := add_named (P := Tryd.prog) b2 label 34 32 zb2 zl (by decide)
      obtain ⟨b4, Hb4, zb4, eb4⟩ := add_named (P := Tryd.prog) b3 ⟨#[42]⟩ 66 1 zb3 (Nat.le_refl _) (by decide)
      obtain ⟨b5, Hb5, zb5, eb5⟩ := add_named (P := Tryd.prog) b4 dn 67 1 zb4 zn (by decide)
      obtain ⟨b6, Hb6, zb6, eb6⟩ := add_named (P := Tryd.prog) b5 ⟨#[46, 46]⟩ 68 2 zb5 (Nat.le_refl _) (by decide)
      obtain ⟨b7, Hb7, zb7, eb7⟩ := add_named (P := Tryd.prog) b6 dm 70 1 zb6 zm (by decide)
      obtain ⟨b8, Hb8, zb8, eb8⟩ := add_named (P := Tryd.prog) b7 ⟨#[93]⟩ 71 1 zb7 (Nat.le_refl _) (by decide)
      obtain ⟨c1, Hc1, zc1, ec1⟩ := add_named (P := Tryd.prog) ⟨#[45]⟩ b8 1 72 (Nat.le_refl _) zb8 (by decide)
      obtain ⟨c2, Hc2, zc2, ec2⟩ := add_named (P := Tryd.prog) c1 ⟨#[45, 62]⟩ 73 2 zc1 (Nat.le_refl _) (by decide)
      obtain ⟨d1, Hd1, zd1, ed1⟩ := add_named (P := Tryd.prog) ⟨#[60, 45]⟩ b8 2 72 (Nat.le_refl _) zb8 (by decide)
      obtain ⟨d2, Hd2, zd2, ed2⟩ := add_named (P := Tryd.prog) d1 ⟨#[45]⟩ 74 1 zd1 (Nat.le_refl _) (by decide)
      cases back with
      | false =>
        obtain ⟨g1, Hg1, zg1, eg1⟩ := add_named (P := Tryd.prog) ⟨#[77, 65, 84, 67, 72, 32, 40]⟩ v 7 32 (Nat.le_refl _) zv (by decide)
        obtain ⟨g2, Hg2, zg2, eg2⟩ := add_named (P := Tryd.prog) g1 ⟨#[58]⟩ 39 1 zg1 (Nat.le_refl _) (by decide)
        obtain ⟨g3, Hg3, zg3, eg3⟩ := add_named (P := Tryd.prog) g2 label 40 32 zg2 zl (by decide)
        obtain ⟨g4, Hg4, zg4, eg4⟩ := add_named (P := Tryd.prog) g3 ⟨#[41]⟩ 72 1 zg3 (Nat.le_refl _) (by decide)
        obtain ⟨g5, Hg5, zg5, eg5⟩ := add_named (P := Tryd.prog) g4 c2 73 75 zg4 zc2 (by decide)
        obtain ⟨g6, Hg6, zg6, eg6⟩ := add_named (P := Tryd.prog) g5 ⟨#[40, 41, 32, 82, 69, 84, 85, 82, 78, 32]⟩ 148 10 zg5 (Nat.le_refl _) (by decide)
        obtain ⟨g7, Hg7, zg7, eg7⟩ := add_named (P := Tryd.prog) g6 v 158 32 zg6 zv (by decide)
        have htext : g7.data.toList = patText false v.data.toList label.data.toList edge.data.toList n m := by
          rw [Hg7.out, Hg6.out, Hg5.out, Hg4.out, Hg3.out, Hg2.out, Hg1.out, Hc2.out, Hc1.out, Hb8.out, Hb7.out, Hb6.out, Hb5.out, Hb4.out, Hb3.out, Hb2.out, Hb1.out, HDN.out, HDM.out]
          simp [patText]
        have hread := pat_read_on nv nl ne n m hnm hm8
        rw [← htext] at hread
        have HP := Lib.hid (fun W (hTW : Tabs W) => query_parses 100 (by decide) g7 W (by omega) hTW _ hread)
        clear htext hread
        go_wp2_with fail
        rw [HA.out, HM.out]
        go_quiet (fail)
        go_wp2_with fail
        refine (HP.out _ (hT2.below (below_drawn hbr))).mono ?_
        rintro e w5 ⟨hb5, cs, rfl, v0, v1, v3, v4, rfl, q0, q1, q3, q4⟩
        obtain ⟨pb, po, pc, ps, rfl, ⟨nv', ev', rfl, gn, ge⟩, _, hpc⟩ := q0.cons_ (by decide)
        obtain ⟨na, nc, nks, rfl, hnk, c1, c1', rfl, rfl, c2, c2', rfl, rfl, rfl⟩ := gn
        obtain ⟨nb, no, rfl, _, hnc⟩ := CellsAt.first hnk
        obtain ⟨eb, eo, ec, es, rfl, rfl, _, hec⟩ := ge.cons_ (by decide)
        obtain ⟨ib, io, ic, is, rfl, _, _, _⟩ := q3.cons_ (by decide)
        obtain ⟨a1, l1, k1, rfl⟩ := q1.form
        obtain ⟨a4, l4, k4, rfl⟩ := q4.form
        have p0 := hpc 0 _ rfl
        have p1 := hpc 1 _ rfl
        have n0 : w5.cell? ⟨nb, no + 0, none⟩ = some (.string v) := hnc 0 _ rfl
        have n1 : w5.cell? ⟨nb, no + 1, none⟩ = some (.string label) := hnc 1 _ rfl
        have n3 : w5.cell? ⟨nb, no + 2, none⟩ = some (.string ⟨#[]⟩) := hnc 2 _ rfl
        have n4 : w5.cell? ⟨nb, no + 3, none⟩ = some (.string ⟨#[]⟩) := hnc 3 _ rfl
        have x0 : w5.cell? ⟨eb, eo + 0, none⟩ = some (.string edge) := hec 0 _ rfl
        have x1 : w5.cell? ⟨eb, eo + 1, none⟩ = some (.string label) := hec 1 _ rfl
        have x2 : w5.cell? ⟨eb, eo + 2, none⟩ = some (.bool false) := hec 2 _ rfl
        have x3 : w5.cell? ⟨eb, eo + 3, none⟩ = some (.int .i64 1) := hec 3 _ rfl
        have x4 : w5.cell? ⟨eb, eo + 4, none⟩ = some (.int .i64 n) := hec 4 _ rfl
        have x5 : w5.cell? ⟨eb, eo + 5, none⟩ = some (.int .i64 m) := hec 5 _ rfl
        simp only [Nat.add_zero, List.length_nil, List.length_cons, Nat.zero_add, Nat.reduceAdd, patQ] at p0 p1 n0 x0 ⊢
        have hfin := hb2.trans ((below_drawn hbr : Below w2.heap.size w2 _).trans (hb5.mono (below_drawn hbr : Below w2.heap.size w2 _).size) |>.mono hb2.size)
        have lp := lt_of_cell p0
        have ln := lt_of_cell n0
        have lx := lt_of_cell x0
        clear hpc hnc hec hnk ge q0 q1 q3 q4
        go_wp2_with fail
        all_goals
          go_ret
          exact ⟨rfl, (hfin.alloc hfin.size _).alloc (by simp only [World.size_alloc]; have := hfin.size; omega) _⟩
      | true =>
        obtain ⟨g1, Hg1, zg1, eg1⟩ := add_named (P := Tryd.prog) ⟨#[77, 65, 84, 67, 72, 32, 40]⟩ v 7 32 (Nat.le_refl _) zv (by decide)
        obtain ⟨g2, Hg2, zg2, eg2⟩ := add_named (P := Tryd.prog) g1 ⟨#[58]⟩ 39 1 zg1 (Nat.le_refl _) (by decide)
        obtain ⟨g3, Hg3, zg3, eg3⟩ := add_named (P := Tryd.prog) g2 label 40 32 zg2 zl (by decide)
        obtain ⟨g4, Hg4, zg4, eg4⟩ := add_named (P := Tryd.prog) g3 ⟨#[41]⟩ 72 1 zg3 (Nat.le_refl _) (by decide)
        obtain ⟨g5, Hg5, zg5, eg5⟩ := add_named (P := Tryd.prog) g4 d2 73 75 zg4 zd2 (by decide)
        obtain ⟨g6, Hg6, zg6, eg6⟩ := add_named (P := Tryd.prog) g5 ⟨#[40, 41, 32, 82, 69, 84, 85, 82, 78, 32]⟩ 148 10 zg5 (Nat.le_refl _) (by decide)
        obtain ⟨g7, Hg7, zg7, eg7⟩ := add_named (P := Tryd.prog) g6 v 158 32 zg6 zv (by decide)
        have htext : g7.data.toList = patText true v.data.toList label.data.toList edge.data.toList n m := by
          rw [Hg7.out, Hg6.out, Hg5.out, Hg4.out, Hg3.out, Hg2.out, Hg1.out, Hd2.out, Hd1.out, Hb8.out, Hb7.out, Hb6.out, Hb5.out, Hb4.out, Hb3.out, Hb2.out, Hb1.out, HDN.out, HDM.out]
          simp [patText]
        have hread := pat_read_back nv nl ne n m hnm hm8
        rw [← htext] at hread
        have HP := Lib.hid (fun W (hTW : Tabs W) => query_parses 100 (by decide) g7 W (by omega) hTW _ hread)
        clear htext hread
        go_wp2_with fail
        rw [HA.out, HM.out]
        go_quiet (fail)
        go_wp2_with fail
        refine (HP.out _ (hT2.below (below_drawn hbr))).mono ?_
        rintro e w5 ⟨hb5, cs, rfl, v0, v1, v3, v4, rfl, q0, q1, q3, q4⟩
        obtain ⟨pb, po, pc, ps, rfl, ⟨nv', ev', rfl, gn, ge⟩, _, hpc⟩ := q0.cons_ (by decide)
        obtain ⟨na, nc, nks, rfl, hnk, c1, c1', rfl, rfl, c2, c2', rfl, rfl, rfl⟩ := gn
        obtain ⟨nb, no, rfl, _, hnc⟩ := CellsAt.first hnk
        obtain ⟨eb, eo, ec, es, rfl, rfl, _, hec⟩ := ge.cons_ (by decide)
        obtain ⟨ib, io, ic, is, rfl, _, _, _⟩ := q3.cons_ (by decide)
        obtain ⟨a1, l1, k1, rfl⟩ := q1.form
        obtain ⟨a4, l4, k4, rfl⟩ := q4.form
        have p0 := hpc 0 _ rfl
        have p1 := hpc 1 _ rfl
        have n0 : w5.cell? ⟨nb, no + 0, none⟩ = some (.string v) := hnc 0 _ rfl
        have n1 : w5.cell? ⟨nb, no + 1, none⟩ = some (.string label) := hnc 1 _ rfl
        have n3 : w5.cell? ⟨nb, no + 2, none⟩ = some (.string ⟨#[]⟩) := hnc 2 _ rfl
        have n4 : w5.cell? ⟨nb, no + 3, none⟩ = some (.string ⟨#[]⟩) := hnc 3 _ rfl
        have x0 : w5.cell? ⟨eb, eo + 0, none⟩ = some (.string edge) := hec 0 _ rfl
        have x1 : w5.cell? ⟨eb, eo + 1, none⟩ = some (.string label) := hec 1 _ rfl
        have x2 : w5.cell? ⟨eb, eo + 2, none⟩ = some (.bool true) := hec 2 _ rfl
        have x3 : w5.cell? ⟨eb, eo + 3, none⟩ = some (.int .i64 1) := hec 3 _ rfl
        have x4 : w5.cell? ⟨eb, eo + 4, none⟩ = some (.int .i64 n) := hec 4 _ rfl
        have x5 : w5.cell? ⟨eb, eo + 5, none⟩ = some (.int .i64 m) := hec 5 _ rfl
        simp only [Nat.add_zero, List.length_nil, List.length_cons, Nat.zero_add, Nat.reduceAdd, patQ] at p0 p1 n0 x0 ⊢
        have hfin := hb2.trans ((below_drawn hbr : Below w2.heap.size w2 _).trans (hb5.mono (below_drawn hbr : Below w2.heap.size w2 _).size) |>.mono hb2.size)
        have lp := lt_of_cell p0
        have ln := lt_of_cell n0
        have lx := lt_of_cell x0
        clear hpc hnc hec hnk ge q0 q1 q3 q4
        go_wp2_with fail
        all_goals
          go_ret
          exact ⟨rfl, (hfin.alloc hfin.size _).alloc (by simp only [World.size_alloc]; have := hfin.size; omega) _⟩
end Go.Proofs.YtaonmhegnnpgaaaDoor
