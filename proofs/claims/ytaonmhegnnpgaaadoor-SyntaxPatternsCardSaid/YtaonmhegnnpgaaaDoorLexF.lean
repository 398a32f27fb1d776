/- A strings.Builder of this program: its writing methods. No condition. -/
import Derived.Test.YtaonmhegnnpgaaaDoorLexE
import Derived.Lib.FrozenHead2
import Derived.Laws.Externs
namespace Go.Proofs.YtaonmhegnnpgaaaDoor
open Go Go.RowKit

set_option maxRecDepth 100000 in
set_option maxHeartbeats 400000 in
theorem copy_calls (B b : Nat) (bs : List Value) (w : World) (h : Lib.IsBuilderF 92 5 B b bs w) :
    Calls Tryd.prog 54 #[.pointer (some ⟨b, 0, none⟩)] w fun e w' => e = .returned (.tuple #[]) ∧ Lib.BuilderAtF 92 5 B b (.pointer (some ⟨b, 0, none⟩)) bs w' ∧ Below B w w' ∧ Lib.OthersKept 5 (some b) w w' := by
  have hsz : (Tryd.prog.info? 92).map (·.size) = some 2 := by kernel_rfl
  have hlies : liesAt Tryd.prog Tryd.prog.depth 92 (2 / Tryd.prog.cellsOf 92) 0 92 1 = true := by kernel_rfl
  obtain ⟨j, hj, hjs⟩ := Option.map_eq_some_iff.1 hsz
  rcases h with h | h
  · have c0 := h.cell0
    have f0 := h.frozen0
    have k1 := Lib.run_to_unsafe (P := Tryd.prog) (w := w) ⟨b, 0, none⟩ Tryd.underlying90 Tryd.underlying132 hj (by rw [hjs]; decide) h.shape (Nat.zero_lt_succ 1)
    have k2 : (callFunc 64 #[.pointer (some ⟨b, 0, none⟩)]).run Tryd.prog w = _ := run_callFunc_extern Tryd.func64 (by kernel_rfl) (by kernel_rfl) (by kernel_rfl) (e := Extern.AbiNoEscape.same) (by kernel_rfl) _ _
    rw [Lib.run_noEscape] at k2
    have k3 := Lib.run_from_unsafe (P := Tryd.prog) (w := w) ⟨b, 0, none⟩ Tryd.underlying132 Tryd.underlying90 hj h.shape hlies
    clear hj hjs hlies hsz
    go_enter Tryd.func54, Tryd.ntmps54
    go_wp2_with fail
    go_end0
    exact ⟨rfl, h.used _, (Below.refl B w).setCell (p := ⟨b, 0, none⟩) h.1 _, (Lib.OthersKept.refl _ _ w).setCell ⟨b, 0, none⟩ rfl _⟩
  · have c0 := h.cell0
    have k1 := Lib.run_neq_ptr_same (P := Tryd.prog) w ⟨b, 0, none⟩ Tryd.underlying90 hj
    clear hj hjs hlies hsz
    go_enter Tryd.func54, Tryd.ntmps54
    go_wp2_with fail
    go_end0
    exact ⟨rfl, h, Below.refl B _, Lib.OthersKept.refl _ _ _⟩
/-- A builder in block b that holds these bytes, of a world since w0. -/
structure Bld (w0 w : World) (b : Nat) (l : List UInt8) : Prop where
  is : Lib.IsBuilderF 92 5 w0.heap.size b (Lib.byteCells l) w
  below : Below w0.heap.size w0 w

theorem lt_of_heap {w : World} {b : Nat} {o : Obj} (h : w.heap[b]? = some o) : b < w.heap.size := (Array.getElem?_eq_some_iff.1 h).1

set_option maxRecDepth 100000 in
set_option maxHeartbeats 1000000 in
theorem byte_calls (w0 w : World) (b : Nat) (l : List UInt8) (c : UInt8) (h : Bld w0 w b l) (hl : l.length ≤ 1000000000) :
    Calls Tryd.prog 32 #[.pointer (some ⟨b, 0, none⟩), .int .u8 (c.toNat : Int)] w fun e w' => e = .returned .nilIface ∧ Bld w0 w' b (l ++ [c]) ∧ Lib.OthersKept 5 (some b) w w' := by
  obtain ⟨i0, hi, hz0, hz1, hz2⟩ := info_parts (show (Tryd.prog.info? 5).map (fun i => (i.zero, i.size, i.bytes)) = some (some (.int .u8 0), 1, 1) by kernel_rfl)
  obtain ⟨his, hb0⟩ := h
  go_enter Tryd.func32, Tryd.ntmps32
  go_wp2_with fail
  refine (copy_calls w0.heap.size b (Lib.byteCells l) _ his).mono ?_
  rintro e w1 ⟨rfl, ⟨hB, v, hcl, hown, hne⟩, hb1, hk1⟩
  have hlt := lt_of_heap hcl
  have hsz0 := hb0.size
  have hb01 := hb0.trans (hb1.mono (Nat.le_refl _))
  have hsz1 := hb01.size
  have c0 : w1.cell? ⟨b, 0, none⟩ = some (.pointer (some ⟨b, 0, none⟩)) := by rw [Lib.cell_of_heap hcl]; rfl
  have c1 : w1.cell? ⟨b, 1, none⟩ = some v := by rw [Lib.cell_of_heap hcl]; rfl
  have hln := Lib.byteCells_length l
  go_wp2_with (at_builtin; refine wpList_append_ownF _ rfl _ _ 49 rfl w0.heap.size 5 i0 (.int .u8 0) 1 1 Tryd.underlying49 hi hz0 hz1 hz2 rfl (by decide) _ _ _ rfl (hown.alloc _) ⟨w1.heap.size, 0, none⟩ 1 1 [.int .u8 (c.toNat : Int)] rfl rfl ?c1 ?c2 ?c3 ?c4 ?c5 ?_)
  case c1 =>
    intro j u hj
    match j, hj with
    | 0, hj => simp at hj; subst hj; simp [Addr.add]
  case c2 => intro u hu; simp at hu; subst hu; rfl
  case c3 => unfold maxLen; omega
  case c4 => omega
  case c5 => simp; omega
  intro v' w2 hown' hgrow _
  have hb2 : w2.heap[b]? = some (.cells #[.pointer (some ⟨b, 0, none⟩), v] 92 (0, 0)) :=
    (hgrow.block b (by simp; omega) (fun e => hne e.symm)).trans ((Below.heap_alloc w1 _ b hlt).trans hcl)
  have d0 : w2.cell? ⟨b, 0, none⟩ = some (.pointer (some ⟨b, 0, none⟩)) := by rw [Lib.cell_of_heap hb2]; rfl
  have d1 : w2.cell? ⟨b, 1, none⟩ = some v := by rw [Lib.cell_of_heap hb2]; rfl
  have f1 : w2.frozen? ⟨b, 1, none⟩ = false := Lib.frozen_of_heap hb2 1
  obtain ⟨g, cap, rfl⟩ : ∃ g cap, v' = .slice (some ⟨g, 0, none⟩) (l.length + 1) cap := by
    rcases hown'.2 with ⟨_, h0⟩ | ⟨g, cap, cur, fz, hv, _⟩
    · omega
    · exact ⟨g, cap, hv⟩
  clear hln
  go_wp2_with fail
  go_ret
  refine ⟨rfl, ⟨.inr ?_, ?_⟩, ((hk1.alloc _).grown hgrow (Lib.ownsRowF_kind (hown.alloc _))).setCell ⟨b, 1, none⟩ rfl _⟩
  · exact Lib.BuilderAtF.put hB hb2 (bs' := Lib.byteCells (l ++ [c])) (by simpa [Lib.byteCells] using hown') (by decide)
  · exact ((hb01.alloc (by omega) _).grown hgrow (by simp; omega) (fun k hk => (hown.lt k hk).1)).setCell (p := ⟨b, 1, none⟩) hB _

set_option maxRecDepth 100000 in
set_option maxHeartbeats 1000000 in
theorem rune_calls (w0 w : World) (b : Nat) (l : List UInt8) (r : Nat) (hr : r ≤ 2147483647) (h : Bld w0 w b l) (hl : l.length ≤ 1000000000) :
    Calls Tryd.prog 34 #[.pointer (some ⟨b, 0, none⟩), .int .i32 (r : Int)] w fun e w' => e = .returned (.tuple #[.int .i64 (Lib.runeCells r).length, .nilIface]) ∧ Bld w0 w' b (l ++ Lib.encodeRune r) ∧ Lib.OthersKept 5 (some b) w w' := by
  obtain ⟨his, hb0⟩ := h
  have hr4 := Lib.runeCells_le (r : Int)
  go_enter Tryd.func34, Tryd.ntmps34
  go_wp2_with fail
  refine (copy_calls w0.heap.size b (Lib.byteCells l) _ his).mono ?_
  rintro e w1 ⟨rfl, ⟨hB, v, hcl, hown, hne⟩, hb1, hk1⟩
  have hlt := lt_of_heap hcl
  have hsz0 := hb0.size
  have hb01 := hb0.trans (hb1.mono (Nat.le_refl _))
  have hsz1 := hb01.size
  have hln := Lib.byteCells_length l
  obtain ⟨ao, cap, rfl⟩ : ∃ ao cap, v = .slice ao (Lib.byteCells l).length cap := by
    rcases hown.2 with ⟨hv, h0⟩ | ⟨g, cap, cur, fz, hv, _⟩
    · exact ⟨none, 0, by rw [hv, h0]⟩
    · exact ⟨_, _, hv⟩
  have c0 : w1.cell? ⟨b, 0, none⟩ = some (.pointer (some ⟨b, 0, none⟩)) := by rw [Lib.cell_of_heap hcl]; rfl
  have c1 : w1.cell? ⟨b, 1, none⟩ = some (.slice ao (Lib.byteCells l).length cap) := by rw [Lib.cell_of_heap hcl]; rfl
  generalize hn : (Lib.byteCells l).length = n at *
  have hn2 : n ≤ 1000000000 := by omega
  clear hln
  have HN := Lib.hid hn
  clear hn
  go_wp2_with fail
  refine (Tryd.utf8_AppendRune_row w0.heap.size _ n (Lib.byteCells l) r (by omega) (by omega) _ hown (by omega) (by omega)).mono ?_
  rintro e w2 ⟨v', rfl, hown', o, hgrow⟩
  have hb2 : w2.heap[b]? = some (.cells #[.pointer (some ⟨b, 0, none⟩), .slice ao n cap] 92 (0, 0)) :=
    (hgrow.block b (by simp; omega) (fun e => hne e.symm)).trans ((Below.heap_alloc w1 _ b hlt).trans hcl)
  have d0 : w2.cell? ⟨b, 0, none⟩ = some (.pointer (some ⟨b, 0, none⟩)) := by rw [Lib.cell_of_heap hb2]; rfl
  have d1 : w2.cell? ⟨b, 1, none⟩ = some (.slice ao n cap) := by rw [Lib.cell_of_heap hb2]; rfl
  have f1 : w2.frozen? ⟨b, 1, none⟩ = false := Lib.frozen_of_heap hb2 1
  obtain ⟨g, cap', rfl⟩ : ∃ g cap', v' = .slice (some ⟨g, 0, none⟩) (n + (Lib.runeCells r).length) cap' := by
    rcases hown'.2 with ⟨_, h0⟩ | ⟨g, cap', cur, fz, hv, _⟩
    · omega
    · exact ⟨g, cap', hv⟩
  go_wp2_with fail
  go_ret2
  refine ⟨?_, ⟨.inr ?_, ?_⟩, ((hk1.alloc _).grown hgrow (Lib.ownsRowF_kind (hown.alloc _))).setCell ⟨b, 1, none⟩ rfl _⟩
  · have e : ((n : Int) + ((Lib.runeCells r).length : Int) - (n : Int)) = ((Lib.runeCells r).length : Int) := by omega
    simp [e]
  · refine Lib.BuilderAtF.put hB hb2 (bs' := Lib.byteCells (l ++ Lib.encodeRune r)) ?_ (by decide)
    rw [Lib.byteCells_append, Lib.byteCells_encodeRune, List.length_append, HN.out]
    exact hown'
  · exact ((hb01.alloc (by omega) _).grown hgrow (by simp; omega) (fun k hk => (hown.lt k hk).1)).setCell (p := ⟨b, 1, none⟩) hB _
end Go.Proofs.YtaonmhegnnpgaaaDoor
