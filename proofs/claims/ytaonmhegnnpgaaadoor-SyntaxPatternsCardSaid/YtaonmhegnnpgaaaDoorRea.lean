/- The deferred closures of read. No condition. -/
import Derived.Test.YtaonmhegnnpgaaaDoorRdZ
import Derived.Defers
import Derived.Recover
namespace Go.Proofs.YtaonmhegnnpgaaaDoor
open Go Go.RowKit

theorem bodyPostS_n {P : Program} {fn : Func} {c₀ : Frame} {cs cs' : List Frame} {R : Ending → FrameMode → World → Prop} {a : Act} {w : World} (hd : a.defers = []) (u' : FrameMode) (hcs : cs' = { c₀ with mode := u' } :: cs)
    (v : Value) (hr : (results fn a.tmps).run P w = .ok v w) (h : R (.returned v) u' w) : bodyPostS P fn c₀ cs R .normal a cs' w := ⟨hd, u', hcs, v, hr, h⟩

theorem idle_query (a b c : Value) (w : World) :
    CallsD Tryd.prog 36 #[a, b, c] .returning w fun e u' w' => e = .returned (.tuple #[]) ∧ u' = .returning ∧ w' = w := by
  refine callsD_of_wpS Tryd.func36 rfl fun c₀ cs hu => ?_
  apply wpS_seq
  generalize hK : Code.wpS Tryd.prog (Code.block 0 _) = K
  apply wpS_region
  simp [wpOpsS, go_sem, recoverD, hu, Tryd.ntmps36, Exit.thenS]
  subst hK
  refine wpS_of_wp ?_
  change Code.wp _ _ _ { tmps := #[a, b, c, undef, undef, undef, undef, .nilIface, undef, undef, undef, undef, undef, undef, undef, undef, undef, undef], defers := [] } w
  go_wp2_with fail
  cases c₀
  simp_all [bodyPostS, results, Tryd.results36]

set_option maxRecDepth 100000 in
set_option maxHeartbeats 1000000 in
/-- What a reader gives up with is caught: the place and the reason are laid into the results, what was read is dropped. -/
theorem catch_query (q p e0 : Nat) (pos code : Int) (w : World) (v0 v1 v2 v3 v4 v5 pv ev : Value) (hq : Blk w q 36 [v0, v1, v2, v3, v4, v5]) (hp : Blk w p 3 [pv]) (he : Blk w e0 25 [ev]) (n1 : ¬ q = p) (n2 : ¬ q = e0) (n3 : ¬ p = e0) (n4 : ¬ p = q) (n5 : ¬ e0 = q) (n6 : ¬ e0 = p) :
    CallsD Tryd.prog 36 #[.pointer (some ⟨q, 0, none⟩), .pointer (some ⟨p, 0, none⟩), .pointer (some ⟨e0, 0, none⟩)] (.panicking [{ v := .iface 103 (.agg #[.int .i64 pos, .int .i64 code]), recovered := false }]) w fun e u' w' =>
      e = .returned (.tuple #[]) ∧ u' = .panicking [{ v := .iface 103 (.agg #[.int .i64 pos, .int .i64 code]), recovered := true }] ∧
        Blk w' q 36 [.slice none 0 0, .slice none 0 0, .bool false, .slice none 0 0, .slice none 0 0, .int .i64 0] ∧ Blk w' p 3 [.int .i64 pos] ∧ Blk w' e0 25 [.int .i64 code] ∧
        (∀ B a, Below B a w → B ≤ w.heap.size → B ≤ q → B ≤ p → B ≤ e0 → Below B a w') := by
  refine callsD_of_wpS Tryd.func36 rfl fun c₀ cs hu => ?_
  apply wpS_seq
  generalize hK : Code.wpS Tryd.prog (Code.block 0 _) = K
  apply wpS_region
  simp [wpOpsS, go_sem, recoverD, hu, Tryd.ntmps36, Exit.thenS]
  subst hK
  refine wpS_of_wp ?_
  generalize hk0 : c₀.kind = k0
  have HK0 := Lib.hid hk0
  clear hk0 hu
  have hta : ∀ w, (Instr.typeAssert (.iface 103 (.agg #[.int .i64 pos, .int .i64 code])) 20 103 true).run Tryd.prog w = .ok (.tuple #[.agg #[.int .i64 pos, .int .i64 code], .bool true]) w := fun w => by kernel_rfl
  have q0 := hq.cell 0
  have q1 := hq.cell 1
  have q2 := hq.cell 2
  have q3 := hq.cell 3
  have q4 := hq.cell 4
  have q5 := hq.cell 5
  have p0 := hp.cell 0
  have ec := he.cell 0
  have fq := hq.frozen
  have fp := hp.frozen
  have fe := he.frozen
  have hql := hq.lt
  have hpl := hp.lt
  have hel := he.lt
  simp only [List.getElem?_cons_zero, List.getElem?_cons_succ] at p0 ec q0 q1 q2 q3 q4 q5
  change Code.wp _ _ _ { tmps := #[.pointer (some ⟨q, 0, none⟩), .pointer (some ⟨p, 0, none⟩), .pointer (some ⟨e0, 0, none⟩), undef, undef, undef, undef, .iface 103 (.agg #[.int .i64 pos, .int .i64 code]), undef, undef, undef, undef, undef, undef, undef, undef, undef, undef], defers := [] } w
  go_wp2_with fail
  go_region
  simp only [Exit.inBlock]
  refine bodyPostS_n (c₀ := c₀) (cs := cs) ?h1 (.panicking [{ v := .iface 103 (.agg #[.int .i64 pos, .int .i64 code]), recovered := true }]) ?h2 (.tuple #[]) ?h3 ?h4
  case h1 => rfl
  case h2 => rw [← HK0.out]
  case h3 => simp [results, Tryd.results36, go_sem]
  refine ⟨rfl, rfl, ?_, ?_, ?_, ?_⟩
  · exact ((((((((((hq.set_ 0 (.slice none 0 0)).set_ 1 (.slice none 0 0)).set_ 2 (.bool false)).set_ 3 (.slice none 0 0)).set_ 4 (.slice none 0 0)).set_ 5 (.int .i64 0)).far (p := ⟨p, 0, none⟩) n1 _).far (p := ⟨e0, 0, none⟩) n2 _).alloc _).alloc _).drew
  · exact ((((((((((hp.far (p := ⟨q, 0, none⟩) n4 (.slice none 0 0)).far (p := ⟨q, 1, none⟩) n4 (.slice none 0 0)).far (p := ⟨q, 2, none⟩) n4 (.bool false)).far (p := ⟨q, 3, none⟩) n4 (.slice none 0 0)).far (p := ⟨q, 4, none⟩) n4 (.slice none 0 0)).far (p := ⟨q, 5, none⟩) n4 (.int .i64 0)).set_ 0 (.int .i64 pos)).far (p := ⟨e0, 0, none⟩) n3 _).alloc _).alloc _).drew
  · exact ((((((((((he.far (p := ⟨q, 0, none⟩) n5 (.slice none 0 0)).far (p := ⟨q, 1, none⟩) n5 (.slice none 0 0)).far (p := ⟨q, 2, none⟩) n5 (.bool false)).far (p := ⟨q, 3, none⟩) n5 (.slice none 0 0)).far (p := ⟨q, 4, none⟩) n5 (.slice none 0 0)).far (p := ⟨q, 5, none⟩) n5 (.int .i64 0)).far (p := ⟨p, 0, none⟩) n6 _).set_ 0 (.int .i64 code)).alloc _).alloc _).drew
  · intro B a hb h0 h1 h2 h3
    exact ((((((((((hb.setCell (p := ⟨q, 0, none⟩) h1 _).setCell (p := ⟨q, 1, none⟩) h1 _).setCell (p := ⟨q, 2, none⟩) h1 _).setCell (p := ⟨q, 3, none⟩) h1 _).setCell (p := ⟨q, 4, none⟩) h1 _).setCell (p := ⟨q, 5, none⟩) h1 _).setCell (p := ⟨p, 0, none⟩) h2 _).setCell (p := ⟨e0, 0, none⟩) h3 _).alloc (by simpa using h0) _).alloc (by simp; omega) _).drew

theorem idle_expr (a b c : Value) (w : World) :
    CallsD Tryd.prog 49 #[a, b, c] .returning w fun e u' w' => e = .returned (.tuple #[]) ∧ u' = .returning ∧ w' = w := by
  refine callsD_of_wpS Tryd.func49 rfl fun c₀ cs hu => ?_
  apply wpS_seq
  generalize hK : Code.wpS Tryd.prog (Code.block 0 _) = K
  apply wpS_region
  simp [wpOpsS, go_sem, recoverD, hu, Tryd.ntmps49, Exit.thenS]
  subst hK
  refine wpS_of_wp ?_
  change Code.wp _ _ _ { tmps := #[a, b, c, undef, undef, undef, undef, .nilIface, undef, undef, undef, undef, undef, undef, undef, undef, undef, undef], defers := [] } w
  go_wp2_with fail
  cases c₀
  simp_all [bodyPostS, results, Tryd.results49]

set_option maxRecDepth 100000 in
set_option maxHeartbeats 1000000 in
/-- What a reader gives up with is caught: the place and the reason are laid into the results, what was read is dropped. -/
theorem catch_expr (q p e0 : Nat) (pos code : Int) (w : World) (v0 v1 v2 v3 v4 v5 v6 v7 v8 pv ev : Value) (hq : Blk w q 57 [v0, v1, v2, v3, v4, v5, v6, v7, v8]) (hp : Blk w p 3 [pv]) (he : Blk w e0 25 [ev]) (n1 : ¬ q = p) (n2 : ¬ q = e0) (n3 : ¬ p = e0) (n4 : ¬ p = q) (n5 : ¬ e0 = q) (n6 : ¬ e0 = p) :
    CallsD Tryd.prog 49 #[.pointer (some ⟨q, 0, none⟩), .pointer (some ⟨p, 0, none⟩), .pointer (some ⟨e0, 0, none⟩)] (.panicking [{ v := .iface 103 (.agg #[.int .i64 pos, .int .i64 code]), recovered := false }]) w fun e u' w' =>
      e = .returned (.tuple #[]) ∧ u' = .panicking [{ v := .iface 103 (.agg #[.int .i64 pos, .int .i64 code]), recovered := true }] ∧
        Blk w' q 57 [.int .i64 0, .slice none 0 0, .string ⟨#[]⟩, .string ⟨#[]⟩, .int .i64 0, .bool false, .int .i64 0, .string ⟨#[]⟩, .slice none 0 0] ∧ Blk w' p 3 [.int .i64 pos] ∧ Blk w' e0 25 [.int .i64 code] ∧
        (∀ B a, Below B a w → B ≤ w.heap.size → B ≤ q → B ≤ p → B ≤ e0 → Below B a w') := by
  refine callsD_of_wpS Tryd.func49 rfl fun c₀ cs hu => ?_
  apply wpS_seq
  generalize hK : Code.wpS Tryd.prog (Code.block 0 _) = K
  apply wpS_region
  simp [wpOpsS, go_sem, recoverD, hu, Tryd.ntmps49, Exit.thenS]
  subst hK
  refine wpS_of_wp ?_
  generalize hk0 : c₀.kind = k0
  have HK0 := Lib.hid hk0
  clear hk0 hu
  have hta : ∀ w, (Instr.typeAssert (.iface 103 (.agg #[.int .i64 pos, .int .i64 code])) 20 103 true).run Tryd.prog w = .ok (.tuple #[.agg #[.int .i64 pos, .int .i64 code], .bool true]) w := fun w => by kernel_rfl
  have q0 := hq.cell 0
  have q1 := hq.cell 1
  have q2 := hq.cell 2
  have q3 := hq.cell 3
  have q4 := hq.cell 4
  have q5 := hq.cell 5
  have q6 := hq.cell 6
  have q7 := hq.cell 7
  have q8 := hq.cell 8
  have p0 := hp.cell 0
  have ec := he.cell 0
  have fq := hq.frozen
  have fp := hp.frozen
  have fe := he.frozen
  have hql := hq.lt
  have hpl := hp.lt
  have hel := he.lt
  simp only [List.getElem?_cons_zero, List.getElem?_cons_succ] at p0 ec q0 q1 q2 q3 q4 q5 q6 q7 q8
  change Code.wp _ _ _ { tmps := #[.pointer (some ⟨q, 0, none⟩), .pointer (some ⟨p, 0, none⟩), .pointer (some ⟨e0, 0, none⟩), undef, undef, undef, undef, .iface 103 (.agg #[.int .i64 pos, .int .i64 code]), undef, undef, undef, undef, undef, undef, undef, undef, undef, undef], defers := [] } w
  go_wp2_with fail
  go_region
  simp only [Exit.inBlock]
  refine bodyPostS_n (c₀ := c₀) (cs := cs) ?h1 (.panicking [{ v := .iface 103 (.agg #[.int .i64 pos, .int .i64 code]), recovered := true }]) ?h2 (.tuple #[]) ?h3 ?h4
  case h1 => rfl
  case h2 => rw [← HK0.out]
  case h3 => simp [results, Tryd.results49, go_sem]
  refine ⟨rfl, rfl, ?_, ?_, ?_, ?_⟩
  · exact (((((((((((((hq.set_ 0 (.int .i64 0)).set_ 1 (.slice none 0 0)).set_ 2 (.string ⟨#[]⟩)).set_ 3 (.string ⟨#[]⟩)).set_ 4 (.int .i64 0)).set_ 5 (.bool false)).set_ 6 (.int .i64 0)).set_ 7 (.string ⟨#[]⟩)).set_ 8 (.slice none 0 0)).far (p := ⟨p, 0, none⟩) n1 _).far (p := ⟨e0, 0, none⟩) n2 _).alloc _).alloc _).drew
  · exact (((((((((((((hp.far (p := ⟨q, 0, none⟩) n4 (.int .i64 0)).far (p := ⟨q, 1, none⟩) n4 (.slice none 0 0)).far (p := ⟨q, 2, none⟩) n4 (.string ⟨#[]⟩)).far (p := ⟨q, 3, none⟩) n4 (.string ⟨#[]⟩)).far (p := ⟨q, 4, none⟩) n4 (.int .i64 0)).far (p := ⟨q, 5, none⟩) n4 (.bool false)).far (p := ⟨q, 6, none⟩) n4 (.int .i64 0)).far (p := ⟨q, 7, none⟩) n4 (.string ⟨#[]⟩)).far (p := ⟨q, 8, none⟩) n4 (.slice none 0 0)).set_ 0 (.int .i64 pos)).far (p := ⟨e0, 0, none⟩) n3 _).alloc _).alloc _).drew
  · exact (((((((((((((he.far (p := ⟨q, 0, none⟩) n5 (.int .i64 0)).far (p := ⟨q, 1, none⟩) n5 (.slice none 0 0)).far (p := ⟨q, 2, none⟩) n5 (.string ⟨#[]⟩)).far (p := ⟨q, 3, none⟩) n5 (.string ⟨#[]⟩)).far (p := ⟨q, 4, none⟩) n5 (.int .i64 0)).far (p := ⟨q, 5, none⟩) n5 (.bool false)).far (p := ⟨q, 6, none⟩) n5 (.int .i64 0)).far (p := ⟨q, 7, none⟩) n5 (.string ⟨#[]⟩)).far (p := ⟨q, 8, none⟩) n5 (.slice none 0 0)).far (p := ⟨p, 0, none⟩) n6 _).set_ 0 (.int .i64 code)).alloc _).alloc _).drew
  · intro B a hb h0 h1 h2 h3
    exact (((((((((((((hb.setCell (p := ⟨q, 0, none⟩) h1 _).setCell (p := ⟨q, 1, none⟩) h1 _).setCell (p := ⟨q, 2, none⟩) h1 _).setCell (p := ⟨q, 3, none⟩) h1 _).setCell (p := ⟨q, 4, none⟩) h1 _).setCell (p := ⟨q, 5, none⟩) h1 _).setCell (p := ⟨q, 6, none⟩) h1 _).setCell (p := ⟨q, 7, none⟩) h1 _).setCell (p := ⟨q, 8, none⟩) h1 _).setCell (p := ⟨p, 0, none⟩) h2 _).setCell (p := ⟨e0, 0, none⟩) h3 _).alloc (by simpa using h0) _).alloc (by simp; omega) _).drew
end Go.Proofs.YtaonmhegnnpgaaaDoor
