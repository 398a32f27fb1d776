/- What the rows' lists give: the tables that package lex reads; a witness's world; a row's last step. No condition. -/
import Derived.Test.YtaonmhegnnpgaaaDoorCards
import Derived.Test.YtaonmhegnnpgaaaDoorTie
import Derived.Test.YtaonmhegnnpgaaaDoorLexH
import Derived.WalkKit
import Derived.ProofKit
import Derived.OpenShut
import Derived.Deep.DeepHandedRow
import Derived.Lib.LaidTab
import Derived.Lib.LaidU8
import Derived.PinnedBridge
namespace Go.Proofs.YtaonmhegnnpgaaaDoor
open Go Go.ChangeShapes Go.WideShapes Go.ChangeAt Go.RowKit

/-- The list of all three rows. -/
def laidList : List (String × DataW Unit) := [("unicode/utf8.acceptRanges", Rows.laid_unicode_utf8_acceptRanges), ("portolan/lex.keys", Rows.laid_portolan_lex_keys), ("unicode/utf8.first", Rows.laid_unicode_utf8_first)]

theorem gKeys : Tryd.prog.globalNamed "portolan/lex.keys" = some 0 := by kernel_rfl
theorem gKeysType : (Tryd.prog.globals[0]?).map (·.type) = some 89 := by kernel_rfl
theorem cellsString : Tryd.prog.cellsOf 9 = 1 := by kernel_rfl
theorem acceptEq : (Rows.laid_unicode_utf8_acceptRanges : DataW Unit) = Lib.acceptData := by kernel_rfl
theorem keysEq : (Rows.laid_portolan_lex_keys : DataW Unit) = .agg (keysL.map fun l => .lit (.string l)) := by kernel_rfl
theorem firstEq : Rows.laid_unicode_utf8_first = Lib.firstData := Pinned.utf8First_eq

theorem utf8Extra : U8Extra Tryd.prog Tryd.lays260_ren where
  n3 := by kernel_rfl
  n4 := by kernel_rfl
  y3 := by kernel_rfl
  y4 := by kernel_rfl
  c5 := by kernel_rfl
  c119 := by kernel_rfl
  c138 := by kernel_rfl

theorem tabs_of_laid {W : World} (h : laidMetH Tryd.prog laidList W) : Tabs W := by
  have h0 : laidMet Tryd.prog laidList W := h
  have ha := Lib.laidMet.reads h0 (n := "unicode/utf8.acceptRanges") (d := Rows.laid_unicode_utf8_acceptRanges) (by simp [laidList])
  have hk := Lib.laidMet.reads h0 (n := "portolan/lex.keys") (d := Rows.laid_portolan_lex_keys) (by simp [laidList])
  have hf := Lib.laidMet.reads h0 (n := "unicode/utf8.first") (d := Rows.laid_unicode_utf8_first) (by simp [laidList])
  rw [acceptEq] at ha
  rw [firstEq] at hf
  rw [keysEq] at hk
  refine ⟨utf8Tabs_of_reads Tryd.lays260 utf8Extra hf ha, fun j hj => ?_⟩
  obtain ⟨g, t, cs, fuel, p, hg, hty, hvar, hd⟩ := hk
  obtain rfl := Option.some.inj (gKeys.symm.trans hg)
  obtain rfl := Option.some.inj (gKeysType.symm.trans hty)
  have hj' : j < 23 := hj
  obtain ⟨fuel', d, q, hdi, he⟩ := Lib.array_elem Tryd.underlying89 hd j hj'
  have hjl : j < keysL.length := hj'
  rw [List.getElem?_map, List.getElem?_eq_getElem hjl] at hdi
  simp only [Option.map_some, Option.some.injEq] at hdi
  subst hdi
  rw [cellsString] at he
  obtain ⟨s, hs, hx, _⟩ := DataW.trod_string Tryd.underlying9 he
  have e0 := congrArg (·[0]?) hs
  simp only [List.getElem?_take, List.getElem?_drop] at e0
  rw [Nat.zero_add, World.var?_cell gKeys hvar j, ← Array.getElem?_toList]
  have e1 : cs.toList[j]? = some (.string s) := by simpa using e0
  rw [e1]
  have e2 : s.data.toList = keysL[j] := by
    have := congrArg Prod.fst hx
    simpa using this.symm
  congr 2
  apply ByteArray.ext
  apply Array.toList_inj.1
  rw [e2]
  simp [keysB, List.getD_eq_getElem?_getD, hjl]

/-- A row's last step where all that stood stands. -/
theorem post_kept {H : Type} {enc : TypeId × Value → H} {P : Program} {f : Func} {s : ChangeSpec} {apart fresh handsOn again : Bool} {W W' : World} {args : Array Value} {v : Value} {ds gs : List (DataW H)} {before pa pv : List MemPlace}
    (hW : DataW.Whole enc P f.params.toList s.vars apart W args.toList ds gs before) (hb : Below W.heap.size W W') (hps : before = pa ++ pv)
    (hres : ∀ (b : Nat) (sp : Nat → Bool) (hd : Bool), DataW.TrodAll enc P W' b sp hd f.resultTypes.toList (v.resultList f.resultTypes.size) (s.fn H (ds ++ gs)).results [])
    (hargs : ∀ sp : Nat → Bool, (∀ p ∈ before, sp p.block = true) → DataW.TrodAll enc P W' 0 sp true f.params.toList args.toList (s.fn H (ds ++ gs)).args pa)
    (hvars : ∀ sp : Nat → Bool, (∀ p ∈ before, sp p.block = true) → DataW.TrodVars enc P W' sp s.vars (s.fn H (ds ++ gs)).vars pv)
    (hok : ∀ (j : Nat) (t : TypeId) (r : Value), f.resultTypes[j]? = some t → (v.resultList f.resultTypes.size)[j]? = some r → Value.okWide P W' .any 0 t r) :
    s.post enc P f apart fresh handsOn again W args v W' := by
  subst hps
  have lt : ∀ p ∈ pa ++ pv, p.block < W.heap.size := fun p hp => hW.lt p hp
  have old : ∀ p ∈ pa ++ pv, (fun b => decide (b < W.heap.size)) p.block = true := fun p hp => decide_eq_true (lt p hp)
  refine ⟨ds, gs, pa ++ pv, [], pa, pv, hW, hres _ _ _, hargs _ old, hvars _ old, ?_, fun _ => ?_⟩
  · exact World.keptBut_mono (fun p hp => ⟨hp, .inr (List.mem_append.1 hp)⟩) (hb.frame (· ∈ pa ++ pv))
  · obtain ⟨_, _, _, _, _, hz, hn⟩ := hW
    refine ⟨hok, _, _, ([] ++ pa) ++ pv, ⟨[] ++ pa, pv, trodAll_append (hargs _ fun _ _ => rfl) (hres _ _ _), hvars _ fun _ _ => rfl, rfl, fun b off hp => ?_, fun ha => ?_⟩, fun p hp _ => ?_⟩
    · have hin : MemPlace.cell b off ∈ pa ++ pv := by simpa using hp
      rw [hb.frozen (lt _ hin)]
      exact hz b off hin
    · simpa using hn ha
    · simpa using hp

/-- A block's cells laid anew. -/
def layCells (cs : Array Value) : Obj → Obj
  | .cells _ t frozen => .cells cs t frozen
  | o => o
/-- A world for a witness: the settled one, the three tables as their initialisers lay them. -/
noncomputable def laidWorld (os : Os) : World :=
  { World.holding Tryd.prog os ⟨#[], #[], []⟩ with heap := (((World.holding Tryd.prog os ⟨#[], #[], []⟩).heap.modify 0 (layCells (keysB.map Value.string).toArray)).modify 1
      (layCells (Lib.firstTab.map (Value.int .u8)).toArray)).modify 2 (layCells ((List.range 16).flatMap fun i => [Value.int .u8 (Lib.accLo i), Value.int .u8 (Lib.accHi i)]).toArray) }
theorem laid_met (os : Os) (args : Array Value) : laidMet Tryd.prog laidList ((laidWorld os).forCall (fun _ _ => 0) ⟨#[], args, []⟩).memory :=
  laidMet_of_run' 8 (by kernel_rfl) (by kernel_rfl)
end Go.Proofs.YtaonmhegnnpgaaaDoor
