/- The map of the functions' names: what stands in it, and what a look-up gives. No condition. -/
import Derived.Test.YtaonmhegnnpgaaaDoorRdO
import Derived.Maps.Own
import Derived.Laws.StructEq
namespace Go.Proofs.YtaonmhegnnpgaaaDoor
open Go Go.RowKit

theorem run_put {P : Program} {w : World} {t k e : TypeId} {b c : Nat} {es : Array MapEntry} (s : ByteArray) (v : Value) (ht : P.underlying t = some (.map k e)) (hk : P.underlying k = some .string)
    (hb : w.heap[b]? = some (.map es c)) (hf : Instr.findNow .string (.string s) es.toList 0 = some none) :
    ∃ w', (Instr.mapUpdate t (.map (some b)) (.string s) v).run P w = .ok () w' ∧ w'.heap[b]? = some (.map (es.push ⟨.string s, v, c⟩) (c + 1)) ∧ w.grownBy w' (some b) := by
  have hkey : MapKept.IsKey .string (.string s) := trivial
  refine ⟨ChangeMaps.setBlock w b (.map (es.push ⟨.string s, v, c⟩) (c + 1)), ?_, ChangeMaps.heap_setBlock_same hb _, ⟨rfl, rfl, rfl, by simp [ChangeMaps.setBlock], fun i _ hi => ChangeMaps.heap_setBlock_other hb _ (fun e => hi (by rw [e]))⟩⟩
  simp [Instr.mapUpdate, run_underlying ht, MapKept.run_getObj_map hb, MapKept.run_checkKey hk hkey, MapKept.run_findKey hk hf, MapKept.run_setObj_map _ hb, Result.andThen, ChangeMaps.setBlock]

theorem run_find {P : Program} {w : World} {t k e : TypeId} {b c : Nat} {es : Array MapEntry} {z : Value} (s : ByteArray) (ht : P.underlying t = some (.map k e)) (hk : P.underlying k = some .string) (hz : (zeroValue e).run P w = .ok z w)
    (hb : w.heap[b]? = some (.map es c)) {r : Option (Nat × Value)} (hf : Instr.findNow .string (.string s) es.toList 0 = some r) :
    (Instr.lookup t (.map (some b)) (.string s) true).run P w = .ok (.tuple #[(r.map (·.2)).getD z, .bool r.isSome]) w := by
  have hkey : MapKept.IsKey .string (.string s) := trivial
  cases r with
  | none => simp [Instr.lookup, run_underlying ht, MapKept.run_getObj_map hb, MapKept.run_checkKey hk hkey, MapKept.run_findKey hk hf, Result.andThen, hz]
  | some r => obtain ⟨i, v⟩ := r; simp [Instr.lookup, run_underlying ht, MapKept.run_getObj_map hb, MapKept.run_checkKey hk hkey, MapKept.run_findKey hk hf, Result.andThen]

def callMap : Array MapEntry := #[⟨.string sLENGTH, .int .i64 21, 0⟩, ⟨.string sCOUNT, .int .i64 22, 1⟩, ⟨.string sSUM, .int .i64 23, 2⟩, ⟨.string sMIN, .int .i64 24, 3⟩, ⟨.string sMAX, .int .i64 25, 4⟩]

theorem five_puts (w : World) (b : Nat) (hb : w.heap[b]? = some (.map #[] 0)) : ∃ w1 w2 w3 w4 w5,
    (Instr.mapUpdate 139 (.map (some b)) (.string ⟨#[76, 69, 78, 71, 84, 72]⟩) (.int .i64 21)).run Tryd.prog w = .ok () w1 ∧
    (Instr.mapUpdate 139 (.map (some b)) (.string ⟨#[67, 79, 85, 78, 84]⟩) (.int .i64 22)).run Tryd.prog w1 = .ok () w2 ∧
    (Instr.mapUpdate 139 (.map (some b)) (.string ⟨#[83, 85, 77]⟩) (.int .i64 23)).run Tryd.prog w2 = .ok () w3 ∧
    (Instr.mapUpdate 139 (.map (some b)) (.string ⟨#[77, 73, 78]⟩) (.int .i64 24)).run Tryd.prog w3 = .ok () w4 ∧
    (Instr.mapUpdate 139 (.map (some b)) (.string ⟨#[77, 65, 88]⟩) (.int .i64 25)).run Tryd.prog w4 = .ok () w5 ∧
    w5.heap[b]? = some (.map callMap 5) ∧ w.grownBy w5 (some b) := by
  obtain ⟨w1, e1, b1, g1⟩ := run_put (P := Tryd.prog) sLENGTH (.int .i64 21) Tryd.underlying139 Tryd.underlying9 hb rfl
  obtain ⟨w2, e2, b2, g2⟩ := run_put (P := Tryd.prog) sCOUNT (.int .i64 22) Tryd.underlying139 Tryd.underlying9 b1 (by rfl)
  obtain ⟨w3, e3, b3, g3⟩ := run_put (P := Tryd.prog) sSUM (.int .i64 23) Tryd.underlying139 Tryd.underlying9 b2 (by rfl)
  obtain ⟨w4, e4, b4, g4⟩ := run_put (P := Tryd.prog) sMIN (.int .i64 24) Tryd.underlying139 Tryd.underlying9 b3 (by rfl)
  obtain ⟨w5, e5, b5, g5⟩ := run_put (P := Tryd.prog) sMAX (.int .i64 25) Tryd.underlying139 Tryd.underlying9 b4 (by rfl)
  exact ⟨w1, w2, w3, w4, w5, e1, e2, e3, e4, e5, b5, (((g1.trans g2).trans g3).trans g4).trans g5⟩

theorem find_call (w : World) (b : Nat) (s : ByteArray) (hb : w.heap[b]? = some (.map callMap 5)) :
    (Instr.lookup 139 (.map (some b)) (.string s) true).run Tryd.prog w = .ok (.tuple #[.int .i64 ((callOp s).getD 0), .bool (callOp s).isSome]) w := by
  have hz : (zeroValue 51).run Tryd.prog w = .ok (.int .i64 0) w := by kernel_rfl
  have hf : Instr.findNow .string (.string s) callMap.toList 0 = some ((callOp s).map fun n => ((n - 21).toNat, Value.int .i64 n)) := by
    have e1 := beq_toListBytes s sLENGTH
    have e2 := beq_toListBytes s sCOUNT
    have e3 := beq_toListBytes s sSUM
    have e4 := beq_toListBytes s sMIN
    have e5 := beq_toListBytes s sMAX
    unfold callOp
    generalize s.toList = l at *
    by_cases h1 : l = sLENGTH.toList
    · have : (s == sLENGTH) = true := by rw [e1, h1]; simp
      simp [h1, callMap, Instr.findNow, Instr.sameNow, this]
    have f1 : (s == sLENGTH) = false := by rw [e1]; simpa using h1
    by_cases h2 : l = sCOUNT.toList
    · have : (s == sCOUNT) = true := by rw [e2, h2]; simp
      rw [if_neg h1]
      simp [h2, callMap, Instr.findNow, Instr.sameNow, this, f1]
    have f2 : (s == sCOUNT) = false := by rw [e2]; simpa using h2
    by_cases h3 : l = sSUM.toList
    · have : (s == sSUM) = true := by rw [e3, h3]; simp
      rw [if_neg h1, if_neg h2]
      simp [h3, callMap, Instr.findNow, Instr.sameNow, this, f1, f2]
    have f3 : (s == sSUM) = false := by rw [e3]; simpa using h3
    by_cases h4 : l = sMIN.toList
    · have : (s == sMIN) = true := by rw [e4, h4]; simp
      rw [if_neg h1, if_neg h2, if_neg h3]
      simp [h4, callMap, Instr.findNow, Instr.sameNow, this, f1, f2, f3]
    have f4 : (s == sMIN) = false := by rw [e4]; simpa using h4
    by_cases h5 : l = sMAX.toList
    · have : (s == sMAX) = true := by rw [e5, h5]; simp
      rw [if_neg h1, if_neg h2, if_neg h3, if_neg h4]
      simp [h5, callMap, Instr.findNow, Instr.sameNow, this, f1, f2, f3, f4]
    have f5 : (s == sMAX) = false := by rw [e5]; simpa using h5
    simp [h1, h2, h3, h4, h5, callMap, Instr.findNow, Instr.sameNow, f1, f2, f3, f4, f5]
  rw [run_find s Tryd.underlying139 Tryd.underlying9 hz hb hf]
  cases callOp s <;> simp
end Go.Proofs.YtaonmhegnnpgaaaDoor
