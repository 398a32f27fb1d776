/- How a query's plain data lie in memory. No condition. -/
import Derived.Test.YtaonmhegnnpgaaaDoorBase
import Derived.Test.YtaonmhegnnpgaaaDoorSyn
namespace Go.Proofs.YtaonmhegnnpgaaaDoor
open Go Go.RowKit

def RepV (w : World) (S : Nat → Prop) (v : Vl) (cs : List Value) : Prop :=
  ∃ a c, cs = [.int .i64 v.kind, .bool v.b, .int .i64 v.n, .string v.text, .slice a v.path.length c] ∧ CellsAt w S a (v.path.map (Value.int .i64))

mutual
def RepE (w : World) (S : Nat → Prop) : Ex → List Value → Prop
  | .mk op kids name prp val, cs => ∃ a c ks vc, cs = .int .i64 op :: .slice a kids.length c :: .string name :: .string prp :: vc ∧ RepV w S val vc ∧ CellsAt w S a ks ∧ RepEs w S kids ks
def RepEs (w : World) (S : Nat → Prop) : List Ex → List Value → Prop
  | [], ks => ks = []
  | x :: xs, ks => ∃ c1 c2, ks = c1 ++ c2 ∧ RepE w S x c1 ∧ RepEs w S xs c2
end

theorem RepV.same {w w' : World} {S : Nat → Prop} {v : Vl} {cs : List Value} (h : RepV w S v cs) (hs : Same S w w') : RepV w' S v cs := by
  obtain ⟨a, c, h1, h2⟩ := h
  exact ⟨a, c, h1, h2.same hs⟩
theorem RepV.mono {w : World} {S S' : Nat → Prop} {v : Vl} {cs : List Value} (h : RepV w S v cs) (hB : ∀ b, S b → b < w.heap.size → S' b) : RepV w S' v cs := by
  obtain ⟨a, c, h1, h2⟩ := h
  exact ⟨a, c, h1, h2.mono hB⟩
theorem RepV.flat (w : World) (S : Nat → Prop) (k : Int) (b : Bool) (n : Int) (t : ByteArray) (a : Option Addr) (c : Nat) :
    RepV w S ⟨k, b, n, t, []⟩ [.int .i64 k, .bool b, .int .i64 n, .string t, .slice a 0 c] := ⟨a, c, rfl, .nil_⟩

mutual
theorem RepE.same {w w' : World} {S : Nat → Prop} (hs : Same S w w') : ∀ {x : Ex} {cs : List Value}, RepE w S x cs → RepE w' S x cs
  | .mk _ _ _ _ _, _, ⟨a, c, ks, vc, h1, h2, h3, h4⟩ => ⟨a, c, ks, vc, h1, h2.same hs, h3.same hs, RepEs.same hs h4⟩
theorem RepEs.same {w w' : World} {S : Nat → Prop} (hs : Same S w w') : ∀ {xs : List Ex} {cs : List Value}, RepEs w S xs cs → RepEs w' S xs cs
  | [], _, h => h
  | _ :: _, _, ⟨c1, c2, h1, h2, h3⟩ => ⟨c1, c2, h1, RepE.same hs h2, RepEs.same hs h3⟩
end
mutual
theorem RepE.mono {w : World} {S S' : Nat → Prop} (hB : ∀ b, S b → b < w.heap.size → S' b) : ∀ {x : Ex} {cs : List Value}, RepE w S x cs → RepE w S' x cs
  | .mk _ _ _ _ _, _, ⟨a, c, ks, vc, h1, h2, h3, h4⟩ => ⟨a, c, ks, vc, h1, h2.mono hB, h3.mono hB, RepEs.mono hB h4⟩
theorem RepEs.mono {w : World} {S S' : Nat → Prop} (hB : ∀ b, S b → b < w.heap.size → S' b) : ∀ {xs : List Ex} {cs : List Value}, RepEs w S xs cs → RepEs w S' xs cs
  | [], _, h => h
  | _ :: _, _, ⟨c1, c2, h1, h2, h3⟩ => ⟨c1, c2, h1, RepE.mono hB h2, RepEs.mono hB h3⟩
end

/-- An expression's nine cells. -/
theorem RepE.nine {w : World} {S : Nat → Prop} {x : Ex} {cs : List Value} (h : RepE w S x cs) :
    ∃ op a n c nm pr k b m t pa pn pc, cs = [.int .i64 op, .slice a n c, .string nm, .string pr, .int .i64 k, .bool b, .int .i64 m, .string t, .slice pa pn pc] := by
  cases x with
  | mk op kids name prp val =>
    obtain ⟨a, c, ks, vc, rfl, ⟨pa, pc, rfl, _⟩, _, _⟩ := h
    exact ⟨op, a, kids.length, c, name, prp, _, _, _, _, pa, _, pc, rfl⟩
theorem RepEs.one {w : World} {S : Nat → Prop} {x : Ex} {cs : List Value} (h : RepE w S x cs) : RepEs w S [x] cs := ⟨cs, [], by simp, h, rfl⟩
theorem RepEs.two {w : World} {S : Nat → Prop} {x y : Ex} {cs ds : List Value} (h : RepE w S x cs) (k : RepE w S y ds) : RepEs w S [x, y] (cs ++ ds) := ⟨cs, ds, rfl, h, RepEs.one k⟩

/-- Words in memory. -/
def tokCells (t : Tok) : List Value := [.int .i64 t.kind, .string t.text, .int .i64 t.num, .int .i64 t.pos]
def Toks (w : World) (a : Option Addr) (L : List Tok) : Prop := CellsAt w (fun _ => True) a (L.flatMap tokCells)
end Go.Proofs.YtaonmhegnnpgaaaDoor
