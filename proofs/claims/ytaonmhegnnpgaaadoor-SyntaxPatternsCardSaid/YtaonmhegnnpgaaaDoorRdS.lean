/- A query's parts as a plain reader reads them, and how they lie in memory. No condition. -/
import Derived.Test.YtaonmhegnnpgaaaDoorRdR
namespace Go.Proofs.YtaonmhegnnpgaaaDoor
open Go Go.RowKit

def sColon : ByteArray := ⟨#[58]⟩
def sComma : ByteArray := ⟨#[44]⟩
def sSqO : ByteArray := ⟨#[91]⟩
def sSqC : ByteArray := ⟨#[93]⟩
def sDots : ByteArray := ⟨#[46, 46]⟩
def sSHORTEST : ByteArray := ⟨#[83, 72, 79, 82, 84, 69, 83, 84]⟩
def sMATCH : ByteArray := ⟨#[77, 65, 84, 67, 72]⟩
def sWHERE : ByteArray := ⟨#[87, 72, 69, 82, 69]⟩
def sRETURN : ByteArray := ⟨#[82, 69, 84, 85, 82, 78]⟩
def sDISTINCT : ByteArray := ⟨#[68, 73, 83, 84, 73, 78, 67, 84]⟩
def sORDER : ByteArray := ⟨#[79, 82, 68, 69, 82]⟩
def sBY : ByteArray := ⟨#[66, 89]⟩
def sASC : ByteArray := ⟨#[65, 83, 67]⟩
def sDESC : ByteArray := ⟨#[68, 69, 83, 67]⟩
def sLIMIT : ByteArray := ⟨#[76, 73, 77, 73, 84]⟩
def sAS : ByteArray := ⟨#[65, 83]⟩

def nodeR (en : Int) (L : List Tok) : Res NodeP :=
  (mustR en sOpen L).bind fun _ L => (namedR en emp L).bind fun v L => (namedR en sColon L).bind fun l L => (mustR en sShut L).bind fun _ L => .ret ⟨v, l⟩ L
/-- An edge's way: how, at least, at most. -/
def wayR (en : Int) (L : List Tok) : Res (Int × Int × Int) :=
  if hasB L sStar then
    if hasB L.tail sSHORTEST then (numberR en 1 8 L.tail.tail).bind fun m L => .ret (2, 0, m) L
    else (numberR en 0 8 L.tail).bind fun a L => (mustR en sDots L).bind fun _ L => (numberR en a 8 L).bind fun b L => .ret (1, a, b) L
  else .ret (0, 0, 0) L
def edgeR (en : Int) (back : Bool) (L : List Tok) : Res EdgeP :=
  (if back then mustR en sMinus L else .ret () L).bind fun _ L => (mustR en sSqO L).bind fun _ L => (namedR en emp L).bind fun v L => (namedR en sColon L).bind fun l L =>
    (wayR en L).bind fun m L => (mustsR en [sSqC, sMinus] L).bind fun _ L => (if back then .ret () L else mustR en sGt L).bind fun _ L => .ret ⟨v, l, back, m.1, m.2.1, m.2.2⟩ L
/-- A pattern behind some nodes and edges. -/
def moreR (en : Int) : Nat → List NodeP → List EdgeP → List Tok → Res Pat
  | 0, _, _, _ => none
  | n + 1, ns, es, L =>
    if hasB L sLt || hasB L sMinus then (edgeR en (hasB L sLt) L.tail).bind fun e L => (nodeR en L).bind fun x L => moreR en n (ns ++ [x]) (es ++ [e]) L
    else .ret ⟨ns, es⟩ L
def patR (en : Int) (n : Nat) (L : List Tok) : Res Pat := (nodeR en L).bind fun x L => moreR en n [x] [] L
/-- Things with commas between, behind some. -/
def commasR {α : Type} (f : List Tok → Res α) : Nat → List α → List Tok → Res (List α)
  | 0, _, _ => none
  | n + 1, l, L => if hasB L sComma then (f L.tail).bind fun x L => commasR f n (l ++ [x]) L else .ret l L
def listR {α : Type} (f : List Tok → Res α) (n : Nat) (L : List Tok) : Res (List α) := (f L).bind fun x L => commasR f n [x] L
def itemR (en : Int) (n : Nat) (L : List Tok) : Res ItemP := (parse en n .expr 0 L).bind fun x L => (namedR en sAS L).bind fun nm L => .ret ⟨x, nm⟩ L
def keyR (en : Int) (L : List Tok) : Res KeyP :=
  (nameR en L).bind fun nm L => if hasB L sDESC then .ret ⟨nm, true⟩ L.tail else .ret ⟨nm, false⟩ (after L (hasB L sASC))
def whereR (en : Int) (n : Nat) (L : List Tok) : Res (List Ex) := if hasB L sWHERE then (parse en n .expr 0 L.tail).bind fun x L => .ret [x] L else .ret [] L
def orderR (en : Int) (n : Nat) (L : List Tok) : Res (List KeyP) := if hasB L sORDER then (mustR en sBY L.tail).bind fun _ L => listR (keyR en) n L else .ret [] L
def limitR (en : Int) (L : List Tok) : Res Int := if hasB L sLIMIT then numberR en 0 1099511627776 L.tail else .ret (-1) L
def queryR (en : Int) (n : Nat) (L : List Tok) : Res Qry :=
  (mustR en sMATCH L).bind fun _ L => (listR (patR en n) n L).bind fun ps L => (whereR en n L).bind fun wh L => (mustR en sRETURN L).bind fun _ L =>
    (listR (itemR en n) n (after L (hasB L sDISTINCT))).bind fun is L' => (orderR en n L').bind fun ks L' => (limitR en L').bind fun m L' => .ret ⟨ps, wh, hasB L sDISTINCT, is, ks, m⟩ L'

/-- Things that lie one behind the other. -/
def Reps {α : Type} (R : α → List Value → Prop) : List α → List Value → Prop
  | [], ks => ks = []
  | x :: xs, ks => ∃ c1 c2, ks = c1 ++ c2 ∧ R x c1 ∧ Reps R xs c2
theorem Reps.imp {α : Type} {R R' : α → List Value → Prop} (h : ∀ x cs, R x cs → R' x cs) : ∀ {xs : List α} {cs : List Value}, Reps R xs cs → Reps R' xs cs
  | [], _, h0 => h0
  | _ :: _, _, ⟨c1, c2, h1, h2, h3⟩ => ⟨c1, c2, h1, h _ _ h2, Reps.imp h h3⟩
theorem Reps.append {α : Type} {R : α → List Value → Prop} : ∀ {xs ys : List α} {cs ds : List Value}, Reps R xs cs → Reps R ys ds → Reps R (xs ++ ys) (cs ++ ds)
  | [], _, _, _, h0, h => by cases h0; exact h
  | _ :: _, _, _, _, ⟨c1, c2, h1, h2, h3⟩, h => ⟨c1, c2 ++ _, by rw [h1, List.append_assoc], h2, Reps.append h3 h⟩
theorem Reps.one {α : Type} {R : α → List Value → Prop} {x : α} {cs : List Value} (h : R x cs) : Reps R [x] cs := ⟨cs, [], by simp, h, rfl⟩
theorem Reps.of_es {w : World} {S : Nat → Prop} : ∀ {xs : List Ex} {cs : List Value}, RepEs w S xs cs ↔ Reps (RepE w S) xs cs
  | [], _ => Iff.rfl
  | _ :: _, _ => ⟨fun ⟨c1, c2, h1, h2, h3⟩ => ⟨c1, c2, h1, h2, Reps.of_es.1 h3⟩, fun ⟨c1, c2, h1, h2, h3⟩ => ⟨c1, c2, h1, h2, Reps.of_es.2 h3⟩⟩

/-- How a thing of some kind lies in memory; what that asks of the world stands in the blocks of S. -/
structure Lay (α : Type) where
  R : World → (Nat → Prop) → α → List Value → Prop
  n : Nat
  size : ∀ {w S x cs}, R w S x cs → cs.length = n
  same : ∀ {w w' S x cs}, Same S w w' → R w S x cs → R w' S x cs
  mono : ∀ {w S S' x cs}, (∀ b, S b → b < w.heap.size → S' b) → R w S x cs → R w S' x cs
  cells : ∀ {w S x cs}, R w S x cs → ∀ u ∈ cs, u.oneCell' = true

theorem Reps.size {α : Type} {R : α → List Value → Prop} {n : Nat} (h : ∀ x cs, R x cs → cs.length = n) : ∀ {xs : List α} {cs : List Value}, Reps R xs cs → cs.length = xs.length * n
  | [], _, h0 => by cases h0; simp
  | _ :: _, _, ⟨c1, c2, h1, h2, h3⟩ => by rw [h1, List.length_append, h _ _ h2, Reps.size h h3, List.length_cons]; simp [Nat.add_mul, Nat.add_comm]

def layNode : Lay NodeP where
  R _ _ x cs := cs = [.string x.var, .string x.label]
  n := 2
  size h := by subst h; rfl
  same _ h := h
  mono _ h := h
  cells h := by subst h; simp [Value.oneCell']
def layEdge : Lay EdgeP where
  R _ _ x cs := cs = [.string x.var, .string x.label, .bool x.back, .int .i64 x.mode, .int .i64 x.least, .int .i64 x.most]
  n := 6
  size h := by subst h; rfl
  same _ h := h
  mono _ h := h
  cells h := by subst h; simp [Value.oneCell']
def layKey : Lay KeyP where
  R _ _ x cs := cs = [.string x.name, .bool x.desc]
  n := 2
  size h := by subst h; rfl
  same _ h := h
  mono _ h := h
  cells h := by subst h; simp [Value.oneCell']
/-- A slice of things. -/
def RepS {α : Type} (Y : Lay α) (w : World) (S : Nat → Prop) (xs : List α) (v : Value) : Prop :=
  ∃ a c cs, v = .slice a xs.length c ∧ CellsAt w S a cs ∧ Reps (Y.R w S) xs cs
theorem RepS.same {α : Type} {Y : Lay α} {w w' : World} {S : Nat → Prop} {xs : List α} {v : Value} (hs : Same S w w') (h : RepS Y w S xs v) : RepS Y w' S xs v := by
  obtain ⟨a, c, cs, h1, h2, h3⟩ := h
  exact ⟨a, c, cs, h1, h2.same hs, h3.imp fun _ _ => Y.same hs⟩
theorem RepS.mono {α : Type} {Y : Lay α} {w : World} {S S' : Nat → Prop} {xs : List α} {v : Value} (hS : ∀ b, S b → b < w.heap.size → S' b) (h : RepS Y w S xs v) : RepS Y w S' xs v := by
  obtain ⟨a, c, cs, h1, h2, h3⟩ := h
  exact ⟨a, c, cs, h1, h2.mono hS, h3.imp fun _ _ => Y.mono hS⟩
theorem RepS.nil_ {α : Type} {Y : Lay α} {w : World} {S : Nat → Prop} : RepS Y w S [] (.slice none 0 0) := ⟨none, 0, [], rfl, .nil_, rfl⟩
def layExpr : Lay Ex where
  R w S x cs := RepE w S x cs
  n := 9
  size h := by obtain ⟨op, a, n, c, nm, pr, k, b, m, t, pa, pn, pc, rfl⟩ := h.nine; rfl
  same hs h := RepE.same hs h
  mono hS h := RepE.mono hS h
  cells h := by obtain ⟨op, a, n, c, nm, pr, k, b, m, t, pa, pn, pc, rfl⟩ := h.nine; simp [Value.oneCell']
def layItem : Lay ItemP where
  R w S x cs := ∃ ds, cs = ds ++ [.string x.name] ∧ RepE w S x.expr ds
  n := 10
  size h := by obtain ⟨ds, rfl, h⟩ := h; obtain ⟨op, a, n, c, nm, pr, k, b, m, t, pa, pn, pc, rfl⟩ := h.nine; rfl
  same hs h := by obtain ⟨ds, h1, h2⟩ := h; exact ⟨ds, h1, RepE.same hs h2⟩
  mono hS h := by obtain ⟨ds, h1, h2⟩ := h; exact ⟨ds, h1, RepE.mono hS h2⟩
  cells h := by obtain ⟨ds, rfl, h⟩ := h; obtain ⟨op, a, n, c, nm, pr, k, b, m, t, pa, pn, pc, rfl⟩ := h.nine; simp [Value.oneCell']
def layPat : Lay Pat where
  R w S x cs := ∃ v u, cs = [v, u] ∧ RepS layNode w S x.nodes v ∧ RepS layEdge w S x.edges u
  n := 2
  size h := by obtain ⟨v, u, rfl, _, _⟩ := h; rfl
  same hs h := by obtain ⟨v, u, h1, h2, h3⟩ := h; exact ⟨v, u, h1, h2.same hs, h3.same hs⟩
  mono hS h := by obtain ⟨v, u, h1, h2, h3⟩ := h; exact ⟨v, u, h1, h2.mono hS, h3.mono hS⟩
  cells h := by obtain ⟨v, u, rfl, ⟨a, c, cs, rfl, _⟩, ⟨a', c', cs', rfl, _⟩⟩ := h; simp [Value.oneCell']
/-- A query's six cells. -/
def RepQ (w : World) (S : Nat → Prop) (q : Qry) (cs : List Value) : Prop :=
  ∃ v0 v1 v3 v4, cs = [v0, v1, .bool q.distinct, v3, v4, .int .i64 q.limit] ∧ RepS layPat w S q.pats v0 ∧ RepS layExpr w S q.wher v1 ∧ RepS layItem w S q.items v3 ∧ RepS layKey w S q.keys v4
theorem RepQ.same {w w' : World} {S : Nat → Prop} {q : Qry} {cs : List Value} (hs : Same S w w') (h : RepQ w S q cs) : RepQ w' S q cs := by
  obtain ⟨v0, v1, v3, v4, h1, h2, h3, h4, h5⟩ := h
  exact ⟨v0, v1, v3, v4, h1, h2.same hs, h3.same hs, h4.same hs, h5.same hs⟩
theorem RepQ.mono {w : World} {S S' : Nat → Prop} {q : Qry} {cs : List Value} (hS : ∀ b, S b → b < w.heap.size → S' b) (h : RepQ w S q cs) : RepQ w S' q cs := by
  obtain ⟨v0, v1, v3, v4, h1, h2, h3, h4, h5⟩ := h
  exact ⟨v0, v1, v3, v4, h1, h2.mono hS, h3.mono hS, h4.mono hS, h5.mono hS⟩

/-- What a method hands back that reads one of these: all of it in new blocks. -/
def LVal {α : Type} (Y : Lay α) (lo : Nat) (x : α) (v : Value) (w : World) : Prop := ∃ cs : List Value, v = .agg cs.toArray ∧ Y.R w (From lo) x cs
def SVal {α : Type} (Y : Lay α) (lo : Nat) (xs : List α) (v : Value) (w : World) : Prop := RepS Y w (From lo) xs v
end Go.Proofs.YtaonmhegnnpgaaaDoor
