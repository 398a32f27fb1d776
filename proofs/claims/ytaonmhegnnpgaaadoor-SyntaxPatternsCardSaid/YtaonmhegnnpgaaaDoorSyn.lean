/- Queries as plain data, and a reader of words as a plain function with fuel ('none': out of fuel). No condition. -/
import Init
namespace Go.Proofs.YtaonmhegnnpgaaaDoor

/-- A value: kind, truth, number, text, path. -/
structure Vl where
  kind : Int
  b : Bool
  n : Int
  text : ByteArray
  path : List Int

/-- An expression. -/
inductive Ex where
  | mk (op : Int) (kids : List Ex) (name : ByteArray) (prp : ByteArray) (val : Vl)

/-- A word. -/
structure Tok where
  kind : Int
  text : ByteArray
  num : Int
  pos : Int

structure NodeP where
  var : ByteArray
  label : ByteArray

structure EdgeP where
  var : ByteArray
  label : ByteArray
  back : Bool
  mode : Int
  least : Int
  most : Int

structure Pat where
  nodes : List NodeP
  edges : List EdgeP

structure ItemP where
  expr : Ex
  name : ByteArray

structure KeyP where
  name : ByteArray
  desc : Bool

structure Qry where
  pats : List Pat
  wher : List Ex
  distinct : Bool
  items : List ItemP
  keys : List KeyP
  limit : Int

def emp : ByteArray := ⟨#[]⟩
def vl0 : Vl := ⟨0, false, 0, emp, []⟩
def two (op : Int) (x y : Ex) : Ex := .mk op [x, y] emp emp vl0
def one (op : Int) (x : Ex) : Ex := .mk op [x] emp emp vl0
def lit (v : Vl) : Ex := .mk 1 [] emp emp v

/-- What a reader comes to: nothing (out of fuel), an error (place, number), or what it read and the words behind. -/
abbrev Res (α : Type) := Option (Except (Int × Int) (α × List Tok))
def Res.bind {α β : Type} (r : Res α) (f : α → List Tok → Res β) : Res β :=
  match r with
  | none => none
  | some (.error e) => some (.error e)
  | some (.ok (a, l)) => f a l
theorem Res.bind_ok {α β : Type} (a : α) (l : List Tok) (f : α → List Tok → Res β) : Res.bind (some (.ok (a, l))) f = f a l := rfl
theorem Res.bind_error {α β : Type} (p : Int × Int) (f : α → List Tok → Res β) : Res.bind (some (.error p) : Res α) f = some (.error p) := rfl
/-- What a bind comes to, its first part comes to something, too. -/
theorem Res.bind_some {α β : Type} {r : Res α} {f : α → List Tok → Res β} {x : Except (Int × Int) (β × List Tok)} (h : r.bind f = some x) : ∃ y, r = some y := by
  cases r with
  | none => cases h
  | some y => exact ⟨y, rfl⟩
def Res.ret {α : Type} (a : α) (l : List Tok) : Res α := some (.ok (a, l))

/-- Where the next word is. -/
def place (en : Int) : List Tok → Int
  | [] => en
  | t :: _ => t.pos
/-- The next word, as the reader tells it. -/
def nextT (en : Int) : List Tok → Tok
  | [] => ⟨0, emp, 0, en⟩
  | t :: _ => t
def stopR {α : Type} (en : Int) (L : List Tok) : Res α := some (.error (place en L, 81))
/-- Is the next word this key or sign? -/
def hasB (L : List Tok) (s : ByteArray) : Bool :=
  match L with
  | [] => false
  | t :: _ => (t.kind == 2 || t.kind == 5) && t.text.toList == s.toList
def after (L : List Tok) (b : Bool) : List Tok := if b then L.tail else L
def mustR (en : Int) (s : ByteArray) (L : List Tok) : Res Unit := if hasB L s then .ret () L.tail else stopR en L
def nameR (en : Int) (L : List Tok) : Res ByteArray :=
  match L with
  | [] => stopR en L
  | t :: L' => if t.kind = 1 then .ret t.text L' else stopR en L
/-- A name if one is next; behind a sign: it must be there. -/
def namedR (en : Int) (ahead : ByteArray) (L : List Tok) : Res ByteArray :=
  if ahead.toList.isEmpty then
    match L with
    | [] => .ret emp L
    | t :: _ => if t.kind = 1 then nameR en L else .ret emp L
  else if hasB L ahead then nameR en L.tail else .ret emp L
def numberR (en least most : Int) (L : List Tok) : Res Int :=
  match L with
  | [] => stopR en L
  | t :: L' => if t.kind = 3 ∧ least ≤ t.num ∧ t.num ≤ most then .ret t.num L' else stopR en L

/-- The grammar's words. -/
def sOR : ByteArray := ⟨#[79, 82]⟩
def sAND : ByteArray := ⟨#[65, 78, 68]⟩
def sNOT : ByteArray := ⟨#[78, 79, 84]⟩
def sIS : ByteArray := ⟨#[73, 83]⟩
def sNULL : ByteArray := ⟨#[78, 85, 76, 76]⟩
def sTRUE : ByteArray := ⟨#[84, 82, 85, 69]⟩
def sFALSE : ByteArray := ⟨#[70, 65, 76, 83, 69]⟩
def sLENGTH : ByteArray := ⟨#[76, 69, 78, 71, 84, 72]⟩
def sCOUNT : ByteArray := ⟨#[67, 79, 85, 78, 84]⟩
def sSUM : ByteArray := ⟨#[83, 85, 77]⟩
def sMIN : ByteArray := ⟨#[77, 73, 78]⟩
def sMAX : ByteArray := ⟨#[77, 65, 88]⟩
def sPlus : ByteArray := ⟨#[43]⟩
def sMinus : ByteArray := ⟨#[45]⟩
def sStar : ByteArray := ⟨#[42]⟩
def sSlash : ByteArray := ⟨#[47]⟩
def sPer : ByteArray := ⟨#[37]⟩
def sOpen : ByteArray := ⟨#[40]⟩
def sShut : ByteArray := ⟨#[41]⟩
def sDot : ByteArray := ⟨#[46]⟩
def sEq : ByteArray := ⟨#[61]⟩
def sNe : ByteArray := ⟨#[60, 62]⟩
def sLt : ByteArray := ⟨#[60]⟩
def sLe : ByteArray := ⟨#[60, 61]⟩
def sGt : ByteArray := ⟨#[62]⟩
def sGe : ByteArray := ⟨#[62, 61]⟩

/-- The rows of parts with signs between. -/
inductive RowK where
  | or | and | sum | prod

/-- What can be read. -/
inductive Nt where
  | expr | both | deny | test | sum | prod | minus | plain | within | call
  | rest (k : RowK) (x : Ex)

def RowK.part : RowK → Nt
  | .or => .both
  | .and => .deny
  | .sum => .prod
  | .prod => .minus
def RowK.signs : RowK → List (ByteArray × Int)
  | .or => [(sOR, 4)]
  | .and => [(sAND, 5)]
  | .sum => [(sPlus, 12), (sMinus, 13)]
  | .prod => [(sStar, 14), (sSlash, 15), (sPer, 16)]
/-- Which of some signs is next: its place among them. -/
def signAt : List (ByteArray × Int) → List Tok → Option Nat
  | [], _ => none
  | (s, _) :: l, L => if hasB L s then some 0 else (signAt l L).map (· + 1)
def tests : List (ByteArray × Int) := [(sEq, 6), (sNe, 7), (sLt, 8), (sLe, 9), (sGt, 10), (sGe, 11)]
def opAt (l : List (ByteArray × Int)) (i : Nat) : Int := (l.getD i (emp, 0)).2
def callOp (s : ByteArray) : Option Int :=
  if s.toList = sLENGTH.toList then some 21 else if s.toList = sCOUNT.toList then some 22 else if s.toList = sSUM.toList then some 23
  else if s.toList = sMIN.toList then some 24 else if s.toList = sMAX.toList then some 25 else none
/-- Is the word behind the next one a star? -/
def starB : List Tok → Bool
  | _ :: t :: _ => t.kind == 5 && t.text.toList == sStar.toList
  | _ => false
def deepR {α : Type} (pos d : Int) (f : Int → Res α) : Res α := if d + 1 > 50 then some (.error (pos, 82)) else f (d + 1)

def parse (en : Int) : Nat → Nt → Int → List Tok → Res Ex
  | 0, _, _, _ => none
  | n + 1, .expr, d, L => (parse en n (RowK.part .or) d L).bind fun x L => parse en n (.rest .or x) d L
  | n + 1, .both, d, L => (parse en n (RowK.part .and) d L).bind fun x L => parse en n (.rest .and x) d L
  | n + 1, .sum, d, L => (parse en n (RowK.part .sum) d L).bind fun x L => parse en n (.rest .sum x) d L
  | n + 1, .prod, d, L => (parse en n (RowK.part .prod) d L).bind fun x L => parse en n (.rest .prod x) d L
  | n + 1, .rest k x, d, L =>
    match signAt k.signs L with
    | none => .ret x L
    | some i => (parse en n k.part d L.tail).bind fun y L => parse en n (.rest k (two (opAt k.signs i) x y)) d L
  | n + 1, .deny, d, L =>
    if hasB L sNOT then (deepR (place en L) d fun d => parse en n .deny d L.tail).bind fun x L => .ret (one 17 x) L
    else parse en n .test d L
  | n + 1, .minus, d, L =>
    if hasB L sMinus then (deepR (place en L) d fun d => parse en n .minus d L.tail).bind fun x L => .ret (one 18 x) L
    else parse en n .plain d L
  | n + 1, .test, d, L =>
    (parse en n .sum d L).bind fun x L =>
      if hasB L sIS then
        (mustR en sNULL (after L.tail (hasB L.tail sNOT))).bind fun _ L' => .ret (one (if hasB L.tail sNOT then 20 else 19) x) L'
      else match signAt tests L with
        | none => .ret x L
        | some i => (parse en n .sum d L.tail).bind fun y L => .ret (two (opAt tests i) x y) L
  | n + 1, .within, d, L =>
    (mustR en sOpen L).bind fun _ L1 => (deepR (place en L) d fun d => parse en n .expr d L1).bind fun x L => (mustR en sShut L).bind fun _ L => .ret x L
  | n + 1, .plain, d, L =>
    let t := nextT en L
    if t.kind = 3 then .ret (lit ⟨2, false, t.num, emp, []⟩) L.tail
    else if t.kind = 4 then .ret (lit ⟨3, false, 0, t.text, []⟩) L.tail
    else if t.kind = 1 then
      if hasB L.tail sDot then (nameR en L.tail.tail).bind fun p L => .ret (.mk 3 [] t.text p vl0) L
      else .ret (.mk 2 [] t.text emp vl0) L.tail
    else if t.kind = 2 then
      if t.text.toList = sTRUE.toList ∨ t.text.toList = sFALSE.toList then .ret (lit ⟨1, decide (t.text.toList = sTRUE.toList), 0, emp, []⟩) L.tail
      else if t.text.toList = sNULL.toList then .ret (lit vl0) L.tail
      else parse en n .call d L
    else parse en n .within d L
  | n + 1, .call, d, L =>
    match callOp (nextT en L).text with
    | none => stopR en L
    | some op =>
      let L1 := L.tail
      if op ≠ 22 ∨ starB L1 = false then (parse en n .within d L1).bind fun x L => .ret (one op x) L
      else (mustR en sOpen L1).bind fun _ L2 =>
        (deepR (place en L1) d fun _ => (mustR en sStar L2).bind fun _ L3 => .ret (.mk 26 [] emp emp vl0) L3).bind fun x L => (mustR en sShut L).bind fun _ L => .ret x L
end Go.Proofs.YtaonmhegnnpgaaaDoor
