/- read by its plain function. Condition: the tables are laid. -/
import Derived.Test.YtaonmhegnnpgaaaDoorRea
import Derived.Test.YtaonmhegnnpgaaaDoorLexI
namespace Go.Proofs.YtaonmhegnnpgaaaDoor
open Go Go.RowKit

theorem bodyPostD_done {P : Program} {fn : Func} {R : Ending → World → Prop} {T : Array Value} {w : World} (v : Value) (hr : (results fn T).run P w = .ok v w) (h : R (.returned v) w) :
    bodyPostD P fn R .ret { tmps := T, defers := [] } w := ⟨v, hr, h⟩
theorem toks_far {w : World} {a : Option Addr} {L : List Tok} {b i : Nat} {u : Value} (h : Toks w a L) (hb : ∀ ad, a = some ad → ¬ ad.block = b) : Toks (w.setCell ⟨b, i, none⟩ u) a L := by
  rcases h with h | ⟨ad, rfl, _, hc⟩
  · exact .inl h
  · refine .inr ⟨ad, rfl, trivial, fun j v hv => ?_⟩
    have h1 := hc j v hv
    rw [World.cell?_setCell_other]
    · exact h1
    · intro e
      have := congrArg Addr.block e
      rw [block_of_add] at this
      exact hb ad rfl this.symm
theorem toks_alloc {w : World} {a : Option Addr} {L : List Tok} (h : Toks w a L) (o : Obj) : Toks (w.alloc o) a L := by
  rcases h with h | ⟨ad, rfl, _, hc⟩
  · exact .inl h
  · exact .inr ⟨ad, rfl, trivial, fun j v hv => (World.cell?_alloc_lt w o _ (lt_of_cell (hc j v hv))).trans (hc j v hv)⟩
/-- A text read wholly. -/
def readR {α : Type} (f : Int → List Tok → Res α) (l : List UInt8) : Option (Except (Int × Int) α) :=
  match lexL l with
  | .error e => some (.error e)
  | .ok L =>
    match f l.length L with
    | none => none
    | some (.error p) => some (.error p)
    | some (.ok (a, [])) => some (.ok a)
    | some (.ok (_, t :: _)) => some (.error (t.pos, 81))

/-- What stands behind the three results of read: their blocks, the words. -/
structure ReadIn (w W : World) (T : TypeId) (z : List Value) : Prop where
  q : Blk W w.heap.size T z
  p : Blk W (w.heap.size + 1) 3 [.int .i64 0]
  e : Blk W (w.heap.size + 1 + 1) 25 [.int .i64 0]
  below : Below w.heap.size w W
  size : w.heap.size + 3 ≤ W.heap.size
theorem readIn (w : World) (T : TypeId) (z : List Value) : ReadIn w (((w.alloc (.cells z.toArray T)).alloc (.cells #[.int .i64 0] 3)).alloc (.cells #[.int .i64 0] 25)) T z := by
  refine ⟨((Blk.new w T z).alloc _).alloc _, ?_, ?_, (((Below.refl _ _).alloc (Nat.le_refl _) _).alloc (by simp) _).alloc (by simp; omega) _, by simp⟩
  · have := (Blk.new (w.alloc (.cells z.toArray T)) 3 [.int .i64 0]).alloc (.cells #[.int .i64 0] 25)
    simpa using this
  · have := Blk.new ((w.alloc (.cells z.toArray T)).alloc (.cells #[.int .i64 0] 3)) 25 [.int .i64 0]
    simpa using this
theorem ReadIn.call {w W W' : World} {T : TypeId} {z : List Value} (h : ReadIn w W T z) (hb : Below W.heap.size W W') : ReadIn w W' T z :=
  ⟨h.q.below hb h.q.lt, h.p.below hb h.p.lt, h.e.below hb h.e.lt, h.below.trans (hb.mono h.below.size), Nat.le_trans h.size hb.size⟩

def zeroQ : List Value := [.slice none 0 0, .slice none 0 0, .bool false, .slice none 0 0, .slice none 0 0, .int .i64 0]
def ReadQ (r : Except (Int × Int) Qry) (w : World) (e : Ending) (w' : World) : Prop :=
  Below w.heap.size w w' ∧ match r with
  | .error (p, c) => e = .returned (.tuple #[.agg zeroQ.toArray, .int .i64 p, .int .i64 c])
  | .ok q => ∃ cs : List Value, e = .returned (.tuple #[.agg cs.toArray, .int .i64 0, .int .i64 0]) ∧ RepQ w' (From w.heap.size) q cs

set_option maxRecDepth 100000 in
set_option maxHeartbeats 1000000 in
theorem read_query_error (s : ByteArray) (w : World) (hs : s.size ≤ 9223372036854775807) (hT : Tabs w) (v : Value) (p c : Int) (hc0 : c ≠ 0) (hl : lexL s.data.toList = .error (p, c)) :
    Calls Tryd.prog 23 #[.string s, v] w (ReadQ (.error (p, c)) w) := by
  have hc : (c != 0) = true := by rw [bne_iff_ne]; exact hc0
  go_enter_defers Tryd.func23, Tryd.ntmps23
  go_wp2_with fail
  generalize hw0 : ((w.alloc (.cells #[.slice none 0 0, .slice none 0 0, .bool false, .slice none 0 0, .slice none 0 0, .int .i64 0] 36)).alloc (.cells #[.int .i64 0] 3)).alloc (.cells #[.int .i64 0] 25) = w0
  have hin0 : ReadIn w w0 36 zeroQ := hw0 ▸ readIn w 36 zeroQ
  have hT0 := hT.below hin0.below
  clear hw0
  refine (lex_calls s _ hs hT0).mono ?_
  rintro e w1 ⟨hb1, he⟩
  rw [hl] at he
  simp only at he
  subst he
  have hin1 := hin0.call hb1
  clear hin0 hT0 hb1
  have q0 := hin1.q.cell 0
  have q1 := hin1.q.cell 1
  have q2 := hin1.q.cell 2
  have q3 := hin1.q.cell 3
  have q4 := hin1.q.cell 4
  have q5 := hin1.q.cell 5
  have p0 := hin1.p.cell 0
  have e0 := hin1.e.cell 0
  have fq := hin1.q.frozen
  have fp := hin1.p.frozen
  have fe := hin1.e.frozen
  have hsz := hin1.size
  simp only [List.getElem?_cons_zero, List.getElem?_cons_succ, zeroQ] at p0 e0 q0 q1 q2 q3 q4 q5
  go_wp2_with fail
  have hq2 := (hin1.q.far (p := ⟨w.heap.size + 1, 0, none⟩) (by simp) (.int .i64 p)).far (p := ⟨w.heap.size + 1 + 1, 0, none⟩) (by simp; omega) (.int .i64 c)
  have hp2 := (hin1.p.set_ 0 (.int .i64 p)).far (p := ⟨w.heap.size + 1 + 1, 0, none⟩) (by simp) (.int .i64 c)
  have he2 := (hin1.e.far (p := ⟨w.heap.size + 1, 0, none⟩) (by simp) (.int .i64 p)).set_ 0 (.int .i64 c)
  have hb2 := (hin1.below.setCell (p := ⟨w.heap.size + 1, 0, none⟩) (by simp) (.int .i64 p)).setCell (p := ⟨w.heap.size + 1 + 1, 0, none⟩) (by simp; omega) (.int .i64 c)
  clear hin1 q0 q1 q2 q3 q4 q5 p0 e0 fq fp fe hsz
  generalize (w1.setCell ⟨w.heap.size + 1, 0, none⟩ (.int .i64 p)).setCell ⟨w.heap.size + 1 + 1, 0, none⟩ (.int .i64 c) = w2 at *
  have q0 := hq2.cell 0
  have q1 := hq2.cell 1
  have q2 := hq2.cell 2
  have q3 := hq2.cell 3
  have q4 := hq2.cell 4
  have q5 := hq2.cell 5
  have p0 := hp2.cell 0
  have e0 := he2.cell 0
  have fq := hq2.frozen
  have fp := hp2.frozen
  have fe := he2.frozen
  simp only [List.getElem?_cons_zero, List.getElem?_cons_succ, List.set_cons_zero, zeroQ] at p0 e0 q0 q1 q2 q3 q4 q5
  go_region
  go_wp2_with fail
  have hq3 := ((((((((hq2.set_ 0 (.slice none 0 0)).set_ 1 (.slice none 0 0)).set_ 2 (.bool false)).set_ 3 (.slice none 0 0)).set_ 4 (.slice none 0 0)).set_ 5 (.int .i64 0)).far (p := ⟨w.heap.size + 1, 0, none⟩) (by simp) (.int .i64 p)).far (p := ⟨w.heap.size + 1 + 1, 0, none⟩) (by simp; omega) (.int .i64 c)).drew
  have hp3 := ((((((((hp2.far (p := ⟨w.heap.size, 0, none⟩) (by simp) (.slice none 0 0)).far (p := ⟨w.heap.size, 1, none⟩) (by simp) (.slice none 0 0)).far (p := ⟨w.heap.size, 2, none⟩) (by simp) (.bool false)).far (p := ⟨w.heap.size, 3, none⟩) (by simp) (.slice none 0 0)).far (p := ⟨w.heap.size, 4, none⟩) (by simp) (.slice none 0 0)).far (p := ⟨w.heap.size, 5, none⟩) (by simp) (.int .i64 0)).set_ 0 (.int .i64 p)).far (p := ⟨w.heap.size + 1 + 1, 0, none⟩) (by simp) (.int .i64 c)).drew
  have he3 := ((((((((he2.far (p := ⟨w.heap.size, 0, none⟩) (by simp; omega) (.slice none 0 0)).far (p := ⟨w.heap.size, 1, none⟩) (by simp; omega) (.slice none 0 0)).far (p := ⟨w.heap.size, 2, none⟩) (by simp; omega) (.bool false)).far (p := ⟨w.heap.size, 3, none⟩) (by simp; omega) (.slice none 0 0)).far (p := ⟨w.heap.size, 4, none⟩) (by simp; omega) (.slice none 0 0)).far (p := ⟨w.heap.size, 5, none⟩) (by simp; omega) (.int .i64 0)).far (p := ⟨w.heap.size + 1, 0, none⟩) (by simp) (.int .i64 p)).set_ 0 (.int .i64 c)).drew
  have hb3 := ((((((((hb2.setCell (p := ⟨w.heap.size, 0, none⟩) (Nat.le_refl _) (.slice none 0 0)).setCell (p := ⟨w.heap.size, 1, none⟩) (Nat.le_refl _) (.slice none 0 0)).setCell (p := ⟨w.heap.size, 2, none⟩) (Nat.le_refl _) (.bool false)).setCell (p := ⟨w.heap.size, 3, none⟩) (Nat.le_refl _) (.slice none 0 0)).setCell (p := ⟨w.heap.size, 4, none⟩) (Nat.le_refl _) (.slice none 0 0)).setCell (p := ⟨w.heap.size, 5, none⟩) (Nat.le_refl _) (.int .i64 0)).setCell (p := ⟨w.heap.size + 1, 0, none⟩) (by simp) (.int .i64 p)).setCell (p := ⟨w.heap.size + 1 + 1, 0, none⟩) (by simp; omega) (.int .i64 c)).drew
  clear hq2 hp2 he2 hb2 q0 q1 q2 q3 q4 q5 p0 e0 fq fp fe
  generalize ((((((((w2.setCell ⟨w.heap.size, 0, none⟩ (.slice none 0 0)).setCell ⟨w.heap.size, 1, none⟩ (.slice none 0 0)).setCell ⟨w.heap.size, 2, none⟩ (.bool false)).setCell ⟨w.heap.size, 3, none⟩ (.slice none 0 0)).setCell ⟨w.heap.size, 4, none⟩ (.slice none 0 0)).setCell ⟨w.heap.size, 5, none⟩ (.int .i64 0)).setCell ⟨w.heap.size + 1, 0, none⟩ (.int .i64 p)).setCell ⟨w.heap.size + 1 + 1, 0, none⟩ (.int .i64 c)).drew = w3 at *
  have q0 := hq3.cell 0
  have q1 := hq3.cell 1
  have q2 := hq3.cell 2
  have q3 := hq3.cell 3
  have q4 := hq3.cell 4
  have q5 := hq3.cell 5
  have p0 := hp3.cell 0
  have e0 := he3.cell 0
  simp only [List.getElem?_cons_zero, List.getElem?_cons_succ, List.set_cons_zero, List.set_cons_succ, zeroQ] at p0 e0 q0 q1 q2 q3 q4 q5
  refine bodyPostD_done (.tuple #[.agg zeroQ.toArray, .int .i64 p, .int .i64 c]) ?_ ⟨hb3, rfl⟩
  simp [results, Tryd.results23, go_sem, p0, e0, q0, q1, q2, q3, q4, q5, zeroQ]

set_option maxRecDepth 100000 in
set_option maxHeartbeats 1000000 in
/-- Where read leaves by a panic: it is caught. -/
theorem door_query_panic (Tm : Array Value) (w W : World) (pos code : Int) (v0 v1 v2 v3 v4 v5 pv ev : Value) (hq : Blk W w.heap.size 36 [v0, v1, v2, v3, v4, v5]) (hp : Blk W (w.heap.size + 1) 3 [pv]) (he : Blk W (w.heap.size + 1 + 1) 25 [ev]) (hb : Below w.heap.size w W)
    (h4 : Tm[4]? = some (.pointer (some ⟨w.heap.size, 0, none⟩))) (h5 : Tm[5]? = some (.pointer (some ⟨w.heap.size + 1, 0, none⟩))) (h6 : Tm[6]? = some (.pointer (some ⟨w.heap.size + 1 + 1, 0, none⟩))) :
    bodyPostD Tryd.prog Tryd.f23 (ReadQ (.error (pos, code)) w) (Exit.panic [{ v := .iface 103 (.agg #[.int .i64 pos, .int .i64 code]), recovered := false }])
      { tmps := Tm, defers := [{ target := .fn (.func 36) #[.pointer (some ⟨w.heap.size, 0, none⟩), .pointer (some ⟨w.heap.size + 1, 0, none⟩), .pointer (some ⟨w.heap.size + 1 + 1, 0, none⟩)], args := #[] }] } W := by
  show Leaves _ _ _ _ _ _ _
  refine leaves_cons (f := 36) (args := #[.pointer (some ⟨w.heap.size, 0, none⟩), .pointer (some ⟨w.heap.size + 1, 0, none⟩), .pointer (some ⟨w.heap.size + 1 + 1, 0, none⟩)]) (by simp) (by simp [go_sem]) ?_
  refine (catch_query w.heap.size (w.heap.size + 1) (w.heap.size + 1 + 1) pos code W v0 v1 v2 v3 v4 v5 pv ev hq hp he (by omega) (by omega) (by omega) (by omega) (by omega) (by omega)).mono ?_
  rintro e u' w' ⟨rfl, rfl, hq2, hp2, he2, hb2⟩
  have hb3 := hb2 _ _ hb hb.size (Nat.le_refl _) (by omega) (by omega)
  have q0 := hq2.cell 0
  have q1 := hq2.cell 1
  have q2 := hq2.cell 2
  have q3 := hq2.cell 3
  have q4 := hq2.cell 4
  have q5 := hq2.cell 5
  have p0 := hp2.cell 0
  have e0 := he2.cell 0
  simp only [List.getElem?_cons_zero, List.getElem?_cons_succ] at p0 e0 q0 q1 q2 q3 q4 q5
  refine ⟨.tuple #[.agg zeroQ.toArray, .int .i64 pos, .int .i64 code], ?_, hb3, rfl⟩
  simp [results, Tryd.results23, go_sem, p0, e0, q0, q1, q2, q3, q4, q5, zeroQ, h4, h5, h6]

set_option maxRecDepth 100000 in
set_option maxHeartbeats 1000000 in
/-- Where read returns: the deferred closure has nothing to do. -/
theorem door_query_ret (Tm : Array Value) (w W : World) (r : Except (Int × Int) Qry) (v0 v1 v2 v3 v4 v5 pv ev : Value) (hq : Blk W w.heap.size 36 [v0, v1, v2, v3, v4, v5]) (hp : Blk W (w.heap.size + 1) 3 [pv]) (he : Blk W (w.heap.size + 1 + 1) 25 [ev])
    (h4 : Tm[4]? = some (.pointer (some ⟨w.heap.size, 0, none⟩))) (h5 : Tm[5]? = some (.pointer (some ⟨w.heap.size + 1, 0, none⟩))) (h6 : Tm[6]? = some (.pointer (some ⟨w.heap.size + 1 + 1, 0, none⟩)))
    (hr : ReadQ r w (.returned (.tuple #[.agg #[v0, v1, v2, v3, v4, v5], pv, ev])) W) :
    bodyPostD Tryd.prog Tryd.f23 (ReadQ r w) Exit.ret
      { tmps := Tm, defers := [{ target := .fn (.func 36) #[.pointer (some ⟨w.heap.size, 0, none⟩), .pointer (some ⟨w.heap.size + 1, 0, none⟩), .pointer (some ⟨w.heap.size + 1 + 1, 0, none⟩)], args := #[] }] } W := by
  show Leaves _ _ _ _ _ _ _
  refine leaves_cons (f := 36) (args := #[.pointer (some ⟨w.heap.size, 0, none⟩), .pointer (some ⟨w.heap.size + 1, 0, none⟩), .pointer (some ⟨w.heap.size + 1 + 1, 0, none⟩)]) (by simp) (by simp [go_sem]) ?_
  refine (idle_query _ _ _ W).mono ?_
  rintro e u' w' ⟨rfl, rfl, rfl⟩
  have q0 := hq.cell 0
  have q1 := hq.cell 1
  have q2 := hq.cell 2
  have q3 := hq.cell 3
  have q4 := hq.cell 4
  have q5 := hq.cell 5
  have p0 := hp.cell 0
  have e0 := he.cell 0
  simp only [List.getElem?_cons_zero, List.getElem?_cons_succ] at p0 e0 q0 q1 q2 q3 q4 q5
  refine ⟨.tuple #[.agg #[v0, v1, v2, v3, v4, v5], pv, ev], ?_, hr⟩
  simp [results, Tryd.results23, go_sem, p0, e0, q0, q1, q2, q3, q4, q5, h4, h5, h6]

/-- How what was read ends. -/
def finQuery (res : Except (Int × Int) (Qry × List Tok)) : Except (Int × Int) Qry :=
  match res with
  | .error p => .error p
  | .ok (a, []) => .ok a
  | .ok (_, t :: _) => .error (t.pos, 81)

set_option maxRecDepth 100000 in
set_option maxHeartbeats 1000000 in
theorem read_query_parsed (s : ByteArray) (w : World) (hs : s.size ≤ 9223372036854775807) (hT : Tabs w) (k : FuncId) (eg : ∀ args w, (callFunc k args).run Tryd.prog w = .ok (.enter k args) w) (res : Except (Int × Int) (Qry × List Tok)) (L : List Tok)
    (hk : ∀ r w, Rd w r L s.size 0 → Calls Tryd.prog k #[.pointer (some ⟨r, 0, none⟩)] w (Post r s.size 0 w (QVal w.heap.size) res)) (hl : lexL s.data.toList = .ok L) :
    Calls Tryd.prog 23 #[.string s, .func (.func k) #[] #[]] w (ReadQ (finQuery res) w) := by
  have HK := Lib.hid hk
  clear hk
  have hmf : ∀ (fn : Fn) (first cap : Array Value) (w : World), (Instr.makeFunc fn first cap).run Tryd.prog w = .ok (.func fn first cap) w := fun _ _ _ _ => rfl
  go_enter_defers Tryd.func23, Tryd.ntmps23
  go_wp2_with fail
  generalize hw0 : ((w.alloc (.cells #[.slice none 0 0, .slice none 0 0, .bool false, .slice none 0 0, .slice none 0 0, .int .i64 0] 36)).alloc (.cells #[.int .i64 0] 3)).alloc (.cells #[.int .i64 0] 25) = w0
  have hin0 : ReadIn w w0 36 zeroQ := hw0 ▸ readIn w 36 zeroQ
  have hT0 := hT.below hin0.below
  clear hw0
  refine (lex_calls s _ hs hT0).mono ?_
  rintro e w1 ⟨hb1, he⟩
  rw [hl] at he
  obtain ⟨a, cap, rfl, hcap, hcm, htk, hal⟩ := he
  have hin1 := hin0.call hb1
  have hsz0 := hin0.size
  clear hin0 hT0 hb1
  have q0 := hin1.q.cell 0
  have q1 := hin1.q.cell 1
  have q2 := hin1.q.cell 2
  have q3 := hin1.q.cell 3
  have q4 := hin1.q.cell 4
  have q5 := hin1.q.cell 5
  have p0 := hin1.p.cell 0
  have e0 := hin1.e.cell 0
  have fq := hin1.q.frozen
  have fp := hin1.p.frozen
  have fe := hin1.e.frozen
  have hsz := hin1.size
  simp only [List.getElem?_cons_zero, List.getElem?_cons_succ, zeroQ] at p0 e0 q0 q1 q2 q3 q4 q5
  go_wp2_with fail
  have hq4 := ((hin1.q.far (p := ⟨w.heap.size + 1, 0, none⟩) (by simp) (.int .i64 0)).far (p := ⟨w.heap.size + 1 + 1, 0, none⟩) (by simp; omega) (.int .i64 0)).alloc (.cells #[.slice a L.length cap, .int .i64 (s.size : Int), .int .i64 0] 105)
  have hp4 := ((hin1.p.set_ 0 (.int .i64 0)).far (p := ⟨w.heap.size + 1 + 1, 0, none⟩) (by simp) (.int .i64 0)).alloc (.cells #[.slice a L.length cap, .int .i64 (s.size : Int), .int .i64 0] 105)
  have he4 := ((hin1.e.far (p := ⟨w.heap.size + 1, 0, none⟩) (by simp) (.int .i64 0)).set_ 0 (.int .i64 0)).alloc (.cells #[.slice a L.length cap, .int .i64 (s.size : Int), .int .i64 0] 105)
  have hb4 := ((hin1.below.setCell (p := ⟨w.heap.size + 1, 0, none⟩) (by simp) (.int .i64 0)).setCell (p := ⟨w.heap.size + 1 + 1, 0, none⟩) (by simp; omega) (.int .i64 0)).alloc (by simp; omega) (.cells #[.slice a L.length cap, .int .i64 (s.size : Int), .int .i64 0] 105)
  have hrd4 : Rd (((w1.setCell ⟨w.heap.size + 1, 0, none⟩ (.int .i64 0)).setCell ⟨w.heap.size + 1 + 1, 0, none⟩ (.int .i64 0)).alloc (.cells #[.slice a L.length cap, .int .i64 (s.size : Int), .int .i64 0] 105)) w1.heap.size L s.size 0 := by
    refine ⟨a, cap, hcap, hcm, ?_, fun ad h => (hal ad h).2, ?_⟩
    · have := Blk.new ((w1.setCell ⟨w.heap.size + 1, 0, none⟩ (.int .i64 0)).setCell ⟨w.heap.size + 1 + 1, 0, none⟩ (.int .i64 0)) 105 [.slice a L.length cap, .int .i64 (s.size : Int), .int .i64 0]
      simpa using this
    · refine toks_alloc (toks_far (toks_far htk fun ad h => ?_) fun ad h => ?_) _
      · have := (hal ad h).1
        omega
      · have := (hal ad h).1
        omega
  simp only [zeroQ, List.set_cons_zero] at hq4 hp4 he4
  clear hin1 q0 q1 q2 q3 q4 q5 p0 e0 fq fp fe htk hal hcap hcm
  generalize ((w1.setCell ⟨w.heap.size + 1, 0, none⟩ (.int .i64 0)).setCell ⟨w.heap.size + 1 + 1, 0, none⟩ (.int .i64 0)).alloc (.cells #[.slice a L.length cap, .int .i64 (s.size : Int), .int .i64 0] 105) = w4 at *
  generalize w1.heap.size = r at *
  refine (HK.out r w4 hrd4).mono ?_
  rintro e w5 hpost
  have hle4 := hb4.size
  have hrl4 := hrd4.lt
  rcases res with ⟨pos, code⟩ | ⟨x, L'⟩
  · obtain ⟨rfl, hk5⟩ := hpost
    simp only [gave]
    have hq5 := hq4.kp hk5 (by omega)
    have hp5 := hp4.kp hk5 (by omega)
    have he5 := he4.kp hk5 (by omega)
    have hb5 := hk5.to_below hb4 (by omega)
    have hs5 := hb5.size
    go_wp2_with fail
    exact door_query_panic _ w w5 pos code (.slice none 0 0) (.slice none 0 0) (.bool false) (.slice none 0 0) (.slice none 0 0) (.int .i64 0) _ _ hq5 hp5 he5 hb5 rfl rfl rfl
  · obtain ⟨v, rfl, hv, hrd5, hk5⟩ := hpost
    have hq5 := hq4.kp hk5 (by omega)
    have hp5 := hp4.kp hk5 (by omega)
    have he5 := he4.kp hk5 (by omega)
    have hb5 := hk5.to_below hb4 (by omega)
    have hs5 := hb5.size
    have hr5 := hrd5.lt
    have hn1 : ¬ r = w.heap.size := by omega
    have hn2 : ¬ r = w.heap.size + 1 := by omega
    have hn3 : ¬ r = w.heap.size + 1 + 1 := by omega
    obtain ⟨cs, rfl, v0, v1, v3, v4, rfl, g0, g1, g3, g4⟩ := hv
    obtain ⟨a0, n0, c0, rfl⟩ := g0.form
    obtain ⟨a1, n1, c1, rfl⟩ := g1.form
    obtain ⟨a3, n3, c3, rfl⟩ := g3.form
    obtain ⟨a4, n4, c4, rfl⟩ := g4.form
    have hX : RepQ w5 (From w4.heap.size) x [.slice a0 n0 c0, .slice a1 n1 c1, .bool x.distinct, .slice a3 n3 c3, .slice a4 n4 c4, .int .i64 x.limit] := ⟨_, _, _, _, rfl, g0, g1, g3, g4⟩
    obtain ⟨a', c', k1, k2, kb, kaa, kt⟩ := hrd5
    have r0 := kb.cell 0
    simp only [List.getElem?_cons_zero] at r0
    have q0 := hq5.cell 0
    have q1 := hq5.cell 1
    have q2 := hq5.cell 2
    have q3 := hq5.cell 3
    have q4 := hq5.cell 4
    have q5 := hq5.cell 5
    have fq := hq5.frozen
    simp only [List.getElem?_cons_zero, List.getElem?_cons_succ] at q0 q1 q2 q3 q4 q5
    have hq6 := ((((((hq5.set_ 0 (.slice a0 n0 c0)).set_ 1 (.slice a1 n1 c1)).set_ 2 (.bool x.distinct)).set_ 3 (.slice a3 n3 c3)).set_ 4 (.slice a4 n4 c4)).set_ 5 (.int .i64 x.limit))
    have hp6 := ((((((hp5.far (p := ⟨w.heap.size, 0, none⟩) (by simp) (.slice a0 n0 c0)).far (p := ⟨w.heap.size, 1, none⟩) (by simp) (.slice a1 n1 c1)).far (p := ⟨w.heap.size, 2, none⟩) (by simp) (.bool x.distinct)).far (p := ⟨w.heap.size, 3, none⟩) (by simp) (.slice a3 n3 c3)).far (p := ⟨w.heap.size, 4, none⟩) (by simp) (.slice a4 n4 c4)).far (p := ⟨w.heap.size, 5, none⟩) (by simp) (.int .i64 x.limit))
    have he6 := ((((((he5.far (p := ⟨w.heap.size, 0, none⟩) (by simp; omega) (.slice a0 n0 c0)).far (p := ⟨w.heap.size, 1, none⟩) (by simp; omega) (.slice a1 n1 c1)).far (p := ⟨w.heap.size, 2, none⟩) (by simp; omega) (.bool x.distinct)).far (p := ⟨w.heap.size, 3, none⟩) (by simp; omega) (.slice a3 n3 c3)).far (p := ⟨w.heap.size, 4, none⟩) (by simp; omega) (.slice a4 n4 c4)).far (p := ⟨w.heap.size, 5, none⟩) (by simp; omega) (.int .i64 x.limit))
    have hb6 := ((((((hb5.setCell (p := ⟨w.heap.size, 0, none⟩) (Nat.le_refl _) (.slice a0 n0 c0)).setCell (p := ⟨w.heap.size, 1, none⟩) (Nat.le_refl _) (.slice a1 n1 c1)).setCell (p := ⟨w.heap.size, 2, none⟩) (Nat.le_refl _) (.bool x.distinct)).setCell (p := ⟨w.heap.size, 3, none⟩) (Nat.le_refl _) (.slice a3 n3 c3)).setCell (p := ⟨w.heap.size, 4, none⟩) (Nat.le_refl _) (.slice a4 n4 c4)).setCell (p := ⟨w.heap.size, 5, none⟩) (Nat.le_refl _) (.int .i64 x.limit))
    simp only [List.set_cons_zero, List.set_cons_succ] at hq6
    have hne : ∀ t L2, L' = t :: L2 → ∀ ad, a' = some ad → ¬ ad.block = w.heap.size := by
      rintro t L2 rfl ad rfl hbq
      obtain ⟨b, off, hab, t0, t1, t2, t3⟩ := Toks.first kt
      cases hab
      simp only at hbq
      subst hbq
      have u0 := (hq5.cell off).symm.trans t0
      have u1 := (hq5.cell (off + 1)).symm.trans t1
      have u2 := (hq5.cell (off + 2)).symm.trans t2
      clear t0 t1 t2 t3
      rcases off with _ | _ | _ | _ | _ | _ | off <;> simp at u0 u1 u2
    have hrd6 : ∀ t L2, L' = t :: L2 → Rd (((((((w5.setCell ⟨w.heap.size, 0, none⟩ (.slice a0 n0 c0)).setCell ⟨w.heap.size, 1, none⟩ (.slice a1 n1 c1)).setCell ⟨w.heap.size, 2, none⟩ (.bool x.distinct)).setCell ⟨w.heap.size, 3, none⟩ (.slice a3 n3 c3)).setCell ⟨w.heap.size, 4, none⟩ (.slice a4 n4 c4)).setCell ⟨w.heap.size, 5, none⟩ (.int .i64 x.limit))) r L' s.size 0 := by
      intro t L2 hL
      have hn := hne t L2 hL
      exact ⟨a', c', k1, k2, ((((((kb.far (p := ⟨w.heap.size, 0, none⟩) hn1 (.slice a0 n0 c0)).far (p := ⟨w.heap.size, 1, none⟩) hn1 (.slice a1 n1 c1)).far (p := ⟨w.heap.size, 2, none⟩) hn1 (.bool x.distinct)).far (p := ⟨w.heap.size, 3, none⟩) hn1 (.slice a3 n3 c3)).far (p := ⟨w.heap.size, 4, none⟩) hn1 (.slice a4 n4 c4)).far (p := ⟨w.heap.size, 5, none⟩) hn1 (.int .i64 x.limit)), kaa, (toks_far (b := w.heap.size) (i := 5) (u := .int .i64 x.limit) (toks_far (b := w.heap.size) (i := 4) (u := .slice a4 n4 c4) (toks_far (b := w.heap.size) (i := 3) (u := .slice a3 n3 c3) (toks_far (b := w.heap.size) (i := 2) (u := .bool x.distinct) (toks_far (b := w.heap.size) (i := 1) (u := .slice a1 n1 c1) (toks_far (b := w.heap.size) (i := 0) (u := .slice a0 n0 c0) kt hn) hn) hn) hn) hn) hn)⟩
    have r6 := ((((((kb.far (p := ⟨w.heap.size, 0, none⟩) hn1 (.slice a0 n0 c0)).far (p := ⟨w.heap.size, 1, none⟩) hn1 (.slice a1 n1 c1)).far (p := ⟨w.heap.size, 2, none⟩) hn1 (.bool x.distinct)).far (p := ⟨w.heap.size, 3, none⟩) hn1 (.slice a3 n3 c3)).far (p := ⟨w.heap.size, 4, none⟩) hn1 (.slice a4 n4 c4)).far (p := ⟨w.heap.size, 5, none⟩) hn1 (.int .i64 x.limit)).cell 0
    have hX6 := RepQ.same (Same.refl (From w4.heap.size) w5 |> fun h => ((((((h.low (b := w.heap.size) (i := 0) (u := .slice a0 n0 c0) (by omega)).low (b := w.heap.size) (i := 1) (u := .slice a1 n1 c1) (by omega)).low (b := w.heap.size) (i := 2) (u := .bool x.distinct) (by omega)).low (b := w.heap.size) (i := 3) (u := .slice a3 n3 c3) (by omega)).low (b := w.heap.size) (i := 4) (u := .slice a4 n4 c4) (by omega)).low (b := w.heap.size) (i := 5) (u := .int .i64 x.limit) (by omega))) hX
    clear hl hmf eg HK hq4 hp4 he4 hrd4 hk5
    go_upto_region 7 with (fail)
    clear q0 q1 q2 q3 q4 q5 r0 fq kb kt hX g0 g1 g3 g4 hq5 hp5 he5 hb5 hne
    generalize ((((((w5.setCell ⟨w.heap.size, 0, none⟩ (.slice a0 n0 c0)).setCell ⟨w.heap.size, 1, none⟩ (.slice a1 n1 c1)).setCell ⟨w.heap.size, 2, none⟩ (.bool x.distinct)).setCell ⟨w.heap.size, 3, none⟩ (.slice a3 n3 c3)).setCell ⟨w.heap.size, 4, none⟩ (.slice a4 n4 c4)).setCell ⟨w.heap.size, 5, none⟩ (.int .i64 x.limit)) = w6 at *
    have q0 := hq6.cell 0
    have q1 := hq6.cell 1
    have q2 := hq6.cell 2
    have q3 := hq6.cell 3
    have q4 := hq6.cell 4
    have q5 := hq6.cell 5
    have p0 := hp6.cell 0
    have e0 := he6.cell 0
    have fq := hq6.frozen
    have fp := hp6.frozen
    have fe := he6.frozen
    have hr6 := hb6.size
    simp only [List.getElem?_cons_zero, List.getElem?_cons_succ] at p0 e0 r6 q0 q1 q2 q3 q4 q5
    cases L' with
    | nil =>
      clear hrd6
      go_wp2_with fail
      have hb7 := ((((((((hb6.setCell (p := ⟨w.heap.size, 0, none⟩) (Nat.le_refl _) (.slice a0 n0 c0)).setCell (p := ⟨w.heap.size, 1, none⟩) (Nat.le_refl _) (.slice a1 n1 c1)).setCell (p := ⟨w.heap.size, 2, none⟩) (Nat.le_refl _) (.bool x.distinct)).setCell (p := ⟨w.heap.size, 3, none⟩) (Nat.le_refl _) (.slice a3 n3 c3)).setCell (p := ⟨w.heap.size, 4, none⟩) (Nat.le_refl _) (.slice a4 n4 c4)).setCell (p := ⟨w.heap.size, 5, none⟩) (Nat.le_refl _) (.int .i64 x.limit)).setCell (p := ⟨w.heap.size + 1, 0, none⟩) (by simp) (.int .i64 0)).setCell (p := ⟨w.heap.size + 1 + 1, 0, none⟩) (by simp; omega) (.int .i64 0))
      have hX7 := RepQ.same (Same.refl (From w4.heap.size) w6 |> fun h => ((((((((h.low (b := w.heap.size) (i := 0) (u := .slice a0 n0 c0) (by omega)).low (b := w.heap.size) (i := 1) (u := .slice a1 n1 c1) (by omega)).low (b := w.heap.size) (i := 2) (u := .bool x.distinct) (by omega)).low (b := w.heap.size) (i := 3) (u := .slice a3 n3 c3) (by omega)).low (b := w.heap.size) (i := 4) (u := .slice a4 n4 c4) (by omega)).low (b := w.heap.size) (i := 5) (u := .int .i64 x.limit) (by omega)).low (b := w.heap.size + 1) (i := 0) (u := .int .i64 0) (by omega)).low (b := w.heap.size + 1 + 1) (i := 0) (u := .int .i64 0) (by omega))) hX6
      exact door_query_ret _ w _ (.ok x) (.slice a0 n0 c0) (.slice a1 n1 c1) (.bool x.distinct) (.slice a3 n3 c3) (.slice a4 n4 c4) (.int .i64 x.limit) _ _ ((((((((hq6.set_ 0 (.slice a0 n0 c0)).set_ 1 (.slice a1 n1 c1)).set_ 2 (.bool x.distinct)).set_ 3 (.slice a3 n3 c3)).set_ 4 (.slice a4 n4 c4)).set_ 5 (.int .i64 x.limit)).far (p := ⟨w.heap.size + 1, 0, none⟩) (by simp) (.int .i64 0)).far (p := ⟨w.heap.size + 1 + 1, 0, none⟩) (by simp; omega) (.int .i64 0)) (((((((((hp6.far (p := ⟨w.heap.size, 0, none⟩) (by simp) (.slice a0 n0 c0)).far (p := ⟨w.heap.size, 1, none⟩) (by simp) (.slice a1 n1 c1)).far (p := ⟨w.heap.size, 2, none⟩) (by simp) (.bool x.distinct)).far (p := ⟨w.heap.size, 3, none⟩) (by simp) (.slice a3 n3 c3)).far (p := ⟨w.heap.size, 4, none⟩) (by simp) (.slice a4 n4 c4)).far (p := ⟨w.heap.size, 5, none⟩) (by simp) (.int .i64 x.limit)).set_ 0 (.int .i64 0)).far (p := ⟨w.heap.size + 1 + 1, 0, none⟩) (by simp) (.int .i64 0))) (((((((((he6.far (p := ⟨w.heap.size, 0, none⟩) (by simp; omega) (.slice a0 n0 c0)).far (p := ⟨w.heap.size, 1, none⟩) (by simp; omega) (.slice a1 n1 c1)).far (p := ⟨w.heap.size, 2, none⟩) (by simp; omega) (.bool x.distinct)).far (p := ⟨w.heap.size, 3, none⟩) (by simp; omega) (.slice a3 n3 c3)).far (p := ⟨w.heap.size, 4, none⟩) (by simp; omega) (.slice a4 n4 c4)).far (p := ⟨w.heap.size, 5, none⟩) (by simp; omega) (.int .i64 x.limit)).far (p := ⟨w.heap.size + 1, 0, none⟩) (by simp) (.int .i64 0)).set_ 0 (.int .i64 0))) rfl rfl rfl
        ⟨hb7, _, rfl, RepQ.mono (From.down (by omega)) hX7⟩
    | cons t L' =>
      have hrd := hrd6 t L' rfl
      go_wp2_with fail
      refine (stop_calls r (t :: L') s.size 0 _ hrd).mono ?_
      rintro e w7 ⟨rfl, hb7⟩
      simp only [gave, place]
      go_wp2_with fail
      exact door_query_panic _ w w7 t.pos 81 (.slice a0 n0 c0) (.slice a1 n1 c1) (.bool x.distinct) (.slice a3 n3 c3) (.slice a4 n4 c4) (.int .i64 x.limit) _ _ (hq6.below hb7 hq6.lt) (hp6.below hb7 hp6.lt) (he6.below hb7 he6.lt) (hb6.trans (hb7.mono hb6.size)) rfl rfl rfl

def zeroE : List Value := [.int .i64 0, .slice none 0 0, .string ⟨#[]⟩, .string ⟨#[]⟩, .int .i64 0, .bool false, .int .i64 0, .string ⟨#[]⟩, .slice none 0 0]
def ReadE (r : Except (Int × Int) Ex) (w : World) (e : Ending) (w' : World) : Prop :=
  Below w.heap.size w w' ∧ match r with
  | .error (p, c) => e = .returned (.tuple #[.agg zeroE.toArray, .int .i64 p, .int .i64 c])
  | .ok q => ∃ cs : List Value, e = .returned (.tuple #[.agg cs.toArray, .int .i64 0, .int .i64 0]) ∧ RepE w' (From w.heap.size) q cs

set_option maxRecDepth 100000 in
set_option maxHeartbeats 1000000 in
theorem read_expr_error (s : ByteArray) (w : World) (hs : s.size ≤ 9223372036854775807) (hT : Tabs w) (v : Value) (p c : Int) (hc0 : c ≠ 0) (hl : lexL s.data.toList = .error (p, c)) :
    Calls Tryd.prog 25 #[.string s, v] w (ReadE (.error (p, c)) w) := by
  have hc : (c != 0) = true := by rw [bne_iff_ne]; exact hc0
  go_enter_defers Tryd.func25, Tryd.ntmps25
  go_wp2_with fail
  generalize hw0 : ((w.alloc (.cells #[.int .i64 0, .slice none 0 0, .string ⟨#[]⟩, .string ⟨#[]⟩, .int .i64 0, .bool false, .int .i64 0, .string ⟨#[]⟩, .slice none 0 0] 57)).alloc (.cells #[.int .i64 0] 3)).alloc (.cells #[.int .i64 0] 25) = w0
  have hin0 : ReadIn w w0 57 zeroE := hw0 ▸ readIn w 57 zeroE
  have hT0 := hT.below hin0.below
  clear hw0
  refine (lex_calls s _ hs hT0).mono ?_
  rintro e w1 ⟨hb1, he⟩
  rw [hl] at he
  simp only at he
  subst he
  have hin1 := hin0.call hb1
  clear hin0 hT0 hb1
  have q0 := hin1.q.cell 0
  have q1 := hin1.q.cell 1
  have q2 := hin1.q.cell 2
  have q3 := hin1.q.cell 3
  have q4 := hin1.q.cell 4
  have q5 := hin1.q.cell 5
  have q6 := hin1.q.cell 6
  have q7 := hin1.q.cell 7
  have q8 := hin1.q.cell 8
  have p0 := hin1.p.cell 0
  have e0 := hin1.e.cell 0
  have fq := hin1.q.frozen
  have fp := hin1.p.frozen
  have fe := hin1.e.frozen
  have hsz := hin1.size
  simp only [List.getElem?_cons_zero, List.getElem?_cons_succ, zeroE] at p0 e0 q0 q1 q2 q3 q4 q5 q6 q7 q8
  go_wp2_with fail
  have hq2 := (hin1.q.far (p := ⟨w.heap.size + 1, 0, none⟩) (by simp) (.int .i64 p)).far (p := ⟨w.heap.size + 1 + 1, 0, none⟩) (by simp; omega) (.int .i64 c)
  have hp2 := (hin1.p.set_ 0 (.int .i64 p)).far (p := ⟨w.heap.size + 1 + 1, 0, none⟩) (by simp) (.int .i64 c)
  have he2 := (hin1.e.far (p := ⟨w.heap.size + 1, 0, none⟩) (by simp) (.int .i64 p)).set_ 0 (.int .i64 c)
  have hb2 := (hin1.below.setCell (p := ⟨w.heap.size + 1, 0, none⟩) (by simp) (.int .i64 p)).setCell (p := ⟨w.heap.size + 1 + 1, 0, none⟩) (by simp; omega) (.int .i64 c)
  clear hin1 q0 q1 q2 q3 q4 q5 q6 q7 q8 p0 e0 fq fp fe hsz
  generalize (w1.setCell ⟨w.heap.size + 1, 0, none⟩ (.int .i64 p)).setCell ⟨w.heap.size + 1 + 1, 0, none⟩ (.int .i64 c) = w2 at *
  have q0 := hq2.cell 0
  have q1 := hq2.cell 1
  have q2 := hq2.cell 2
  have q3 := hq2.cell 3
  have q4 := hq2.cell 4
  have q5 := hq2.cell 5
  have q6 := hq2.cell 6
  have q7 := hq2.cell 7
  have q8 := hq2.cell 8
  have p0 := hp2.cell 0
  have e0 := he2.cell 0
  have fq := hq2.frozen
  have fp := hp2.frozen
  have fe := he2.frozen
  simp only [List.getElem?_cons_zero, List.getElem?_cons_succ, List.set_cons_zero, zeroE] at p0 e0 q0 q1 q2 q3 q4 q5 q6 q7 q8
  go_region
  go_wp2_with fail
  have hq3 := (((((((((((hq2.set_ 0 (.int .i64 0)).set_ 1 (.slice none 0 0)).set_ 2 (.string ⟨#[]⟩)).set_ 3 (.string ⟨#[]⟩)).set_ 4 (.int .i64 0)).set_ 5 (.bool false)).set_ 6 (.int .i64 0)).set_ 7 (.string ⟨#[]⟩)).set_ 8 (.slice none 0 0)).far (p := ⟨w.heap.size + 1, 0, none⟩) (by simp) (.int .i64 p)).far (p := ⟨w.heap.size + 1 + 1, 0, none⟩) (by simp; omega) (.int .i64 c)).drew
  have hp3 := (((((((((((hp2.far (p := ⟨w.heap.size, 0, none⟩) (by simp) (.int .i64 0)).far (p := ⟨w.heap.size, 1, none⟩) (by simp) (.slice none 0 0)).far (p := ⟨w.heap.size, 2, none⟩) (by simp) (.string ⟨#[]⟩)).far (p := ⟨w.heap.size, 3, none⟩) (by simp) (.string ⟨#[]⟩)).far (p := ⟨w.heap.size, 4, none⟩) (by simp) (.int .i64 0)).far (p := ⟨w.heap.size, 5, none⟩) (by simp) (.bool false)).far (p := ⟨w.heap.size, 6, none⟩) (by simp) (.int .i64 0)).far (p := ⟨w.heap.size, 7, none⟩) (by simp) (.string ⟨#[]⟩)).far (p := ⟨w.heap.size, 8, none⟩) (by simp) (.slice none 0 0)).set_ 0 (.int .i64 p)).far (p := ⟨w.heap.size + 1 + 1, 0, none⟩) (by simp) (.int .i64 c)).drew
  have he3 := (((((((((((he2.far (p := ⟨w.heap.size, 0, none⟩) (by simp; omega) (.int .i64 0)).far (p := ⟨w.heap.size, 1, none⟩) (by simp; omega) (.slice none 0 0)).far (p := ⟨w.heap.size, 2, none⟩) (by simp; omega) (.string ⟨#[]⟩)).far (p := ⟨w.heap.size, 3, none⟩) (by simp; omega) (.string ⟨#[]⟩)).far (p := ⟨w.heap.size, 4, none⟩) (by simp; omega) (.int .i64 0)).far (p := ⟨w.heap.size, 5, none⟩) (by simp; omega) (.bool false)).far (p := ⟨w.heap.size, 6, none⟩) (by simp; omega) (.int .i64 0)).far (p := ⟨w.heap.size, 7, none⟩) (by simp; omega) (.string ⟨#[]⟩)).far (p := ⟨w.heap.size, 8, none⟩) (by simp; omega) (.slice none 0 0)).far (p := ⟨w.heap.size + 1, 0, none⟩) (by simp) (.int .i64 p)).set_ 0 (.int .i64 c)).drew
  have hb3 := (((((((((((hb2.setCell (p := ⟨w.heap.size, 0, none⟩) (Nat.le_refl _) (.int .i64 0)).setCell (p := ⟨w.heap.size, 1, none⟩) (Nat.le_refl _) (.slice none 0 0)).setCell (p := ⟨w.heap.size, 2, none⟩) (Nat.le_refl _) (.string ⟨#[]⟩)).setCell (p := ⟨w.heap.size, 3, none⟩) (Nat.le_refl _) (.string ⟨#[]⟩)).setCell (p := ⟨w.heap.size, 4, none⟩) (Nat.le_refl _) (.int .i64 0)).setCell (p := ⟨w.heap.size, 5, none⟩) (Nat.le_refl _) (.bool false)).setCell (p := ⟨w.heap.size, 6, none⟩) (Nat.le_refl _) (.int .i64 0)).setCell (p := ⟨w.heap.size, 7, none⟩) (Nat.le_refl _) (.string ⟨#[]⟩)).setCell (p := ⟨w.heap.size, 8, none⟩) (Nat.le_refl _) (.slice none 0 0)).setCell (p := ⟨w.heap.size + 1, 0, none⟩) (by simp) (.int .i64 p)).setCell (p := ⟨w.heap.size + 1 + 1, 0, none⟩) (by simp; omega) (.int .i64 c)).drew
  clear hq2 hp2 he2 hb2 q0 q1 q2 q3 q4 q5 q6 q7 q8 p0 e0 fq fp fe
  generalize (((((((((((w2.setCell ⟨w.heap.size, 0, none⟩ (.int .i64 0)).setCell ⟨w.heap.size, 1, none⟩ (.slice none 0 0)).setCell ⟨w.heap.size, 2, none⟩ (.string ⟨#[]⟩)).setCell ⟨w.heap.size, 3, none⟩ (.string ⟨#[]⟩)).setCell ⟨w.heap.size, 4, none⟩ (.int .i64 0)).setCell ⟨w.heap.size, 5, none⟩ (.bool false)).setCell ⟨w.heap.size, 6, none⟩ (.int .i64 0)).setCell ⟨w.heap.size, 7, none⟩ (.string ⟨#[]⟩)).setCell ⟨w.heap.size, 8, none⟩ (.slice none 0 0)).setCell ⟨w.heap.size + 1, 0, none⟩ (.int .i64 p)).setCell ⟨w.heap.size + 1 + 1, 0, none⟩ (.int .i64 c)).drew = w3 at *
  have q0 := hq3.cell 0
  have q1 := hq3.cell 1
  have q2 := hq3.cell 2
  have q3 := hq3.cell 3
  have q4 := hq3.cell 4
  have q5 := hq3.cell 5
  have q6 := hq3.cell 6
  have q7 := hq3.cell 7
  have q8 := hq3.cell 8
  have p0 := hp3.cell 0
  have e0 := he3.cell 0
  simp only [List.getElem?_cons_zero, List.getElem?_cons_succ, List.set_cons_zero, List.set_cons_succ, zeroE] at p0 e0 q0 q1 q2 q3 q4 q5 q6 q7 q8
  refine bodyPostD_done (.tuple #[.agg zeroE.toArray, .int .i64 p, .int .i64 c]) ?_ ⟨hb3, rfl⟩
  simp [results, Tryd.results25, go_sem, p0, e0, q0, q1, q2, q3, q4, q5, q6, q7, q8, zeroE]

set_option maxRecDepth 100000 in
set_option maxHeartbeats 1000000 in
/-- Where read leaves by a panic: it is caught. -/
theorem door_expr_panic (Tm : Array Value) (w W : World) (pos code : Int) (v0 v1 v2 v3 v4 v5 v6 v7 v8 pv ev : Value) (hq : Blk W w.heap.size 57 [v0, v1, v2, v3, v4, v5, v6, v7, v8]) (hp : Blk W (w.heap.size + 1) 3 [pv]) (he : Blk W (w.heap.size + 1 + 1) 25 [ev]) (hb : Below w.heap.size w W)
    (h4 : Tm[4]? = some (.pointer (some ⟨w.heap.size, 0, none⟩))) (h5 : Tm[5]? = some (.pointer (some ⟨w.heap.size + 1, 0, none⟩))) (h6 : Tm[6]? = some (.pointer (some ⟨w.heap.size + 1 + 1, 0, none⟩))) :
    bodyPostD Tryd.prog Tryd.f25 (ReadE (.error (pos, code)) w) (Exit.panic [{ v := .iface 103 (.agg #[.int .i64 pos, .int .i64 code]), recovered := false }])
      { tmps := Tm, defers := [{ target := .fn (.func 49) #[.pointer (some ⟨w.heap.size, 0, none⟩), .pointer (some ⟨w.heap.size + 1, 0, none⟩), .pointer (some ⟨w.heap.size + 1 + 1, 0, none⟩)], args := #[] }] } W := by
  show Leaves _ _ _ _ _ _ _
  refine leaves_cons (f := 49) (args := #[.pointer (some ⟨w.heap.size, 0, none⟩), .pointer (some ⟨w.heap.size + 1, 0, none⟩), .pointer (some ⟨w.heap.size + 1 + 1, 0, none⟩)]) (by simp) (by simp [go_sem]) ?_
  refine (catch_expr w.heap.size (w.heap.size + 1) (w.heap.size + 1 + 1) pos code W v0 v1 v2 v3 v4 v5 v6 v7 v8 pv ev hq hp he (by omega) (by omega) (by omega) (by omega) (by omega) (by omega)).mono ?_
  rintro e u' w' ⟨rfl, rfl, hq2, hp2, he2, hb2⟩
  have hb3 := hb2 _ _ hb hb.size (Nat.le_refl _) (by omega) (by omega)
  have q0 := hq2.cell 0
  have q1 := hq2.cell 1
  have q2 := hq2.cell 2
  have q3 := hq2.cell 3
  have q4 := hq2.cell 4
  have q5 := hq2.cell 5
  have q6 := hq2.cell 6
  have q7 := hq2.cell 7
  have q8 := hq2.cell 8
  have p0 := hp2.cell 0
  have e0 := he2.cell 0
  simp only [List.getElem?_cons_zero, List.getElem?_cons_succ] at p0 e0 q0 q1 q2 q3 q4 q5 q6 q7 q8
  refine ⟨.tuple #[.agg zeroE.toArray, .int .i64 pos, .int .i64 code], ?_, hb3, rfl⟩
  simp [results, Tryd.results25, go_sem, p0, e0, q0, q1, q2, q3, q4, q5, q6, q7, q8, zeroE, h4, h5, h6]

set_option maxRecDepth 100000 in
set_option maxHeartbeats 1000000 in
/-- Where read returns: the deferred closure has nothing to do. -/
theorem door_expr_ret (Tm : Array Value) (w W : World) (r : Except (Int × Int) Ex) (v0 v1 v2 v3 v4 v5 v6 v7 v8 pv ev : Value) (hq : Blk W w.heap.size 57 [v0, v1, v2, v3, v4, v5, v6, v7, v8]) (hp : Blk W (w.heap.size + 1) 3 [pv]) (he : Blk W (w.heap.size + 1 + 1) 25 [ev])
    (h4 : Tm[4]? = some (.pointer (some ⟨w.heap.size, 0, none⟩))) (h5 : Tm[5]? = some (.pointer (some ⟨w.heap.size + 1, 0, none⟩))) (h6 : Tm[6]? = some (.pointer (some ⟨w.heap.size + 1 + 1, 0, none⟩)))
    (hr : ReadE r w (.returned (.tuple #[.agg #[v0, v1, v2, v3, v4, v5, v6, v7, v8], pv, ev])) W) :
    bodyPostD Tryd.prog Tryd.f25 (ReadE r w) Exit.ret
      { tmps := Tm, defers := [{ target := .fn (.func 49) #[.pointer (some ⟨w.heap.size, 0, none⟩), .pointer (some ⟨w.heap.size + 1, 0, none⟩), .pointer (some ⟨w.heap.size + 1 + 1, 0, none⟩)], args := #[] }] } W := by
  show Leaves _ _ _ _ _ _ _
  refine leaves_cons (f := 49) (args := #[.pointer (some ⟨w.heap.size, 0, none⟩), .pointer (some ⟨w.heap.size + 1, 0, none⟩), .pointer (some ⟨w.heap.size + 1 + 1, 0, none⟩)]) (by simp) (by simp [go_sem]) ?_
  refine (idle_expr _ _ _ W).mono ?_
  rintro e u' w' ⟨rfl, rfl, rfl⟩
  have q0 := hq.cell 0
  have q1 := hq.cell 1
  have q2 := hq.cell 2
  have q3 := hq.cell 3
  have q4 := hq.cell 4
  have q5 := hq.cell 5
  have q6 := hq.cell 6
  have q7 := hq.cell 7
  have q8 := hq.cell 8
  have p0 := hp.cell 0
  have e0 := he.cell 0
  simp only [List.getElem?_cons_zero, List.getElem?_cons_succ] at p0 e0 q0 q1 q2 q3 q4 q5 q6 q7 q8
  refine ⟨.tuple #[.agg #[v0, v1, v2, v3, v4, v5, v6, v7, v8], pv, ev], ?_, hr⟩
  simp [results, Tryd.results25, go_sem, p0, e0, q0, q1, q2, q3, q4, q5, q6, q7, q8, h4, h5, h6]

/-- How what was read ends. -/
def finExpr (res : Except (Int × Int) (Ex × List Tok)) : Except (Int × Int) Ex :=
  match res with
  | .error p => .error p
  | .ok (a, []) => .ok a
  | .ok (_, t :: _) => .error (t.pos, 81)

set_option maxRecDepth 100000 in
set_option maxHeartbeats 1000000 in
theorem read_expr_parsed (s : ByteArray) (w : World) (hs : s.size ≤ 9223372036854775807) (hT : Tabs w) (k : FuncId) (eg : ∀ args w, (callFunc k args).run Tryd.prog w = .ok (.enter k args) w) (res : Except (Int × Int) (Ex × List Tok)) (L : List Tok)
    (hk : ∀ r w, Rd w r L s.size 0 → Calls Tryd.prog k #[.pointer (some ⟨r, 0, none⟩)] w (Post r s.size 0 w (EVal w.heap.size) res)) (hl : lexL s.data.toList = .ok L) :
    Calls Tryd.prog 25 #[.string s, .func (.func k) #[] #[]] w (ReadE (finExpr res) w) := by
  have HK := Lib.hid hk
  clear hk
  have hmf : ∀ (fn : Fn) (first cap : Array Value) (w : World), (Instr.makeFunc fn first cap).run Tryd.prog w = .ok (.func fn first cap) w := fun _ _ _ _ => rfl
  go_enter_defers Tryd.func25, Tryd.ntmps25
  go_wp2_with fail
  generalize hw0 : ((w.alloc (.cells #[.int .i64 0, .slice none 0 0, .string ⟨#[]⟩, .string ⟨#[]⟩, .int .i64 0, .bool false, .int .i64 0, .string ⟨#[]⟩, .slice none 0 0] 57)).alloc (.cells #[.int .i64 0] 3)).alloc (.cells #[.int .i64 0] 25) = w0
  have hin0 : ReadIn w w0 57 zeroE := hw0 ▸ readIn w 57 zeroE
  have hT0 := hT.below hin0.below
  clear hw0
  refine (lex_calls s _ hs hT0).mono ?_
  rintro e w1 ⟨hb1, he⟩
  rw [hl] at he
  obtain ⟨a, cap, rfl, hcap, hcm, htk, hal⟩ := he
  have hin1 := hin0.call hb1
  have hsz0 := hin0.size
  clear hin0 hT0 hb1
  have q0 := hin1.q.cell 0
  have q1 := hin1.q.cell 1
  have q2 := hin1.q.cell 2
  have q3 := hin1.q.cell 3
  have q4 := hin1.q.cell 4
  have q5 := hin1.q.cell 5
  have q6 := hin1.q.cell 6
  have q7 := hin1.q.cell 7
  have q8 := hin1.q.cell 8
  have p0 := hin1.p.cell 0
  have e0 := hin1.e.cell 0
  have fq := hin1.q.frozen
  have fp := hin1.p.frozen
  have fe := hin1.e.frozen
  have hsz := hin1.size
  simp only [List.getElem?_cons_zero, List.getElem?_cons_succ, zeroE] at p0 e0 q0 q1 q2 q3 q4 q5 q6 q7 q8
  go_wp2_with fail
  have hq4 := ((hin1.q.far (p := ⟨w.heap.size + 1, 0, none⟩) (by simp) (.int .i64 0)).far (p := ⟨w.heap.size + 1 + 1, 0, none⟩) (by simp; omega) (.int .i64 0)).alloc (.cells #[.slice a L.length cap, .int .i64 (s.size : Int), .int .i64 0] 105)
  have hp4 := ((hin1.p.set_ 0 (.int .i64 0)).far (p := ⟨w.heap.size + 1 + 1, 0, none⟩) (by simp) (.int .i64 0)).alloc (.cells #[.slice a L.length cap, .int .i64 (s.size : Int), .int .i64 0] 105)
  have he4 := ((hin1.e.far (p := ⟨w.heap.size + 1, 0, none⟩) (by simp) (.int .i64 0)).set_ 0 (.int .i64 0)).alloc (.cells #[.slice a L.length cap, .int .i64 (s.size : Int), .int .i64 0] 105)
  have hb4 := ((hin1.below.setCell (p := ⟨w.heap.size + 1, 0, none⟩) (by simp) (.int .i64 0)).setCell (p := ⟨w.heap.size + 1 + 1, 0, none⟩) (by simp; omega) (.int .i64 0)).alloc (by simp; omega) (.cells #[.slice a L.length cap, .int .i64 (s.size : Int), .int .i64 0] 105)
  have hrd4 : Rd (((w1.setCell ⟨w.heap.size + 1, 0, none⟩ (.int .i64 0)).setCell ⟨w.heap.size + 1 + 1, 0, none⟩ (.int .i64 0)).alloc (.cells #[.slice a L.length cap, .int .i64 (s.size : Int), .int .i64 0] 105)) w1.heap.size L s.size 0 := by
    refine ⟨a, cap, hcap, hcm, ?_, fun ad h => (hal ad h).2, ?_⟩
    · have := Blk.new ((w1.setCell ⟨w.heap.size + 1, 0, none⟩ (.int .i64 0)).setCell ⟨w.heap.size + 1 + 1, 0, none⟩ (.int .i64 0)) 105 [.slice a L.length cap, .int .i64 (s.size : Int), .int .i64 0]
      simpa using this
    · refine toks_alloc (toks_far (toks_far htk fun ad h => ?_) fun ad h => ?_) _
      · have := (hal ad h).1
        omega
      · have := (hal ad h).1
        omega
  simp only [zeroE, List.set_cons_zero] at hq4 hp4 he4
  clear hin1 q0 q1 q2 q3 q4 q5 q6 q7 q8 p0 e0 fq fp fe htk hal hcap hcm
  generalize ((w1.setCell ⟨w.heap.size + 1, 0, none⟩ (.int .i64 0)).setCell ⟨w.heap.size + 1 + 1, 0, none⟩ (.int .i64 0)).alloc (.cells #[.slice a L.length cap, .int .i64 (s.size : Int), .int .i64 0] 105) = w4 at *
  generalize w1.heap.size = r at *
  refine (HK.out r w4 hrd4).mono ?_
  rintro e w5 hpost
  have hle4 := hb4.size
  have hrl4 := hrd4.lt
  rcases res with ⟨pos, code⟩ | ⟨x, L'⟩
  · obtain ⟨rfl, hk5⟩ := hpost
    simp only [gave]
    have hq5 := hq4.kp hk5 (by omega)
    have hp5 := hp4.kp hk5 (by omega)
    have he5 := he4.kp hk5 (by omega)
    have hb5 := hk5.to_below hb4 (by omega)
    have hs5 := hb5.size
    go_wp2_with fail
    exact door_expr_panic _ w w5 pos code (.int .i64 0) (.slice none 0 0) (.string ⟨#[]⟩) (.string ⟨#[]⟩) (.int .i64 0) (.bool false) (.int .i64 0) (.string ⟨#[]⟩) (.slice none 0 0) _ _ hq5 hp5 he5 hb5 rfl rfl rfl
  · obtain ⟨v, rfl, hv, hrd5, hk5⟩ := hpost
    have hq5 := hq4.kp hk5 (by omega)
    have hp5 := hp4.kp hk5 (by omega)
    have he5 := he4.kp hk5 (by omega)
    have hb5 := hk5.to_below hb4 (by omega)
    have hs5 := hb5.size
    have hr5 := hrd5.lt
    have hn1 : ¬ r = w.heap.size := by omega
    have hn2 : ¬ r = w.heap.size + 1 := by omega
    have hn3 : ¬ r = w.heap.size + 1 + 1 := by omega
    obtain ⟨op, ka, kn, kc, nm, pr, vk, vb, vm, vt, pa, pn, pc, rfl, hX⟩ := hv.nine
    obtain ⟨a', c', k1, k2, kb, kaa, kt⟩ := hrd5
    have r0 := kb.cell 0
    simp only [List.getElem?_cons_zero] at r0
    have q0 := hq5.cell 0
    have q1 := hq5.cell 1
    have q2 := hq5.cell 2
    have q3 := hq5.cell 3
    have q4 := hq5.cell 4
    have q5 := hq5.cell 5
    have q6 := hq5.cell 6
    have q7 := hq5.cell 7
    have q8 := hq5.cell 8
    have fq := hq5.frozen
    simp only [List.getElem?_cons_zero, List.getElem?_cons_succ] at q0 q1 q2 q3 q4 q5 q6 q7 q8
    have hq6 := (((((((((hq5.set_ 0 (.int .i64 op)).set_ 1 (.slice ka kn kc)).set_ 2 (.string nm)).set_ 3 (.string pr)).set_ 4 (.int .i64 vk)).set_ 5 (.bool vb)).set_ 6 (.int .i64 vm)).set_ 7 (.string vt)).set_ 8 (.slice pa pn pc))
    have hp6 := (((((((((hp5.far (p := ⟨w.heap.size, 0, none⟩) (by simp) (.int .i64 op)).far (p := ⟨w.heap.size, 1, none⟩) (by simp) (.slice ka kn kc)).far (p := ⟨w.heap.size, 2, none⟩) (by simp) (.string nm)).far (p := ⟨w.heap.size, 3, none⟩) (by simp) (.string pr)).far (p := ⟨w.heap.size, 4, none⟩) (by simp) (.int .i64 vk)).far (p := ⟨w.heap.size, 5, none⟩) (by simp) (.bool vb)).far (p := ⟨w.heap.size, 6, none⟩) (by simp) (.int .i64 vm)).far (p := ⟨w.heap.size, 7, none⟩) (by simp) (.string vt)).far (p := ⟨w.heap.size, 8, none⟩) (by simp) (.slice pa pn pc))
    have he6 := (((((((((he5.far (p := ⟨w.heap.size, 0, none⟩) (by simp; omega) (.int .i64 op)).far (p := ⟨w.heap.size, 1, none⟩) (by simp; omega) (.slice ka kn kc)).far (p := ⟨w.heap.size, 2, none⟩) (by simp; omega) (.string nm)).far (p := ⟨w.heap.size, 3, none⟩) (by simp; omega) (.string pr)).far (p := ⟨w.heap.size, 4, none⟩) (by simp; omega) (.int .i64 vk)).far (p := ⟨w.heap.size, 5, none⟩) (by simp; omega) (.bool vb)).far (p := ⟨w.heap.size, 6, none⟩) (by simp; omega) (.int .i64 vm)).far (p := ⟨w.heap.size, 7, none⟩) (by simp; omega) (.string vt)).far (p := ⟨w.heap.size, 8, none⟩) (by simp; omega) (.slice pa pn pc))
    have hb6 := (((((((((hb5.setCell (p := ⟨w.heap.size, 0, none⟩) (Nat.le_refl _) (.int .i64 op)).setCell (p := ⟨w.heap.size, 1, none⟩) (Nat.le_refl _) (.slice ka kn kc)).setCell (p := ⟨w.heap.size, 2, none⟩) (Nat.le_refl _) (.string nm)).setCell (p := ⟨w.heap.size, 3, none⟩) (Nat.le_refl _) (.string pr)).setCell (p := ⟨w.heap.size, 4, none⟩) (Nat.le_refl _) (.int .i64 vk)).setCell (p := ⟨w.heap.size, 5, none⟩) (Nat.le_refl _) (.bool vb)).setCell (p := ⟨w.heap.size, 6, none⟩) (Nat.le_refl _) (.int .i64 vm)).setCell (p := ⟨w.heap.size, 7, none⟩) (Nat.le_refl _) (.string vt)).setCell (p := ⟨w.heap.size, 8, none⟩) (Nat.le_refl _) (.slice pa pn pc))
    simp only [List.set_cons_zero, List.set_cons_succ] at hq6
    have hne : ∀ t L2, L' = t :: L2 → ∀ ad, a' = some ad → ¬ ad.block = w.heap.size := by
      rintro t L2 rfl ad rfl hbq
      obtain ⟨b, off, hab, t0, t1, t2, t3⟩ := Toks.first kt
      cases hab
      simp only at hbq
      subst hbq
      have u0 := (hq5.cell off).symm.trans t0
      have u1 := (hq5.cell (off + 1)).symm.trans t1
      have u2 := (hq5.cell (off + 2)).symm.trans t2
      clear t0 t1 t2 t3
      rcases off with _ | _ | _ | _ | _ | _ | _ | _ | _ | off <;> simp at u0 u1 u2
    have hrd6 : ∀ t L2, L' = t :: L2 → Rd ((((((((((w5.setCell ⟨w.heap.size, 0, none⟩ (.int .i64 op)).setCell ⟨w.heap.size, 1, none⟩ (.slice ka kn kc)).setCell ⟨w.heap.size, 2, none⟩ (.string nm)).setCell ⟨w.heap.size, 3, none⟩ (.string pr)).setCell ⟨w.heap.size, 4, none⟩ (.int .i64 vk)).setCell ⟨w.heap.size, 5, none⟩ (.bool vb)).setCell ⟨w.heap.size, 6, none⟩ (.int .i64 vm)).setCell ⟨w.heap.size, 7, none⟩ (.string vt)).setCell ⟨w.heap.size, 8, none⟩ (.slice pa pn pc))) r L' s.size 0 := by
      intro t L2 hL
      have hn := hne t L2 hL
      exact ⟨a', c', k1, k2, (((((((((kb.far (p := ⟨w.heap.size, 0, none⟩) hn1 (.int .i64 op)).far (p := ⟨w.heap.size, 1, none⟩) hn1 (.slice ka kn kc)).far (p := ⟨w.heap.size, 2, none⟩) hn1 (.string nm)).far (p := ⟨w.heap.size, 3, none⟩) hn1 (.string pr)).far (p := ⟨w.heap.size, 4, none⟩) hn1 (.int .i64 vk)).far (p := ⟨w.heap.size, 5, none⟩) hn1 (.bool vb)).far (p := ⟨w.heap.size, 6, none⟩) hn1 (.int .i64 vm)).far (p := ⟨w.heap.size, 7, none⟩) hn1 (.string vt)).far (p := ⟨w.heap.size, 8, none⟩) hn1 (.slice pa pn pc)), kaa, (toks_far (b := w.heap.size) (i := 8) (u := .slice pa pn pc) (toks_far (b := w.heap.size) (i := 7) (u := .string vt) (toks_far (b := w.heap.size) (i := 6) (u := .int .i64 vm) (toks_far (b := w.heap.size) (i := 5) (u := .bool vb) (toks_far (b := w.heap.size) (i := 4) (u := .int .i64 vk) (toks_far (b := w.heap.size) (i := 3) (u := .string pr) (toks_far (b := w.heap.size) (i := 2) (u := .string nm) (toks_far (b := w.heap.size) (i := 1) (u := .slice ka kn kc) (toks_far (b := w.heap.size) (i := 0) (u := .int .i64 op) kt hn) hn) hn) hn) hn) hn) hn) hn) hn)⟩
    have r6 := (((((((((kb.far (p := ⟨w.heap.size, 0, none⟩) hn1 (.int .i64 op)).far (p := ⟨w.heap.size, 1, none⟩) hn1 (.slice ka kn kc)).far (p := ⟨w.heap.size, 2, none⟩) hn1 (.string nm)).far (p := ⟨w.heap.size, 3, none⟩) hn1 (.string pr)).far (p := ⟨w.heap.size, 4, none⟩) hn1 (.int .i64 vk)).far (p := ⟨w.heap.size, 5, none⟩) hn1 (.bool vb)).far (p := ⟨w.heap.size, 6, none⟩) hn1 (.int .i64 vm)).far (p := ⟨w.heap.size, 7, none⟩) hn1 (.string vt)).far (p := ⟨w.heap.size, 8, none⟩) hn1 (.slice pa pn pc)).cell 0
    have hX6 := RepE.same (Same.refl (From w4.heap.size) w5 |> fun h => (((((((((h.low (b := w.heap.size) (i := 0) (u := .int .i64 op) (by omega)).low (b := w.heap.size) (i := 1) (u := .slice ka kn kc) (by omega)).low (b := w.heap.size) (i := 2) (u := .string nm) (by omega)).low (b := w.heap.size) (i := 3) (u := .string pr) (by omega)).low (b := w.heap.size) (i := 4) (u := .int .i64 vk) (by omega)).low (b := w.heap.size) (i := 5) (u := .bool vb) (by omega)).low (b := w.heap.size) (i := 6) (u := .int .i64 vm) (by omega)).low (b := w.heap.size) (i := 7) (u := .string vt) (by omega)).low (b := w.heap.size) (i := 8) (u := .slice pa pn pc) (by omega))) hX
    clear hl hmf eg HK hq4 hp4 he4 hrd4 hk5
    go_upto_region 7 with (fail)
    clear q0 q1 q2 q3 q4 q5 q6 q7 q8 r0 fq kb kt hX  hq5 hp5 he5 hb5 hne
    generalize (((((((((w5.setCell ⟨w.heap.size, 0, none⟩ (.int .i64 op)).setCell ⟨w.heap.size, 1, none⟩ (.slice ka kn kc)).setCell ⟨w.heap.size, 2, none⟩ (.string nm)).setCell ⟨w.heap.size, 3, none⟩ (.string pr)).setCell ⟨w.heap.size, 4, none⟩ (.int .i64 vk)).setCell ⟨w.heap.size, 5, none⟩ (.bool vb)).setCell ⟨w.heap.size, 6, none⟩ (.int .i64 vm)).setCell ⟨w.heap.size, 7, none⟩ (.string vt)).setCell ⟨w.heap.size, 8, none⟩ (.slice pa pn pc)) = w6 at *
    have q0 := hq6.cell 0
    have q1 := hq6.cell 1
    have q2 := hq6.cell 2
    have q3 := hq6.cell 3
    have q4 := hq6.cell 4
    have q5 := hq6.cell 5
    have q6 := hq6.cell 6
    have q7 := hq6.cell 7
    have q8 := hq6.cell 8
    have p0 := hp6.cell 0
    have e0 := he6.cell 0
    have fq := hq6.frozen
    have fp := hp6.frozen
    have fe := he6.frozen
    have hr6 := hb6.size
    simp only [List.getElem?_cons_zero, List.getElem?_cons_succ] at p0 e0 r6 q0 q1 q2 q3 q4 q5 q6 q7 q8
    cases L' with
    | nil =>
      clear hrd6
      go_wp2_with fail
      have hb7 := (((((((((((hb6.setCell (p := ⟨w.heap.size, 0, none⟩) (Nat.le_refl _) (.int .i64 op)).setCell (p := ⟨w.heap.size, 1, none⟩) (Nat.le_refl _) (.slice ka kn kc)).setCell (p := ⟨w.heap.size, 2, none⟩) (Nat.le_refl _) (.string nm)).setCell (p := ⟨w.heap.size, 3, none⟩) (Nat.le_refl _) (.string pr)).setCell (p := ⟨w.heap.size, 4, none⟩) (Nat.le_refl _) (.int .i64 vk)).setCell (p := ⟨w.heap.size, 5, none⟩) (Nat.le_refl _) (.bool vb)).setCell (p := ⟨w.heap.size, 6, none⟩) (Nat.le_refl _) (.int .i64 vm)).setCell (p := ⟨w.heap.size, 7, none⟩) (Nat.le_refl _) (.string vt)).setCell (p := ⟨w.heap.size, 8, none⟩) (Nat.le_refl _) (.slice pa pn pc)).setCell (p := ⟨w.heap.size + 1, 0, none⟩) (by simp) (.int .i64 0)).setCell (p := ⟨w.heap.size + 1 + 1, 0, none⟩) (by simp; omega) (.int .i64 0))
      have hX7 := RepE.same (Same.refl (From w4.heap.size) w6 |> fun h => (((((((((((h.low (b := w.heap.size) (i := 0) (u := .int .i64 op) (by omega)).low (b := w.heap.size) (i := 1) (u := .slice ka kn kc) (by omega)).low (b := w.heap.size) (i := 2) (u := .string nm) (by omega)).low (b := w.heap.size) (i := 3) (u := .string pr) (by omega)).low (b := w.heap.size) (i := 4) (u := .int .i64 vk) (by omega)).low (b := w.heap.size) (i := 5) (u := .bool vb) (by omega)).low (b := w.heap.size) (i := 6) (u := .int .i64 vm) (by omega)).low (b := w.heap.size) (i := 7) (u := .string vt) (by omega)).low (b := w.heap.size) (i := 8) (u := .slice pa pn pc) (by omega)).low (b := w.heap.size + 1) (i := 0) (u := .int .i64 0) (by omega)).low (b := w.heap.size + 1 + 1) (i := 0) (u := .int .i64 0) (by omega))) hX6
      exact door_expr_ret _ w _ (.ok x) (.int .i64 op) (.slice ka kn kc) (.string nm) (.string pr) (.int .i64 vk) (.bool vb) (.int .i64 vm) (.string vt) (.slice pa pn pc) _ _ (((((((((((hq6.set_ 0 (.int .i64 op)).set_ 1 (.slice ka kn kc)).set_ 2 (.string nm)).set_ 3 (.string pr)).set_ 4 (.int .i64 vk)).set_ 5 (.bool vb)).set_ 6 (.int .i64 vm)).set_ 7 (.string vt)).set_ 8 (.slice pa pn pc)).far (p := ⟨w.heap.size + 1, 0, none⟩) (by simp) (.int .i64 0)).far (p := ⟨w.heap.size + 1 + 1, 0, none⟩) (by simp; omega) (.int .i64 0)) ((((((((((((hp6.far (p := ⟨w.heap.size, 0, none⟩) (by simp) (.int .i64 op)).far (p := ⟨w.heap.size, 1, none⟩) (by simp) (.slice ka kn kc)).far (p := ⟨w.heap.size, 2, none⟩) (by simp) (.string nm)).far (p := ⟨w.heap.size, 3, none⟩) (by simp) (.string pr)).far (p := ⟨w.heap.size, 4, none⟩) (by simp) (.int .i64 vk)).far (p := ⟨w.heap.size, 5, none⟩) (by simp) (.bool vb)).far (p := ⟨w.heap.size, 6, none⟩) (by simp) (.int .i64 vm)).far (p := ⟨w.heap.size, 7, none⟩) (by simp) (.string vt)).far (p := ⟨w.heap.size, 8, none⟩) (by simp) (.slice pa pn pc)).set_ 0 (.int .i64 0)).far (p := ⟨w.heap.size + 1 + 1, 0, none⟩) (by simp) (.int .i64 0))) ((((((((((((he6.far (p := ⟨w.heap.size, 0, none⟩) (by simp; omega) (.int .i64 op)).far (p := ⟨w.heap.size, 1, none⟩) (by simp; omega) (.slice ka kn kc)).far (p := ⟨w.heap.size, 2, none⟩) (by simp; omega) (.string nm)).far (p := ⟨w.heap.size, 3, none⟩) (by simp; omega) (.string pr)).far (p := ⟨w.heap.size, 4, none⟩) (by simp; omega) (.int .i64 vk)).far (p := ⟨w.heap.size, 5, none⟩) (by simp; omega) (.bool vb)).far (p := ⟨w.heap.size, 6, none⟩) (by simp; omega) (.int .i64 vm)).far (p := ⟨w.heap.size, 7, none⟩) (by simp; omega) (.string vt)).far (p := ⟨w.heap.size, 8, none⟩) (by simp; omega) (.slice pa pn pc)).far (p := ⟨w.heap.size + 1, 0, none⟩) (by simp) (.int .i64 0)).set_ 0 (.int .i64 0))) rfl rfl rfl
        ⟨hb7, _, rfl, RepE.mono (From.down (by omega)) hX7⟩
    | cons t L' =>
      have hrd := hrd6 t L' rfl
      go_wp2_with fail
      refine (stop_calls r (t :: L') s.size 0 _ hrd).mono ?_
      rintro e w7 ⟨rfl, hb7⟩
      simp only [gave, place]
      go_wp2_with fail
      exact door_expr_panic _ w w7 t.pos 81 (.int .i64 op) (.slice ka kn kc) (.string nm) (.string pr) (.int .i64 vk) (.bool vb) (.int .i64 vm) (.string vt) (.slice pa pn pc) _ _ (hq6.below hb7 hq6.lt) (hp6.below hb7 hp6.lt) (he6.below hb7 he6.lt) (hb6.trans (hb7.mono hb6.size)) rfl rfl rfl
end Go.Proofs.YtaonmhegnnpgaaaDoor
