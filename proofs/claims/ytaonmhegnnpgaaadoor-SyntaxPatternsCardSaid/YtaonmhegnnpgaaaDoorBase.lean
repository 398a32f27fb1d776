/- Words on memory for the proofs of this seat: what a call keeps, blocks that are known whole, rows of cells that read as lists. No condition. -/
import Derived.Below
import Derived.Laws.OwnMore
import Derived.Deep.AppendLies
import Derived.Deep.Draws
import Derived.Laws.Rows
import Derived.WalkKit
namespace Go.Proofs.YtaonmhegnnpgaaaDoor
open Go Go.RowKit

/-- Block r aside, nothing that was there has turned. -/
structure Kp (r : Nat) (w w' : World) : Prop where
  os : w'.os = w.os
  tape : w'.tape = w.tape
  output : w'.output = w.output
  size : w.heap.size ≤ w'.heap.size
  block : ∀ k, k < w.heap.size → k ≠ r → w'.heap[k]? = w.heap[k]?

theorem Kp.refl (r : Nat) (w : World) : Kp r w w := ⟨rfl, rfl, rfl, Nat.le_refl _, fun _ _ _ => rfl⟩
theorem Kp.trans {r : Nat} {a b c : World} (h : Kp r a b) (k : Kp r b c) : Kp r a c :=
  ⟨k.os.trans h.os, k.tape.trans h.tape, k.output.trans h.output, Nat.le_trans h.size k.size,
    fun i hi hr => (k.block i (Nat.lt_of_lt_of_le hi h.size) hr).trans (h.block i hi hr)⟩
theorem Kp.of_below {r : Nat} {a b : World} (h : Below a.heap.size a b) : Kp r a b := ⟨h.os, h.tape, h.output, h.size, fun k hk _ => h.block k hk⟩
theorem Kp.below {r : Nat} {a b c : World} (h : Kp r a b) (k : Below b.heap.size b c) : Kp r a c := h.trans (Kp.of_below k)
theorem Kp.drew {r : Nat} {a w : World} (h : Kp r a w) : Kp r a w.drew := ⟨h.os, h.tape, h.output, h.size, h.block⟩
theorem Kp.drewN {r : Nat} {a w : World} (h : Kp r a w) (n : Nat) : Kp r a (w.drewN n) := ⟨h.os, h.tape, h.output, h.size, h.block⟩
theorem Kp.alloc {r : Nat} {a w : World} (h : Kp r a w) (o : Obj) : Kp r a (w.alloc o) :=
  h.trans ⟨rfl, rfl, rfl, by simp, fun k hk _ => Below.heap_alloc _ _ _ hk⟩
theorem Kp.setCell {r : Nat} {a w : World} (h : Kp r a w) {p : Addr} (hp : p.block = r ∨ a.heap.size ≤ p.block) (u : Value) : Kp r a (w.setCell p u) :=
  ⟨h.os, h.tape, h.output, by simpa [World.setCell] using h.size, fun k hk hr => (Below.heap_setCell w p u k (by
    rintro rfl
    rcases hp with hp | hp
    · exact hr hp
    · omega)).trans (h.block k hk hr)⟩
theorem Kp.grown {r : Nat} {a w w' : World} {row : Option Nat} (h : Kp r a w) (hg : w.grownBy w' row) (hr : ∀ k, row = some k → a.heap.size ≤ k) : Kp r a w' :=
  ⟨hg.os.trans h.os, hg.tape.trans h.tape, hg.output.trans h.output, Nat.le_trans h.size hg.size, fun k hk hkr =>
    (hg.block k (Nat.lt_of_lt_of_le hk h.size) (fun e => by have := hr k e.symm; omega)).trans (h.block k hk hkr)⟩
theorem Kp.cell {r : Nat} {w w' : World} (h : Kp r w w') {p : Addr} (hp : p.block < w.heap.size) (hr : p.block ≠ r) : w'.cell? p = w.cell? p :=
  World.cell?_of_block (w := w) (h.block p.block hp hr)
theorem Kp.frozen {r : Nat} {w w' : World} (h : Kp r w w') {p : Addr} (hp : p.block < w.heap.size) (hr : p.block ≠ r) : w'.frozen? p = w.frozen? p :=
  World.frozen?_of_block (w := w) (h.block p.block hp hr)
/-- The same, as rules that the walk can use. -/
theorem Kp.rules {r : Nat} {w w' : World} (h : Kp r w w') :
    (∀ b o, b < w.heap.size → ¬ b = r → w'.cell? ⟨b, o, none⟩ = w.cell? ⟨b, o, none⟩) ∧ (∀ b o, b < w.heap.size → ¬ b = r → w'.frozen? ⟨b, o, none⟩ = w.frozen? ⟨b, o, none⟩) :=
  ⟨fun b o hb hr => h.cell (p := ⟨b, o, none⟩) hb hr, fun b o hb hr => h.frozen (p := ⟨b, o, none⟩) hb hr⟩
/-- A call that keeps all but r, of a world whose block r is new: of the elder world all is kept. -/
theorem Kp.to_below {r : Nat} {w0 w w' : World} (h : Kp r w w') (hb : Below w0.heap.size w0 w) (hr : w0.heap.size ≤ r) : Below w0.heap.size w0 w' :=
  hb.trans ⟨h.os, h.tape, h.output, h.size, fun k hk => h.block k (Nat.lt_of_lt_of_le hk hb.size) (by omega)⟩

theorem below_rules {B : Nat} {w w' : World} (h : Below B w w') :
    (∀ b o, b < B → w'.cell? ⟨b, o, none⟩ = w.cell? ⟨b, o, none⟩) ∧ (∀ b o, b < B → w'.frozen? ⟨b, o, none⟩ = w.frozen? ⟨b, o, none⟩) :=
  ⟨fun b o hb => h.cell (p := ⟨b, o, none⟩) hb, fun b o hb => h.frozen (p := ⟨b, o, none⟩) hb⟩

/-- Block g is just the cells cs of element type t, none frozen. -/
def Blk (w : World) (g : Nat) (t : TypeId) (cs : List Value) : Prop := w.heap[g]? = some (.cells cs.toArray t (0, 0))

section
variable {w w' : World} {g : Nat} {t : TypeId} {cs : List Value}
theorem Blk.lt (h : Blk w g t cs) : g < w.heap.size := by
  rcases Nat.lt_or_ge g w.heap.size with hlt | hge
  · exact hlt
  · unfold Blk at h; rw [Array.getElem?_eq_none hge] at h; cases h
theorem Blk.cell (h : Blk w g t cs) (i : Nat) : w.cell? ⟨g, i, none⟩ = cs[i]? := by
  have := cell_of_row w g i cs.toArray t (0, 0) h
  simpa using this
theorem Blk.frozen (h : Blk w g t cs) (i : Nat) : w.frozen? ⟨g, i, none⟩ = false := by
  unfold Blk at h
  simp [World.frozen?, h]
theorem Blk.new (w : World) (t : TypeId) (cs : List Value) : Blk (w.alloc (.cells cs.toArray t)) w.heap.size t cs := heap_alloc_new w _
theorem Blk.drew (h : Blk w g t cs) : Blk w.drew g t cs := h
theorem Blk.drewN (h : Blk w g t cs) (n : Nat) : Blk (w.drewN n) g t cs := h
theorem Blk.alloc (h : Blk w g t cs) (o : Obj) : Blk (w.alloc o) g t cs := (Below.heap_alloc w o g h.lt).trans h
theorem Blk.set_ (h : Blk w g t cs) (i : Nat) (u : Value) : Blk (w.setCell ⟨g, i, none⟩ u) g t (cs.set i u) := by
  unfold Blk at h ⊢
  simp [World.setCell, Array.getElem?_modify, h]
theorem Blk.far (h : Blk w g t cs) {p : Addr} (hp : g ≠ p.block) (u : Value) : Blk (w.setCell p u) g t cs := (Below.heap_setCell w p u g hp).trans h
theorem Blk.below {B : Nat} (h : Blk w g t cs) (hb : Below B w w') (hg : g < B) : Blk w' g t cs := (hb.block g hg).trans h
theorem Blk.kp {r : Nat} (h : Blk w g t cs) (hk : Kp r w w') (hg : g ≠ r) : Blk w' g t cs := (hk.block g h.lt hg).trans h
theorem Blk.grown {row : Option Nat} (h : Blk w g t cs) (hb : w.grownBy w' row) (hg : some g ≠ row) : Blk w' g t cs := (hb.block g h.lt hg).trans h
end

/-- Nine cells of a block, as the walk reads them. -/
theorem Blk.c9 {w : World} {g : Nat} {t : TypeId} {v0 v1 v2 v3 v4 v5 v6 v7 v8 : Value} (h : Blk w g t [v0, v1, v2, v3, v4, v5, v6, v7, v8]) :
    w.cell? ⟨g, 0, none⟩ = some v0 ∧ w.cell? ⟨g, 1, none⟩ = some v1 ∧ w.cell? ⟨g, 2, none⟩ = some v2 ∧ w.cell? ⟨g, 3, none⟩ = some v3 ∧ w.cell? ⟨g, 4, none⟩ = some v4 ∧
      w.cell? ⟨g, 5, none⟩ = some v5 ∧ w.cell? ⟨g, 6, none⟩ = some v6 ∧ w.cell? ⟨g, 7, none⟩ = some v7 ∧ w.cell? ⟨g, 8, none⟩ = some v8 :=
  ⟨h.cell 0, h.cell 1, h.cell 2, h.cell 3, h.cell 4, h.cell 5, h.cell 6, h.cell 7, h.cell 8⟩
/-- Nine cells stored, one behind the other. -/
theorem Blk.put9 {w : World} {g : Nat} {t : TypeId} {o0 o1 o2 o3 o4 o5 o6 o7 o8 n0 n1 n2 n3 n4 n5 n6 n7 n8 : Value} (h : Blk w g t [o0, o1, o2, o3, o4, o5, o6, o7, o8]) :
    Blk (((((((((w.setCell ⟨g, 0, none⟩ n0).setCell ⟨g, 1, none⟩ n1).setCell ⟨g, 2, none⟩ n2).setCell ⟨g, 3, none⟩ n3).setCell ⟨g, 4, none⟩ n4).setCell ⟨g, 5, none⟩ n5).setCell ⟨g, 6, none⟩ n6).setCell ⟨g, 7, none⟩ n7).setCell ⟨g, 8, none⟩ n8) g t [n0, n1, n2, n3, n4, n5, n6, n7, n8] := (((((((((h.set_ 0 n0).set_ 1 n1).set_ 2 n2).set_ 3 n3).set_ 4 n4).set_ 5 n5).set_ 6 n6).set_ 7 n7).set_ 8 n8)
theorem Blk.alloc_ {w : World} {g : Nat} {t : TypeId} {cs : List Value} (h : Blk w g t cs) {o : Obj} : Blk (w.alloc o) g t cs := h.alloc o
theorem Blk.far_ {w : World} {g b : Nat} {t : TypeId} {cs : List Value} (h : Blk w g t cs) (hb : ¬ g = b) {i : Nat} {u : Value} : Blk (w.setCell ⟨b, i, none⟩ u) g t cs := h.far (p := ⟨b, i, none⟩) hb u
theorem Blk.here {w : World} {g : Nat} {t : TypeId} {cs ds : List Value} (h : Blk w g t cs) {i : Nat} {u : Value} (hd : ds = cs.set i u) : Blk (w.setCell ⟨g, i, none⟩ u) g t ds := by
  subst hd
  exact h.set_ i u

/-- The cells cs lie from address a on, in a block of S (or there are none). -/
def CellsAt (w : World) (S : Nat → Prop) (a : Option Addr) (cs : List Value) : Prop :=
  cs = [] ∨ ∃ ad, a = some ad ∧ S ad.block ∧ ∀ j u, cs[j]? = some u → w.cell? (ad.add j) = some u

theorem block_of_add (a : Addr) (n : Nat) : (a.add n).block = a.block := by unfold Addr.add; split <;> rfl
theorem add_of_add (a : Addr) (i j : Nat) : (a.add i).add j = a.add (i + j) := by
  unfold Addr.add
  by_cases hi : i = 0 <;> by_cases hj : j = 0 <;> simp [hi, hj, Nat.add_assoc]
theorem lt_of_cell {w : World} {a : Addr} {v : Value} (h : w.cell? a = some v) : a.block < w.heap.size := by
  unfold World.cell? at h
  rcases Nat.lt_or_ge a.block w.heap.size with hlt | hge
  · exact hlt
  · rw [Array.getElem?_eq_none hge] at h; simp at h

/-- The blocks of S that w has stand in w' as they stood. -/
def Same (S : Nat → Prop) (w w' : World) : Prop := ∀ k, S k → k < w.heap.size → w'.heap[k]? = w.heap[k]?
theorem Same.refl (S : Nat → Prop) (w : World) : Same S w w := fun _ _ _ => rfl
theorem Same.mono {S S' : Nat → Prop} {w w' : World} (h : Same S w w') (hS : ∀ b, S' b → S b) : Same S' w w' := fun k hk hlt => h k (hS k hk) hlt
theorem Same.trans {S : Nat → Prop} {a b c : World} (h : Same S a b) (hs : a.heap.size ≤ b.heap.size) (k : Same S b c) : Same S a c :=
  fun i hi hlt => (k i hi (Nat.lt_of_lt_of_le hlt hs)).trans (h i hi hlt)
theorem Same.of_kp {S : Nat → Prop} {r : Nat} {w w' : World} (h : Kp r w w') (hS : ∀ b, S b → b ≠ r) : Same S w w' := fun k hk hlt => h.block k hlt (hS k hk)
theorem Same.of_below {S : Nat → Prop} {w w' : World} (h : Below w.heap.size w w') : Same S w w' := fun k _ hlt => h.block k hlt
theorem Same.alloc {S : Nat → Prop} {a w : World} (h : Same S a w) (hs : a.heap.size ≤ w.heap.size) (o : Obj) : Same S a (w.alloc o) :=
  fun k hk hlt => (Below.heap_alloc w o k (Nat.lt_of_lt_of_le hlt hs)).trans (h k hk hlt)
theorem Same.drew {S : Nat → Prop} {a w : World} (h : Same S a w) : Same S a w.drew := h
theorem Same.setCell {S : Nat → Prop} {a w : World} (h : Same S a w) {p : Addr} (hp : ¬ S p.block ∨ a.heap.size ≤ p.block) (u : Value) : Same S a (w.setCell p u) :=
  fun k hk hlt => (Below.heap_setCell w p u k (by
    rintro rfl
    rcases hp with hp | hp
    · exact hp hk
    · omega)).trans (h k hk hlt)
theorem Same.cell {S : Nat → Prop} {w w' : World} (h : Same S w w') {a : Addr} (hB : S a.block) {v : Value} (hc : w.cell? a = some v) : w'.cell? a = some v :=
  (World.cell?_of_block (w := w) (h a.block hB (lt_of_cell hc))).trans hc
theorem CellsAt.same {S : Nat → Prop} {w w' : World} {a : Option Addr} {cs : List Value} (h : CellsAt w S a cs) (hs : Same S w w') : CellsAt w' S a cs := by
  rcases h with h | ⟨ad, rfl, hb, hc⟩
  · exact .inl h
  · exact .inr ⟨ad, rfl, hb, fun j u hu => hs.cell (by rw [block_of_add]; exact hb) (hc j u hu)⟩
theorem CellsAt.mono {S S' : Nat → Prop} {w : World} {a : Option Addr} {cs : List Value} (h : CellsAt w S a cs) (hS : ∀ b, S b → b < w.heap.size → S' b) : CellsAt w S' a cs := by
  rcases h with h | ⟨ad, rfl, hb, hc⟩
  · exact .inl h
  · cases cs with
    | nil => exact .inl rfl
    | cons v cs => exact .inr ⟨ad, rfl, hS _ hb (by have := lt_of_cell (hc 0 v rfl); rwa [block_of_add] at this), hc⟩
theorem CellsAt.nil_ {S : Nat → Prop} {w : World} {a : Option Addr} : CellsAt w S a [] := .inl rfl
theorem CellsAt.at_ {w : World} {S : Nat → Prop} {a : Option Addr} {cs : List Value} (h : CellsAt w S a cs) {j : Nat} {u : Value} (hu : cs[j]? = some u) :
    ∃ b off, a = some ⟨b, off, none⟩ ∧ S b ∧ w.cell? ⟨b, off + j, none⟩ = some u := by
  rcases h with h | ⟨⟨b, off, sp⟩, rfl, hb, hc⟩
  · rw [h] at hu; cases hu
  · have h0 := hc j u hu
    unfold Addr.add at h0
    by_cases hj : j = 0
    · subst hj
      cases sp with
      | none => exact ⟨b, off, rfl, hb, by simpa using h0⟩
      | some k => simp only [if_true] at h0; unfold World.cell? at h0; split at h0 <;> simp at h0
    · simp only [if_neg hj] at h0
      have hl : 0 < cs.length := by
        rcases Nat.lt_or_ge j cs.length with hl | hl
        · omega
        · rw [List.getElem?_eq_none hl] at hu; cases hu
      have h1 := hc 0 _ (List.getElem?_eq_getElem hl)
      cases sp with
      | none => exact ⟨b, off, rfl, hb, h0⟩
      | some k => simp only [Addr.add, if_true] at h1; unfold World.cell? at h1; split at h1 <;> simp at h1
theorem CellsAt.first {w : World} {S : Nat → Prop} {a : Option Addr} {v : Value} {cs : List Value} (h : CellsAt w S a (v :: cs)) :
    ∃ b off, a = some ⟨b, off, none⟩ ∧ S b ∧ ∀ j u, (v :: cs)[j]? = some u → w.cell? ⟨b, off + j, none⟩ = some u := by
  obtain ⟨b, off, rfl, hb, _⟩ := h.at_ (j := 0) (u := v) rfl
  refine ⟨b, off, rfl, hb, fun j u hu => ?_⟩
  obtain ⟨b', off', h1, _, h2⟩ := h.at_ hu
  cases h1
  exact h2
theorem Kp.here {r : Nat} {a w : World} (h : Kp r a w) {i : Nat} {u : Value} : Kp r a (w.setCell ⟨r, i, none⟩ u) := h.setCell (.inl rfl) u
theorem Kp.new_ {r b : Nat} {a w : World} (h : Kp r a w) (hb : a.heap.size ≤ b) {i : Nat} {u : Value} : Kp r a (w.setCell ⟨b, i, none⟩ u) := h.setCell (.inr hb) u
theorem Kp.alloc_ {r : Nat} {a w : World} (h : Kp r a w) {o : Obj} : Kp r a (w.alloc o) := h.alloc o
/-- The blocks from lo on. -/
def From (lo : Nat) (b : Nat) : Prop := lo ≤ b
theorem From.down {lo lo' : Nat} {w : World} (h : lo ≤ lo') : ∀ b, From lo' b → b < w.heap.size → From lo b := fun _ hb _ => Nat.le_trans h hb
theorem Same.low {lo b : Nat} {a w : World} (h : Same (From lo) a w) (hb : b < lo) {i : Nat} {u : Value} : Same (From lo) a (w.setCell ⟨b, i, none⟩ u) :=
  h.setCell (.inl (by unfold From; simp; omega)) u
theorem Same.out {S : Nat → Prop} {b : Nat} {a w : World} (h : Same S a w) (hb : ¬ S b) {i : Nat} {u : Value} : Same S a (w.setCell ⟨b, i, none⟩ u) := h.setCell (.inl hb) u
theorem Same.new_ {S : Nat → Prop} {b : Nat} {a w : World} (h : Same S a w) (hb : a.heap.size ≤ b) {i : Nat} {u : Value} : Same S a (w.setCell ⟨b, i, none⟩ u) := h.setCell (.inr hb) u
theorem Same.alloc_ {S : Nat → Prop} {a w : World} (h : Same S a w) (hs : a.heap.size ≤ w.heap.size) {o : Obj} : Same S a (w.alloc o) := h.alloc hs o

section
variable {w W : World} {o : Obj}
theorem Blk.of_alloc {g : Nat} {t : TypeId} {cs : List Value} (hW : w.alloc o = W) (h : Blk w g t cs) : Blk W g t cs := hW ▸ h.alloc o
theorem Blk.new_of {t : TypeId} {cs : List Value} (hW : w.alloc (.cells cs.toArray t) = W) : Blk W w.heap.size t cs := hW ▸ Blk.new w t cs
theorem Kp.of_alloc {r : Nat} {a : World} (hW : w.alloc o = W) (h : Kp r a w) : Kp r a W := hW ▸ h.alloc o
theorem cell_of_alloc {b i : Nat} {v : Value} (hW : w.alloc o = W) (h : w.cell? ⟨b, i, none⟩ = some v) : W.cell? ⟨b, i, none⟩ = some v := by
  subst hW
  exact (World.cell?_alloc_lt w o _ (lt_of_cell h)).trans h
theorem Same.of_alloc {S : Nat → Prop} (hW : w.alloc o = W) : Same S w W := hW ▸ (Same.refl S w).alloc (Nat.le_refl _) o
theorem size_of_alloc (hW : w.alloc o = W) : W.heap.size = w.heap.size + 1 := by subst hW; simp
end

/-- A new block that holds just these. -/
theorem CellsAt.new {S : Nat → Prop} (w : World) (t : TypeId) (cs : List Value) (hS : S w.heap.size) : CellsAt (w.alloc (.cells cs.toArray t)) S (some ⟨w.heap.size, 0, none⟩) cs := by
  refine .inr ⟨_, rfl, hS, fun j u hu => ?_⟩
  have := (Blk.new w t cs).cell j
  unfold Addr.add
  by_cases hj : j = 0
  · subst hj; simpa using this.trans hu
  · simpa [hj] using this.trans hu

/-- 'x[l:]' of a slice, in one word. -/
theorem run_slice_from {P : Program} (t e : TypeId) (s : Nat) (ht : P.underlying t = some (.slice e)) (hs : ∀ w, (Go.sizeOf e).run P w = .ok s w)
    (a : Option Addr) (len cap l : Nat) (hl : l ≤ len) (w : World) :
    (Instr.slice t (.slice a len cap) (some (.int .i64 (l : Int))) none none).run P w = .ok (.slice (if cap = l then a else a.map (·.add (l * s))) (len - l) (cap - l)) w := by
  have he : P.elem t = e := by simp [Program.elem, ht]
  have h := run_slice_l (P := P) (w := w) t a len cap (by rw [he]; exact ht) .i64 (l : Int) (by omega) (by omega)
  rw [h, he, hs]
  simp [Result.andThen, sliced]
end Go.Proofs.YtaonmhegnnpgaaaDoor
