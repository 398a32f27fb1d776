/- The reader of words in memory, and the contracts of its small methods. No condition. -/
import Derived.Test.YtaonmhegnnpgaaaDoorProg
import Derived.Test.YtaonmhegnnpgaaaDoorRep
import Derived.WalkKit
import Derived.Outline
import Derived.KernelRfl
import Derived.WalkSpells
import Derived.WalkLawsBesides
namespace Go.Proofs.YtaonmhegnnpgaaaDoor
open Go Go.RowKit

section
variable (v0 v1 v2 v3 : Value) (w : World)
@[go_sem] theorem field_tok0 : (Instr.field 30 (.agg #[v0, v1, v2, v3]) 0).run Tryd.prog w = .ok v0 w := by kernel_rfl
@[go_sem] theorem field_tok1 : (Instr.field 30 (.agg #[v0, v1, v2, v3]) 1).run Tryd.prog w = .ok v1 w := by kernel_rfl
@[go_sem] theorem field_tok3 : (Instr.field 30 (.agg #[v0, v1, v2, v3]) 3).run Tryd.prog w = .ok v3 w := by kernel_rfl
end

/-- A reader in block r: its words, the text's end, how deep it is. -/
def Rd (w : World) (r : Nat) (L : List Tok) (en d : Int) : Prop :=
  ∃ a c, L.length ≤ c ∧ c ≤ 9223372036854775807 ∧ Blk w r 105 [.slice a L.length c, .int .i64 en, .int .i64 d] ∧ (∀ ad, a = some ad → ad.block < r) ∧ Toks w a L

theorem Toks.first {w : World} {a : Option Addr} {t : Tok} {L : List Tok} (h : Toks w a (t :: L)) :
    ∃ b off, a = some ⟨b, off, none⟩ ∧ w.cell? ⟨b, off, none⟩ = some (.int .i64 t.kind) ∧ w.cell? ⟨b, off + 1, none⟩ = some (.string t.text) ∧
      w.cell? ⟨b, off + 2, none⟩ = some (.int .i64 t.num) ∧ w.cell? ⟨b, off + 3, none⟩ = some (.int .i64 t.pos) := by
  obtain ⟨b, off, ha, _, hc⟩ := CellsAt.first (v := .int .i64 t.kind) (cs := .string t.text :: .int .i64 t.num :: .int .i64 t.pos :: L.flatMap tokCells) h
  exact ⟨b, off, ha, hc 0 _ rfl, hc 1 _ rfl, hc 2 _ rfl, hc 3 _ rfl⟩

section
variable {w w' : World} {r : Nat} {L : List Tok} {en d : Int}
theorem Toks.same {a : Option Addr} {r : Nat} (h : Toks w a L) (ha : ∀ ad, a = some ad → ad.block < r) (hs : ∀ k, k < w.heap.size → k < r → w'.heap[k]? = w.heap[k]?) : Toks w' a L := by
  rcases h with h | ⟨ad, rfl, hb, hc⟩
  · exact .inl h
  · exact .inr ⟨ad, rfl, hb, fun j u hu => by
      have h1 := hc j u hu
      have h2 := lt_of_cell h1
      rw [block_of_add] at h2
      exact (World.cell?_of_block (w := w) (by rw [block_of_add]; exact hs _ h2 (ha _ rfl))).trans h1⟩
theorem Rd.lt (h : Rd w r L en d) : r < w.heap.size := by obtain ⟨a, c, _, _, hb, _, _⟩ := h; exact hb.lt
theorem Rd.below (h : Rd w r L en d) (hb : Below w.heap.size w w') : Rd w' r L en d := by
  obtain ⟨a, c, h1, h2, h3, h4, h5⟩ := h
  exact ⟨a, c, h1, h2, h3.below hb h3.lt, h4, h5.same h4 fun k hk _ => hb.block k hk⟩
theorem Rd.alloc (h : Rd w r L en d) (o : Obj) : Rd (w.alloc o) r L en d := h.below ((Below.refl _ _).alloc (Nat.le_refl _) o)
theorem Rd.drew (h : Rd w r L en d) : Rd w.drew r L en d := h.below (Below.refl _ _).drew
theorem Rd.far (h : Rd w r L en d) {p : Addr} (hp : r < p.block) (u : Value) : Rd (w.setCell p u) r L en d := by
  obtain ⟨a, c, h1, h2, h3, h4, h5⟩ := h
  exact ⟨a, c, h1, h2, h3.far (by omega) u, h4, h5.same h4 fun k _ hr => Below.heap_setCell w p u k (by omega)⟩
theorem Rd.alloc_ (h : Rd w r L en d) {o : Obj} : Rd (w.alloc o) r L en d := h.alloc o
theorem Rd.far_ {b : Nat} (h : Rd w r L en d) (hb : r < b) {i : Nat} {u : Value} : Rd (w.setCell ⟨b, i, none⟩ u) r L en d := h.far (p := ⟨b, i, none⟩) hb u
theorem Rd.of_alloc {o : Obj} (hW : w.alloc o = w') (h : Rd w r L en d) : Rd w' r L en d := hW ▸ h.alloc o
/-- The reader's cells, as the walk reads them. -/
theorem Rd.facts (h : Rd w r L en d) : ∃ a c, L.length ≤ c ∧ c ≤ 9223372036854775807 ∧ w.cell? ⟨r, 0, none⟩ = some (.slice a L.length c) ∧ w.cell? ⟨r, 1, none⟩ = some (.int .i64 en) ∧
    w.cell? ⟨r, 2, none⟩ = some (.int .i64 d) ∧ w.frozen? ⟨r, 0, none⟩ = false ∧ w.frozen? ⟨r, 2, none⟩ = false := by
  obtain ⟨a, c, h1, h2, h3, h4, h5⟩ := h
  exact ⟨a, c, h1, h2, h3.cell 0, h3.cell 1, h3.cell 2, h3.frozen 0, h3.frozen 2⟩
/-- Its words cut by one, as the model cuts. -/
theorem Rd.cut {t : Tok} (h : Rd w r (t :: L) en d) {a : Option Addr} {c : Nat} (h0 : w.cell? ⟨r, 0, none⟩ = some (.slice a (t :: L).length c)) :
    Rd (w.setCell ⟨r, 0, none⟩ (.slice (if c = 1 then a else a.map (·.add 4)) L.length (c - 1))) r L en d := by
  obtain ⟨a', c', h1, h2, h3, h4, h5⟩ := h
  have h6 := (h3.cell 0).symm.trans h0
  simp only [List.getElem?_cons_zero, Option.some.injEq, Value.slice.injEq] at h6
  obtain ⟨rfl, _, rfl⟩ := h6
  refine ⟨_, _, by simp at h1; omega, by omega, h3.set_ 0 _, ?_, ?_⟩
  · intro ad had
    split at had
    · exact h4 _ had
    · cases a' with
      | none => cases had
      | some x => cases had; rw [block_of_add]; exact h4 _ rfl
  · have h7 : Toks w (if c' = 1 then a' else a'.map (·.add 4)) L := by
      rcases h5 with h5 | ⟨ad, rfl, hb, hc⟩
      · simp [tokCells] at h5
      · cases L with
        | nil => exact .inl rfl
        | cons t' L =>
          have : c' ≠ 1 := by simp at h1; omega
          rw [if_neg this]
          refine .inr ⟨ad.add 4, rfl, trivial, fun j u hu => ?_⟩
          rw [add_of_add]
          exact hc (4 + j) u (by rw [← hu, Nat.add_comm]; rfl)
    refine h7.same (r := r) ?_ fun k _ hk => Below.heap_setCell w _ _ k (by simp; omega)
    intro ad had
    split at had
    · exact h4 _ had
    · cases a' with
      | none => cases had
      | some x => cases had; rw [block_of_add]; exact h4 _ rfl
end

theorem place_next (en : Int) (L : List Tok) : (nextT en L).pos = place en L := by cases L <;> rfl

theorem next_calls (r : Nat) (L : List Tok) (en d : Int) (w : World) (h : Rd w r L en d) :
    Calls Tryd.prog 57 #[.pointer (some ⟨r, 0, none⟩)] w fun e w' => e = .returned (.agg #[.int .i64 (nextT en L).kind, .string (nextT en L).text, .int .i64 (nextT en L).num, .int .i64 (nextT en L).pos]) ∧ Below w.heap.size w w' := by
  obtain ⟨a, c, hc, hcm, hb, ha, ht⟩ := h
  have h0 := hb.cell 0
  have h1 := hb.cell 1
  have hr := hb.lt
  simp only [List.getElem?_cons_zero, List.getElem?_cons_succ] at h0 h1
  cases L with
  | nil =>
    clear hb ha ht
    go_enter Tryd.func57, Tryd.ntmps57
    go_wp2
    exact bodyPost_ret (v := .agg #[.int .i64 0, .string ⟨#[]⟩, .int .i64 0, .int .i64 en]) (by simp [results, Tryd.results57, go_sem]) rfl ⟨rfl, (Below.refl _ _).alloc (Nat.le_refl _) _⟩
  | cons t L =>
    obtain ⟨b, off, rfl, k0, k1, k2, k3⟩ := Toks.first ht
    have hbl : b < w.heap.size := lt_of_cell k0
    clear hb ha ht
    go_enter Tryd.func57, Tryd.ntmps57
    go_wp2
    exact bodyPost_ret (v := .agg #[.int .i64 t.kind, .string t.text, .int .i64 t.num, .int .i64 t.pos]) (by simp [results, Tryd.results57, go_sem]) rfl ⟨rfl, (Below.refl _ _).alloc (Nat.le_refl _) _⟩
/-- What a reader gives up with. -/
def gave (pos code : Int) : Ending := .panicked [{ v := .iface 103 (.agg #[.int .i64 pos, .int .i64 code]), recovered := false }]

theorem stop_calls (r : Nat) (L : List Tok) (en d : Int) (w : World) (h : Rd w r L en d) :
    Calls Tryd.prog 37 #[.pointer (some ⟨r, 0, none⟩)] w fun e w' => e = gave (place en L) 81 ∧ Below w.heap.size w w' := by
  go_enter Tryd.func37, Tryd.ntmps37
  go_wp2_with fail
  refine (next_calls r L en d w h).mono ?_
  rintro e w1 ⟨rfl, hb1⟩
  go_wp2_with fail
  rw [place_next]
  exact ⟨rfl, rfl, hb1⟩

theorem take_calls (r : Nat) (t : Tok) (L : List Tok) (en d : Int) (w : World) (h : Rd w r (t :: L) en d) :
    Calls Tryd.prog 60 #[.pointer (some ⟨r, 0, none⟩)] w fun e w' => e = .returned (.agg #[.int .i64 t.kind, .string t.text, .int .i64 t.num, .int .i64 t.pos]) ∧ Rd w' r L en d ∧ Kp r w w' := by
  go_enter Tryd.func60, Tryd.ntmps60
  go_wp2_with fail
  have hr := h.lt
  refine (next_calls r (t :: L) en d _ (h.alloc _)).mono ?_
  rintro e w1 ⟨rfl, hb1⟩
  simp only [nextT]
  have h1 := (h.alloc _).below hb1
  obtain ⟨a, c, hc, hcm, g0, g1, g2, f0, f2⟩ := h1.facts
  have hcut := h1.cut g0
  obtain ⟨a', ha'⟩ : ∃ a', a' = if c = 1 then a else a.map (·.add 4) := ⟨_, rfl⟩
  rw [← ha'] at hcut
  have hsl : ∀ W, (Instr.slice 24 (.slice a (L.length + 1) c) (some (.int .i64 1)) none none).run Tryd.prog W = .ok (.slice a' L.length (c - 1)) W := by
    intro W
    rw [ha']
    have := run_slice_from (P := Tryd.prog) 24 30 4 Tryd.underlying24 (fun _ => by kernel_rfl) a (L.length + 1) c 1 (by omega) W
    simpa using this
  obtain ⟨c1, c2⟩ := below_rules hb1
  have hr1 := h1.lt
  have hs := hb1.size
  simp only [World.size_alloc] at hs
  have hlt : w.heap.size < w1.heap.size := hs
  have hne : ¬ w.heap.size = r := by omega
  simp only [List.length_cons] at hc g0
  clear ha' hs
  go_wp2_with fail
  refine bodyPost_ret (v := .agg #[.int .i64 t.kind, .string t.text, .int .i64 t.num, .int .i64 t.pos]) (by simp [results, Tryd.results60, go_sem, *]) rfl ⟨rfl, ?_, ?_⟩
  · exact ((((hcut.far (by simp; omega) _).far (by simp; omega) _).far (by simp; omega) _).far (by simp; omega) _).alloc _
  · exact (((((((Kp.refl r w).alloc _).below hb1).setCell (.inl rfl) _).setCell (.inr (by simp)) _).setCell (.inr (by simp)) _).setCell (.inr (by simp)) _).setCell (.inr (by simp)) _ |>.alloc _
end Go.Proofs.YtaonmhegnnpgaaaDoor
