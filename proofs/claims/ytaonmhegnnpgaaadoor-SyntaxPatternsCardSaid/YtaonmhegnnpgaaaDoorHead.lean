/- The laws' live question. Condition: the tables are laid. -/
import Derived.Test.YtaonmhegnnpgaaaDoorPar
import Derived.BigQuiet
namespace Go.Proofs.YtaonmhegnnpgaaaDoor
open Go Go.RowKit

def headQ : Qry := ⟨[⟨[⟨⟨#[97]⟩, ⟨#[65]⟩⟩, ⟨⟨#[98]⟩, ⟨#[]⟩⟩], [⟨⟨#[101]⟩, ⟨#[]⟩, false, 0, 0, 0⟩]⟩], [], false, [⟨.mk 3 [] ⟨#[97]⟩ ⟨#[120]⟩ vl0, ⟨#[110]⟩⟩], [], 3⟩
set_option maxRecDepth 100000 in
theorem head_plain : readR (fun en L => queryR en 100 L) (ByteArray.mk #[77, 65, 84, 67, 72, 32, 40, 97, 58, 65, 41, 45, 91, 101, 93, 45, 62, 40, 98, 41, 32, 82, 69, 84, 85, 82, 78, 32, 97, 46, 120, 32, 65, 83, 32, 110, 32, 76, 73, 77, 73, 84, 32, 51]).data.toList = some (.ok headQ) := by kernel_rfl

/-- Where things lie one behind the other, of which there is at least one. -/
theorem RepS.cons_ {α : Type} {Y : Lay α} {w : World} {S : Nat → Prop} {x : α} {xs : List α} {v : Value} (h : RepS Y w S (x :: xs) v) (h0 : 0 < Y.n) :
    ∃ b off c cs, v = .slice (some ⟨b, off, none⟩) (xs.length + 1) c ∧ Y.R w S x cs ∧ S b ∧ ∀ j u, cs[j]? = some u → w.cell? ⟨b, off + j, none⟩ = some u := by
  obtain ⟨a, c, ks, rfl, hc, c1, c2, rfl, hx, hr⟩ := h
  have hs := Y.size hx
  cases c1 with
  | nil => simp at hs; omega
  | cons u c1 =>
    obtain ⟨b, off, rfl, hb, hcell⟩ := CellsAt.first hc
    refine ⟨b, off, c, u :: c1, rfl, hx, hb, fun j v hj => hcell j v ?_⟩
    have hlt := (List.getElem?_eq_some_iff.1 hj).1
    show ((u :: c1) ++ c2)[j]? = some v
    rw [List.getElem?_append_left hlt]
    exact hj

set_option maxRecDepth 100000 in
set_option maxHeartbeats 1000000 in
theorem head_calls (w : World) (hT : Tabs w) :
    Calls Tryd.prog 6 #[] w fun e w' => e = .returned (.bool true) ∧ Below w.heap.size w w' := by
  go_enter Tryd.func6, Tryd.ntmps6
  go_wp2_with fail
  refine (query_parses 100 (by decide) _ _ (by decide) hT _ head_plain).mono ?_
  rintro e w1 ⟨hb1, cs, rfl, v0, v1, v3, v4, rfl, g0, g1, g3, g4⟩
  obtain ⟨pb, po, pc, ps, rfl, ⟨nv, ev, rfl, gn, ge⟩, _, hpc⟩ := g0.cons_ (by decide)
  obtain ⟨nb, no, nc, ns, rfl, _, _, _⟩ := gn.cons_ (by decide)
  obtain ⟨ib, io, ic, is, rfl, ⟨ds, rfl, gi⟩, _, hic⟩ := g3.cons_ (by decide)
  obtain ⟨a1, n1, c1, rfl⟩ := g1.form
  obtain ⟨a4, n4, c4, rfl⟩ := g4.form
  have hds : ds.length = 9 := by obtain ⟨_, _, _, _, _, _, _, _, _, _, _, _, _, rfl⟩ := gi.nine; rfl
  have i9 := hic 9 (.string ⟨#[110]⟩) (by rw [List.getElem?_append_right (by omega), hds]; rfl)
  have p0 := hpc 0 _ rfl
  clear hpc hic gi gn ge g0 g1 g3 g4
  have hlp := lt_of_cell p0
  have hli := lt_of_cell i9
  simp only [Nat.add_zero] at p0
  simp only [List.length_nil, List.length_cons, Nat.zero_add, headQ] at p0 ⊢
  go_wp2_with fail
  go_ret
  exact ⟨rfl, hb1.alloc hb1.size _⟩
end Go.Proofs.YtaonmhegnnpgaaaDoor
