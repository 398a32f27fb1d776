/- A pattern in the making. No condition. -/
import Derived.Test.YtaonmhegnnpgaaaDoorRdV
namespace Go.Proofs.YtaonmhegnnpgaaaDoor
open Go Go.RowKit

theorem Own.drew {α : Type} {Y : Lay α} {w : World} {lo : Nat} {t : TypeId} {v : Value} {acc : List α} (h : Own Y w lo t v acc) : Own Y w.drew lo t v acc := by
  obtain ⟨xs, h1, h2⟩ := h
  exact ⟨xs, h1, h2.imp fun x cs hx => Y.same (Same.refl _ _).drew hx⟩
/-- What is written aside leaves them. -/
theorem Own.grown {α : Type} {Y : Lay α} {w w' : World} {lo : Nat} {t : TypeId} {v : Value} {acc : List α} {row : Option Nat} (h : Own Y w lo t v acc) (hg : w.grownBy w' row) (hv : ∀ b, v.ownBlock = some b → ¬ row = some b)
    (hr : ∀ S x cs, Y.R w S x cs → Y.R w' S x cs) : Own Y w' lo t v acc := by
  obtain ⟨xs, h1, h2⟩ := h
  refine ⟨xs, h1.kept hg ?_, h2.imp fun x cs hx => hr _ _ _ hx⟩
  rcases hb : v.ownBlock with _ | b
  · exact .inl rfl
  · exact .inr fun e => hv b hb e.symm
theorem Own.set_far {α : Type} {Y : Lay α} {w W : World} {lo b i : Nat} {u : Value} {t : TypeId} {v : Value} {acc : List α} (hW : w.setCell ⟨b, i, none⟩ u = W) (h : Own Y w lo t v acc) (hv : ∀ k, v.ownBlock = some k → ¬ k = b)
    (hr : ∀ S x cs, Y.R w S x cs → Y.R W S x cs) : Own Y W lo t v acc := by
  subst hW
  exact h.grown (row := some b) ⟨rfl, rfl, rfl, by simp, fun k _ hr => Below.heap_setCell w ⟨b, i, none⟩ u k (fun e => hr (by simpa using e))⟩ (fun k hk e => hv k hk (by cases e; rfl)) hr
theorem Own.nil_ {α : Type} {Y : Lay α} (w : World) (lo : Nat) (t : TypeId) : Own Y w lo t (.slice none 0 0) [] := ⟨[], World.ownsRow_nil _ _ _ _, rfl⟩
theorem Own.toS' {α : Type} {Y : Lay α} {w : World} {lo : Nat} {t : TypeId} {v : Value} {acc : List α} (h : Own Y w lo t v acc) : RepS Y w (From lo) acc v := by
  cases acc with
  | cons x acc => exact h.toS (by simp)
  | nil =>
    obtain ⟨xs, h1, h2⟩ := h
    rcases h1.2 with ⟨rfl, _⟩ | ⟨g, cap, cur, rfl, _⟩
    · exact RepS.nil_
    · exact ⟨_, cap, [], rfl, .nil_, rfl⟩
theorem Own.slice {α : Type} {Y : Lay α} {w : World} {lo : Nat} {t : TypeId} {v : Value} {acc : List α} (h : Own Y w lo t v acc) : ∃ a n c, v = .slice a n c := by
  obtain ⟨xs, h1, h2⟩ := h
  rcases h1.2 with ⟨rfl, _⟩ | ⟨g, cap, cur, rfl, _⟩
  · exact ⟨_, _, _, rfl⟩
  · exact ⟨_, _, _, rfl⟩
/-- What the walk knows of a pattern in the making. -/
structure InMaking (w wr : World) (r P : Nat) (v u : Value) (ns : List NodeP) (es : List EdgeP) : Prop where
  kp : Kp r w wr
  res : Blk wr w.heap.size 42 [.slice none 0 0, .slice none 0 0]
  blk : Blk wr P 42 [v, u]
  nodes : Own layNode wr (w.heap.size + 1) 47 v ns
  edges : Own layEdge wr (w.heap.size + 1) 45 u es
  v_p : ∀ b, v.ownBlock = some b → ¬ b = P
  u_p : ∀ b, u.ownBlock = some b → ¬ b = P
  v_u : ∀ b, v.ownBlock = some b → ¬ u.ownBlock = some b

theorem InMaking.kept {w wr w' : World} {r P : Nat} {v u : Value} {ns : List NodeP} {es : List EdgeP} (h : InMaking w wr r P v u ns es) (hk : Kp r wr w') (hr : r < w.heap.size) (hP : w.heap.size + 1 ≤ P) : InMaking w w' r P v u ns es :=
  ⟨h.kp.trans hk, h.res.kp hk (by omega), h.blk.kp hk (by omega), h.nodes.kp hk (by omega), h.edges.kp hk (by omega), h.v_p, h.u_p, h.v_u⟩

theorem InMaking.edge {w w5 w8 w9 : World} {r P gg cap : Nat} {v u : Value} {ns : List NodeP} {es : List EdgeP} {y : EdgeP} {L : List Tok} {en d : Int} {xs : List Value} (hM : InMaking w w5 r P v u ns es) (hr : r < w.heap.size) (hP : w.heap.size + 1 ≤ P)
    (hk8 : Kp r w5.drew w8) (h8 : Rd w8 r L en d) (hreps : Reps (layEdge.R (w8.alloc (.cells #[.string y.var, .string y.label, .bool y.back, .int .i64 y.mode, .int .i64 y.least, .int .i64 y.most] 45)) fun b => w.heap.size + 1 ≤ b ∧ ¬ u.ownBlock = some b) es xs)
    (hown : w9.ownsRow (w.heap.size + 1) 45 6 (.slice (some ⟨gg, 0, none⟩) (es.length + 1) cap) (es.length + 1) (xs ++ [.string y.var, .string y.label, .bool y.back, .int .i64 y.mode, .int .i64 y.least, .int .i64 y.most])) (hgrow : (w8.alloc (.cells #[.string y.var, .string y.label, .bool y.back, .int .i64 y.mode, .int .i64 y.least, .int .i64 y.most] 45)).grownBy w9 u.ownBlock)
    (hat : u.ownBlock = some gg ∨ gg = w8.heap.size + 1) :
    Rd (w9.setCell ⟨P, 1, none⟩ (.slice (some ⟨gg, 0, none⟩) (es.length + 1) cap)) r L en d ∧
      InMaking w (w9.setCell ⟨P, 1, none⟩ (.slice (some ⟨gg, 0, none⟩) (es.length + 1) cap)) r P v (.slice (some ⟨gg, 0, none⟩) (es.length + 1) cap) ns (es ++ [y]) := by
  have hs8 := hk8.size
  simp only [World.size_drew] at hs8
  have hs5 := hM.kp.size
  have hPl := hM.blk.lt
  have hE0 := hM.edges
  have hN0 := hM.nodes
  have hlo : ∀ b, u.ownBlock = some b → w.heap.size + 1 ≤ b ∧ b < w5.heap.size := fun b hb => by
    obtain ⟨_, ho, _⟩ := hM.edges
    exact ho.lt b hb
  have hlo' : ∀ b, v.ownBlock = some b → w.heap.size + 1 ≤ b ∧ b < w5.heap.size := fun b hb => by
    obtain ⟨_, ho, _⟩ := hM.nodes
    exact ho.lt b hb
  have hne : ¬ gg = P := by
    rcases hat with hat | hat
    · exact hM.u_p _ hat
    · omega
  have hne' : ∀ b, v.ownBlock = some b → ¬ b = gg := by
    intro b hb e
    rcases hat with hat | hat
    · exact hM.v_u b hb (by rw [hat, e])
    · have := hlo' b hb; omega
  have hoth : Own layNode (w9.setCell ⟨P, 1, none⟩ (.slice (some ⟨gg, 0, none⟩) (es.length + 1) cap)) (w.heap.size + 1) 47 v ns :=
    Own.set_far rfl ((((hM.nodes.drew).kp hk8 (by omega)).alloc _).grown hgrow (fun b hb e => hM.v_u b hb e) (fun _ _ _ h => h)) (fun b hb => hM.v_p b hb) (fun _ _ _ h => h)
  have hown' : Own layEdge (w9.setCell ⟨P, 1, none⟩ (.slice (some ⟨gg, 0, none⟩) (es.length + 1) cap)) (w.heap.size + 1) 45 (.slice (some ⟨gg, 0, none⟩) (es.length + 1) cap) (es ++ [y]) :=
    Own.set_far rfl (Own.more hreps (show layEdge.R _ _ y [.string y.var, .string y.label, .bool y.back, .int .i64 y.mode, .int .i64 y.least, .int .i64 y.most] from rfl) hown (by simp) hgrow (by simpa using hat)) (fun b hb => by simp [Value.ownBlock] at hb; omega) (fun _ _ _ h => h)
  have hK := ((hM.kp.drew.trans hk8).alloc (.cells #[.string y.var, .string y.label, .bool y.back, .int .i64 y.mode, .int .i64 y.least, .int .i64 y.most] 45)).grown hgrow (fun b hb => by have := hlo b hb; omega)
  have hR := (h8.alloc (.cells #[.string y.var, .string y.label, .bool y.back, .int .i64 y.mode, .int .i64 y.least, .int .i64 y.most] 45)).grown hgrow (fun b hb => by have := hlo b hb; omega)
  have hQ := (((hM.res.drew).kp hk8 (by omega)).alloc (.cells #[.string y.var, .string y.label, .bool y.back, .int .i64 y.mode, .int .i64 y.least, .int .i64 y.most] 45)).grown hgrow (fun e => by have := hlo _ e.symm; omega)
  have hB := (((hM.blk.drew).kp hk8 (by omega)).alloc (.cells #[.string y.var, .string y.label, .bool y.back, .int .i64 y.mode, .int .i64 y.least, .int .i64 y.most] 45)).grown hgrow (fun e => hM.u_p _ e.symm rfl)
  exact ⟨hR.far_ (by omega), hK.new_ (by omega), hQ.far_ (by omega), hB.here rfl, hoth, hown', fun b hb => hM.v_p b hb, fun b hb => by simp [Value.ownBlock] at hb; omega, fun b hb hg => by simp [Value.ownBlock] at hg; exact hne' b hb hg.symm⟩

theorem InMaking.node {w w5 w8 w9 : World} {r P gg cap : Nat} {v u : Value} {ns : List NodeP} {es : List EdgeP} {y : NodeP} {L : List Tok} {en d : Int} {xs : List Value} (hM : InMaking w w5 r P v u ns es) (hr : r < w.heap.size) (hP : w.heap.size + 1 ≤ P)
    (hk8 : Kp r w5.drew w8) (h8 : Rd w8 r L en d) (hreps : Reps (layNode.R (w8.alloc (.cells #[.string y.var, .string y.label] 47)) fun b => w.heap.size + 1 ≤ b ∧ ¬ v.ownBlock = some b) ns xs)
    (hown : w9.ownsRow (w.heap.size + 1) 47 2 (.slice (some ⟨gg, 0, none⟩) (ns.length + 1) cap) (ns.length + 1) (xs ++ [.string y.var, .string y.label])) (hgrow : (w8.alloc (.cells #[.string y.var, .string y.label] 47)).grownBy w9 v.ownBlock)
    (hat : v.ownBlock = some gg ∨ gg = w8.heap.size + 1) :
    Rd (w9.setCell ⟨P, 0, none⟩ (.slice (some ⟨gg, 0, none⟩) (ns.length + 1) cap)) r L en d ∧
      InMaking w (w9.setCell ⟨P, 0, none⟩ (.slice (some ⟨gg, 0, none⟩) (ns.length + 1) cap)) r P (.slice (some ⟨gg, 0, none⟩) (ns.length + 1) cap) u (ns ++ [y]) es := by
  have hs8 := hk8.size
  simp only [World.size_drew] at hs8
  have hs5 := hM.kp.size
  have hPl := hM.blk.lt
  have hE0 := hM.edges
  have hN0 := hM.nodes
  have hlo : ∀ b, v.ownBlock = some b → w.heap.size + 1 ≤ b ∧ b < w5.heap.size := fun b hb => by
    obtain ⟨_, ho, _⟩ := hM.nodes
    exact ho.lt b hb
  have hlo' : ∀ b, u.ownBlock = some b → w.heap.size + 1 ≤ b ∧ b < w5.heap.size := fun b hb => by
    obtain ⟨_, ho, _⟩ := hM.edges
    exact ho.lt b hb
  have hne : ¬ gg = P := by
    rcases hat with hat | hat
    · exact hM.v_p _ hat
    · omega
  have hne' : ∀ b, u.ownBlock = some b → ¬ b = gg := by
    intro b hb e
    rcases hat with hat | hat
    · exact hM.v_u gg hat (by rw [hb, e])
    · have := hlo' b hb; omega
  have hoth : Own layEdge (w9.setCell ⟨P, 0, none⟩ (.slice (some ⟨gg, 0, none⟩) (ns.length + 1) cap)) (w.heap.size + 1) 45 u es :=
    Own.set_far rfl ((((hM.edges.drew).kp hk8 (by omega)).alloc _).grown hgrow (fun b hb e => hM.v_u b e hb) (fun _ _ _ h => h)) (fun b hb => hM.u_p b hb) (fun _ _ _ h => h)
  have hown' : Own layNode (w9.setCell ⟨P, 0, none⟩ (.slice (some ⟨gg, 0, none⟩) (ns.length + 1) cap)) (w.heap.size + 1) 47 (.slice (some ⟨gg, 0, none⟩) (ns.length + 1) cap) (ns ++ [y]) :=
    Own.set_far rfl (Own.more hreps (show layNode.R _ _ y [.string y.var, .string y.label] from rfl) hown (by simp) hgrow (by simpa using hat)) (fun b hb => by simp [Value.ownBlock] at hb; omega) (fun _ _ _ h => h)
  have hK := ((hM.kp.drew.trans hk8).alloc (.cells #[.string y.var, .string y.label] 47)).grown hgrow (fun b hb => by have := hlo b hb; omega)
  have hR := (h8.alloc (.cells #[.string y.var, .string y.label] 47)).grown hgrow (fun b hb => by have := hlo b hb; omega)
  have hQ := (((hM.res.drew).kp hk8 (by omega)).alloc (.cells #[.string y.var, .string y.label] 47)).grown hgrow (fun e => by have := hlo _ e.symm; omega)
  have hB := (((hM.blk.drew).kp hk8 (by omega)).alloc (.cells #[.string y.var, .string y.label] 47)).grown hgrow (fun e => hM.v_p _ e.symm rfl)
  exact ⟨hR.far_ (by omega), hK.new_ (by omega), hQ.far_ (by omega), hB.here rfl, hown', hoth, fun b hb => by simp [Value.ownBlock] at hb; omega, fun b hb => hM.u_p b hb, fun b hb hg => by simp [Value.ownBlock] at hb; exact hne' b hg hb.symm⟩
end Go.Proofs.YtaonmhegnnpgaaaDoor
