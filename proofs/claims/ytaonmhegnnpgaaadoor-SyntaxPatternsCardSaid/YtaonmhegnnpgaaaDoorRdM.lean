/- The contract of the grammar's plain expressions, by induction on the fuel. No condition. -/
import Derived.Test.YtaonmhegnnpgaaaDoorRdL
namespace Go.Proofs.YtaonmhegnnpgaaaDoor
open Go Go.RowKit

/-- A literal, as the reader hands it back. -/
theorem RepE.lit_ {w : World} {S : Nat → Prop} {v : Vl} {a : Option Addr} {c : Nat} (hp : v.path = []) :
    RepE w S (lit v) [.int .i64 1, .slice none 0 0, .string ⟨#[]⟩, .string ⟨#[]⟩, .int .i64 v.kind, .bool v.b, .int .i64 v.n, .string v.text, .slice a 0 c] :=
  ⟨none, 0, [], _, rfl, ⟨a, c, by rw [hp]; rfl, by rw [hp]; exact .nil_⟩, .nil_, rfl⟩

theorem lit_calls (r bx : Nat) (t : Tok) (L : List Tok) (en d : Int) (w : World) (v : Vl) (hp : v.path = []) (h : Rd w r (t :: L) en d) (hb : w.cell? ⟨bx, 0, none⟩ = some (.pointer (some ⟨r, 0, none⟩))) :
    Calls Tryd.prog 74 #[.agg #[.int .i64 v.kind, .bool v.b, .int .i64 v.n, .string v.text, .slice none 0 0], .pointer (some ⟨bx, 0, none⟩)] w
      (Post r en d w (EVal w.heap.size) (.ok (lit v, L))) := by
  have hbl := lt_of_cell hb
  simp only at hbl
  have hr := h.lt
  go_enter Tryd.func74, Tryd.ntmps74
  go_wp2_with fail
  have hk0 := ((Kp.refl r w).alloc (.cells #[.int .i64 v.kind, .bool v.b, .int .i64 v.n, .string v.text, .slice none 0 0] 55)).alloc (.cells #[.int .i64 0, .slice none 0 0, .string ⟨#[]⟩, .string ⟨#[]⟩, .int .i64 0, .bool false, .int .i64 0, .string ⟨#[]⟩, .slice none 0 0] 57)
  have hV0 := (Blk.new w 55 [.int .i64 v.kind, .bool v.b, .int .i64 v.n, .string v.text, .slice none 0 0]).alloc_ (o := .cells #[.int .i64 0, .slice none 0 0, .string ⟨#[]⟩, .string ⟨#[]⟩, .int .i64 0, .bool false, .int .i64 0, .string ⟨#[]⟩, .slice none 0 0] 57)
  have hQ0 := Blk.new (w.alloc (.cells #[.int .i64 v.kind, .bool v.b, .int .i64 v.n, .string v.text, .slice none 0 0] 55)) 57 [.int .i64 0, .slice none 0 0, .string ⟨#[]⟩, .string ⟨#[]⟩, .int .i64 0, .bool false, .int .i64 0, .string ⟨#[]⟩, .slice none 0 0]
  simp only [World.size_alloc] at hQ0
  refine (take_calls r t L en d _ ((h.alloc _).alloc _)).mono ?_
  rintro e w1 ⟨rfl, h1, hk1⟩
  have hV1 := hV0.kp hk1 (by omega)
  have hQ1 := hQ0.kp hk1 (by omega)
  have hk := hk0.trans hk1
  have v0 := hV1.cell 0
  have v1 := hV1.cell 1
  have v2 := hV1.cell 2
  have v3 := hV1.cell 3
  have v4 := hV1.cell 4
  simp only [List.getElem?_cons_zero, List.getElem?_cons_succ] at v0 v1 v2 v3 v4
  obtain ⟨q0, q1, q2, q3, q4, q5, q6, q7, q8⟩ := hQ1.c9
  have fQ := hQ1.frozen
  clear hV0 hQ0 hk0 hk1 hV1 hQ1 hb
  go_wp2_with fail
  exact bodyPost_ret (v := .agg #[.int .i64 1, .slice none 0 0, .string ⟨#[]⟩, .string ⟨#[]⟩, .int .i64 v.kind, .bool v.b, .int .i64 v.n, .string v.text, .slice none 0 0]) (by simp [results, Tryd.results74, go_sem, *]) rfl
    (Post.end9 (lo := w.heap.size + 2) h1 hk (RepE.lit_ hp) (by omega) (by omega) (by omega))
end Go.Proofs.YtaonmhegnnpgaaaDoor
