/- The contract of the grammar's brackets, by induction on the fuel. No condition. -/
import Derived.Test.YtaonmhegnnpgaaaDoorRdJ
namespace Go.Proofs.YtaonmhegnnpgaaaDoor
open Go Go.RowKit

theorem must1_calls (r : Nat) (L : List Tok) (s : ByteArray) (b c : Nat) (en d : Int) (w : World) (h : Rd w r L en d) (hs : w.cell? ⟨b, 0, none⟩ = some (.string s)) (hb : ¬ b = r)
    (res : Except (Int × Int) (Unit × List Tok)) (hres : mustR en s L = some res) :
    Calls Tryd.prog 38 #[.pointer (some ⟨r, 0, none⟩), .slice (some ⟨b, 0, none⟩) 1 c] w (Post r en d w NoVal res) := by
  refine must_calls r L [s] (some ⟨b, 0, none⟩) c en d w h (.inr ⟨_, rfl, hb, ?_⟩) (by simp) res ?_
  · intro j u hu
    cases j with
    | zero => simp at hu; subst hu; simpa [Addr.add] using hs
    | succ j => simp at hu
  · rw [← hres]; simp [mustsR, mustR]

set_option maxHeartbeats 1000000 in
theorem within_calls (n : Nat) (ih : NtAt n) (r : Nat) (L : List Tok) (en d : Int) (w : World) (res : Except (Int × Int) (Ex × List Tok)) (h : Rd w r L en d) (hd0 : 0 ≤ d) (hd1 : d ≤ 50) (hres : parse en (n + 1) .within d L = some res) :
    Calls Tryd.prog 76 #[.pointer (some ⟨r, 0, none⟩)] w (Post r en d w (EVal w.heap.size) res) := by
  simp only [parse] at hres
  have hRes := Lib.hid hres
  have hI := Lib.hid ih
  clear hres ih
  have hr := h.lt
  go_enter Tryd.func76, Tryd.ntmps76
  go_wp2_with fail
  have hQ0 := Blk.new w 57 [.int .i64 0, .slice none 0 0, .string ⟨#[]⟩, .string ⟨#[]⟩, .int .i64 0, .bool false, .int .i64 0, .string ⟨#[]⟩, .slice none 0 0]
  have hk0 := (Kp.refl r w).alloc (.cells #[.int .i64 0, .slice none 0 0, .string ⟨#[]⟩, .string ⟨#[]⟩, .int .i64 0, .bool false, .int .i64 0, .string ⟨#[]⟩, .slice none 0 0] 57)
  have hRd := h.alloc (.cells #[.int .i64 0, .slice none 0 0, .string ⟨#[]⟩, .string ⟨#[]⟩, .int .i64 0, .bool false, .int .i64 0, .string ⟨#[]⟩, .slice none 0 0] 57)
  refine (next_calls r L en d _ hRd).mono ?_
  rintro e w1 ⟨rfl, hb1⟩
  have h1 := hRd.below hb1
  have hk1 := hk0.below hb1
  have hQ1 := hQ0.below hb1 (by simp)
  have hs1 := hb1.size
  simp only [World.size_alloc] at hs1
  clear hQ0 hk0 hRd hb1
  rw [place_next]
  go_wp2_with fail
  have hr1 := h1.lt
  have hres := hRes.out
  clear hRes
  obtain ⟨r2, hr2⟩ := Res.bind_some hres
  rw [hr2] at hres
  have hRes := Lib.hid hres
  clear hres
  refine (must1_calls r L sOpen w1.heap.size 1 en d _ h1.alloc_ (by simp [go_sem]; rfl) (by omega) r2 hr2).mono ?_
  rintro e w2 hpost
  have hres := hRes.out
  clear hRes hr2
  rcases r2 with ⟨pos', code⟩ | ⟨u, L1⟩
  · obtain ⟨rfl, hk2⟩ := hpost
    simp only [gave]
    go_wp2_with fail
    cases hres
    exact ⟨rfl, rfl, hk1.alloc_.trans hk2⟩
  simp only [Res.bind_ok] at hres
  obtain ⟨v, rfl, rfl, h2, hk2⟩ := hpost
  have hQ2 := (hQ1.alloc_).kp hk2 (by omega)
  have hk2' := hk1.alloc_.trans hk2
  have hs2 := hk2.size
  simp only [World.size_alloc] at hs2
  clear h1 hk1 hQ1 hk2
  obtain ⟨r3, hr3⟩ := Res.bind_some hres
  rw [hr3] at hres
  have hRes := Lib.hid hres
  have hR3 := Lib.hid hr3
  clear hres hr3
  go_wp2_with fail
  refine (deeper_calls r L1 en d (place en L) _ h2 hd0 hd1 26 (enters_of Tryd.func26 (by kernel_rfl) rfl) #[.pointer (some ⟨r, 0, none⟩)] #[] _
    (fun wx res' hrd _ hd hf => hI.out .expr n rfl (Nat.le_refl _) r L1 en (d + 1) wx res' hrd (by omega) hd hf) r3 hR3.out).mono ?_
  rintro e w3 hpost
  have hres := hRes.out
  clear hRes hR3 hI
  rcases r3 with ⟨pos', code⟩ | ⟨x, L2⟩
  · obtain ⟨rfl, hk3⟩ := hpost
    simp only [gave]
    go_wp2_with fail
    cases hres
    exact ⟨rfl, rfl, hk2'.trans hk3⟩
  simp only [Res.bind_ok] at hres
  obtain ⟨v, rfl, hv, h3, hk3⟩ := hpost
  obtain ⟨op, ka, kn, kc, nm, pr, vk, vb, vm, vt, pa, pn, pc, rfl, hx⟩ := hv.nine
  have hQ3 := hQ2.kp hk3 (by omega)
  have hk3' := hk2'.trans hk3
  have hs3 := hk3.size
  clear h2 hk2' hQ2 hk3 hv
  obtain ⟨r4, hr4⟩ := Res.bind_some hres
  rw [hr4] at hres
  have hRes := Lib.hid hres
  have hR4 := Lib.hid hr4
  clear hres hr4
  have hr3 := h3.lt
  go_wp2_with fail
  generalize hW : w3.alloc (.cells #[.int .i64 op, .slice ka kn kc, .string nm, .string pr, .int .i64 vk, .bool vb, .int .i64 vm, .string vt, .slice pa pn pc] 57) = W
  have hX4 := Blk.new_of (cs := [.int .i64 op, .slice ka kn kc, .string nm, .string pr, .int .i64 vk, .bool vb, .int .i64 vm, .string vt, .slice pa pn pc]) hW
  have hQ4 := Blk.of_alloc hW hQ3
  have hk4 := Kp.of_alloc hW hk3'
  have h4 := Rd.of_alloc hW h3
  have hx4 := RepE.same (Same.of_alloc hW) hx
  have hz4 := size_of_alloc hW
  clear hW hQ3 hk3' h3 hx
  refine (must1_calls r L2 sShut (w3.heap.size + 1) 1 en d _ h4.alloc_ (by rw [← hz4]; exact (Blk.new W _ [.string sShut]).cell 0) (by omega) r4 hR4.out).mono ?_
  rintro e w5 hpost
  have hres := hRes.out
  clear hRes hR4
  rcases r4 with ⟨pos', code⟩ | ⟨u', L3⟩
  · obtain ⟨rfl, hk5⟩ := hpost
    simp only [gave]
    go_wp2_with fail
    cases hres
    exact ⟨rfl, rfl, hk4.alloc_.trans hk5⟩
  obtain ⟨v, rfl, rfl, h5, hk5⟩ := hpost
  cases hres
  have hX5 := (hX4.alloc_).kp hk5 (by omega)
  have hQ5 := (hQ4.alloc_).kp hk5 (by omega)
  have hx5 := RepE.same (Same.of_kp hk5 fun b hb => by unfold From at hb; omega) (RepE.same ((Same.refl _ _).alloc (Nat.le_refl _) (.cells #[.string sShut] 9)) hx4)
  have hk := hk4.alloc_.trans hk5
  obtain ⟨q0, q1, q2, q3, q4, q5, q6, q7, q8⟩ := hQ5.c9
  obtain ⟨x0, x1, x2, x3, x4, x5, x6, x7, x8⟩ := hX5.c9
  have fQ := hQ5.frozen
  clear hX4 hQ4 hx4 hk4 h4 hk5 hX5 hQ5 hz4
  go_wp2_with fail
  exact bodyPost_ret (v := .agg #[.int .i64 op, .slice ka kn kc, .string nm, .string pr, .int .i64 vk, .bool vb, .int .i64 vm, .string vt, .slice pa pn pc]) (by simp [results, Tryd.results76, go_sem, *]) rfl (Post.end9 h5 hk hx5 hr (Nat.le_refl _) (by omega))
end Go.Proofs.YtaonmhegnnpgaaaDoor
