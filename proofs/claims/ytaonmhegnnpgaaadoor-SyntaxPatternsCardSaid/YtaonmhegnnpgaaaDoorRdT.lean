/- The contract of node. No condition. -/
import Derived.Test.YtaonmhegnnpgaaaDoorRdS
namespace Go.Proofs.YtaonmhegnnpgaaaDoor
open Go Go.RowKit

section
variable {w W : World} {b i : Nat} {u : Value}
theorem Blk.set_here {t : TypeId} {cs ds : List Value} (hW : w.setCell ⟨b, i, none⟩ u = W) (h : Blk w b t cs) (hd : ds = cs.set i u) : Blk W b t ds := hW ▸ h.here hd
theorem Blk.set_far {g : Nat} {t : TypeId} {cs : List Value} (hW : w.setCell ⟨b, i, none⟩ u = W) (h : Blk w g t cs) (hb : ¬ g = b) : Blk W g t cs := hW ▸ h.far_ hb
theorem Kp.set_new {r : Nat} {a : World} (hW : w.setCell ⟨b, i, none⟩ u = W) (h : Kp r a w) (hb : a.heap.size ≤ b) : Kp r a W := hW ▸ h.new_ hb
theorem Rd.set_far {r : Nat} {L : List Tok} {en d : Int} (hW : w.setCell ⟨b, i, none⟩ u = W) (h : Rd w r L en d) (hb : r < b) : Rd W r L en d := hW ▸ h.far_ hb
theorem Same.set_low {lo : Nat} (hW : w.setCell ⟨b, i, none⟩ u = W) (hb : b < lo) : Same (From lo) w W := hW ▸ (Same.refl _ _).low hb
theorem size_of_set (hW : w.setCell ⟨b, i, none⟩ u = W) : W.heap.size = w.heap.size := by subst hW; simp
end

/-- Two cells of a block, as the walk reads them. -/
theorem Blk.c2 {w : World} {g : Nat} {t : TypeId} {v0 v1 : Value} (h : Blk w g t [v0, v1]) : w.cell? ⟨g, 0, none⟩ = some v0 ∧ w.cell? ⟨g, 1, none⟩ = some v1 := ⟨h.cell 0, h.cell 1⟩

set_option maxHeartbeats 1000000 in
theorem node_calls (r : Nat) (L : List Tok) (en d : Int) (w : World) (res : Except (Int × Int) (NodeP × List Tok)) (h : Rd w r L en d) (hres : nodeR en L = some res) :
    Calls Tryd.prog 58 #[.pointer (some ⟨r, 0, none⟩)] w (Post r en d w (LVal layNode w.heap.size) res) := by
  have hRes := Lib.hid hres
  clear hres
  have hr := h.lt
  go_enter Tryd.func58, Tryd.ntmps58
  go_wp2_with fail
  generalize hW : w.alloc (.cells #[.string ⟨#[]⟩, .string ⟨#[]⟩] 47) = W1
  have hBQ_1 := Blk.new_of (cs := [.string ⟨#[]⟩, .string ⟨#[]⟩]) hW
  have hk_1 := Kp.of_alloc hW (Kp.refl r w)
  have h_1 := Rd.of_alloc hW h
  have hz_1 := size_of_alloc hW
  clear hW
  have hres := hRes.out
  clear hRes
  unfold nodeR at hres
  obtain ⟨r2, hr2⟩ := Res.bind_some hres
  rw [hr2] at hres
  have hRes := Lib.hid hres
  have hR2 := Lib.hid hr2
  clear hres hr2
  refine (must1_calls r L sOpen (w.heap.size + 1) 1 en d _ h_1.alloc_ (by rw [← hz_1]; exact (Blk.new W1 _ [.string sOpen]).cell 0) (by omega) r2 hR2.out).mono ?_
  rintro e w2 hpost
  have hres := hRes.out
  clear hRes hR2
  rcases r2 with ⟨pos', code⟩ | ⟨u, L1⟩
  · obtain ⟨rfl, hk_2⟩ := hpost
    simp only [gave]
    go_wp2_with fail
    cases hres
    exact ⟨rfl, rfl, hk_1.alloc_.trans hk_2⟩
  simp only [Res.bind_ok] at hres
  obtain ⟨v, rfl, rfl, h_2, hkk⟩ := hpost
  have hBQ_2 := (hBQ_1.alloc_).kp hkk (by omega)
  have hk_2 := hk_1.alloc_.trans hkk
  have hs_2 := hkk.size
  simp only [World.size_alloc] at hs_2
  clear hBQ_1 hk_1 hkk h_1
  have hr_2 := h_2.lt
  obtain ⟨r3, hr3⟩ := Res.bind_some hres
  rw [hr3] at hres
  have hRes := Lib.hid hres
  have hR3 := Lib.hid hr3
  clear hres hr3
  go_wp2_with fail
  refine (named_calls r L1 emp en d _ h_2 r3 hR3.out).mono ?_
  rintro e w3 hpost
  have hres := hRes.out
  clear hRes hR3
  rcases r3 with ⟨pos', code⟩ | ⟨nm, L2⟩
  · obtain ⟨rfl, hk_3⟩ := hpost
    simp only [gave]
    go_wp2_with fail
    cases hres
    exact ⟨rfl, rfl, hk_2.trans hk_3⟩
  simp only [Res.bind_ok] at hres
  obtain ⟨v, rfl, rfl, h_3, hkk⟩ := hpost
  have hBQ_3 := (hBQ_2).kp hkk (by omega)
  have hk_3 := hk_2.trans hkk
  have hs_3 := hkk.size
  clear hBQ_2 hk_2 hkk h_2
  have hr_3 := h_3.lt
  obtain ⟨r5, hr5⟩ := Res.bind_some hres
  rw [hr5] at hres
  have hRes := Lib.hid hres
  have hR5 := Lib.hid hr5
  clear hres hr5
  go_wp2_with fail
  generalize hW : w3.alloc (.cells #[.string nm, .string ⟨#[]⟩] 47) = W4
  have hBX_4 := Blk.new_of (cs := [.string nm, .string ⟨#[]⟩]) hW
  have hBQ_4 := Blk.of_alloc hW hBQ_3
  have hk_4 := Kp.of_alloc hW hk_3
  have h_4 := Rd.of_alloc hW h_3
  have hz_4 := size_of_alloc hW
  clear hW hBQ_3 hk_3 h_3
  refine (named_calls r L2 sColon en d _ h_4 r5 hR5.out).mono ?_
  rintro e w5 hpost
  have hres := hRes.out
  clear hRes hR5
  rcases r5 with ⟨pos', code⟩ | ⟨lb, L3⟩
  · obtain ⟨rfl, hk_5⟩ := hpost
    simp only [gave]
    go_wp2_with fail
    cases hres
    exact ⟨rfl, rfl, hk_4.trans hk_5⟩
  simp only [Res.bind_ok] at hres
  obtain ⟨v, rfl, rfl, h_5, hkk⟩ := hpost
  have hBQ_5 := (hBQ_4).kp hkk (by omega)
  have hBX_5 := (hBX_4).kp hkk (by omega)
  have hk_5 := hk_4.trans hkk
  have hs_5 := hkk.size
  clear hBQ_4 hBX_4 hk_4 hkk h_4
  have hr_5 := h_5.lt
  obtain ⟨x0, x1⟩ := hBX_5.c2
  have fX := hBX_5.frozen
  have hxl := hBX_5.lt
  obtain ⟨r7, hr7⟩ := Res.bind_some hres
  rw [hr7] at hres
  have hRes := Lib.hid hres
  have hR7 := Lib.hid hr7
  clear hres hr7
  go_wp2_with fail
  clear x0 x1 fX hxl
  generalize hW : w5.setCell ⟨w3.heap.size, 1, none⟩ (.string lb) = W6
  have hBQ_6 := Blk.set_far hW hBQ_5 (by omega)
  have hBX_6 := Blk.set_here hW hBX_5 (ds := [.string nm, .string lb]) rfl
  have hk_6 := Kp.set_new hW hk_5 (by omega)
  have h_6 := Rd.set_far hW h_5 (by omega)
  have hz_6 := size_of_set hW
  clear hW hBQ_5 hBX_5 hk_5 h_5
  refine (must1_calls r L3 sShut (w5.heap.size) 1 en d _ h_6.alloc_ (by rw [← hz_6]; exact (Blk.new W6 _ [.string sShut]).cell 0) (by omega) r7 hR7.out).mono ?_
  rintro e w7 hpost
  have hres := hRes.out
  clear hRes hR7
  rcases r7 with ⟨pos', code⟩ | ⟨u2, L4⟩
  · obtain ⟨rfl, hk_7⟩ := hpost
    simp only [gave]
    go_wp2_with fail
    cases hres
    exact ⟨rfl, rfl, hk_6.alloc_.trans hk_7⟩
  simp only [Res.bind_ok] at hres
  obtain ⟨v, rfl, rfl, h_7, hkk⟩ := hpost
  have hBQ_7 := (hBQ_6.alloc_).kp hkk (by omega)
  have hBX_7 := (hBX_6.alloc_).kp hkk (by omega)
  have hk_7 := hk_6.alloc_.trans hkk
  have hs_7 := hkk.size
  simp only [World.size_alloc] at hs_7
  clear hBQ_6 hBX_6 hk_6 hkk h_6
  have hr_7 := h_7.lt
  cases hres
  obtain ⟨x0, x1⟩ := hBX_7.c2
  have fQ := hBQ_7.frozen
  obtain ⟨q0, q1⟩ := hBQ_7.c2
  go_wp2_with fail
  refine bodyPost_ret (v := .agg #[.string nm, .string lb]) (by simp [results, Tryd.results58, go_sem, *]) rfl ⟨_, rfl, ⟨_, rfl, rfl⟩, ?_, ?_⟩
  · exact ((h_7.far_ (by omega)).far_ (by omega))
  · exact ((hk_7.new_ (by omega)).new_ (by omega))
end Go.Proofs.YtaonmhegnnpgaaaDoor
