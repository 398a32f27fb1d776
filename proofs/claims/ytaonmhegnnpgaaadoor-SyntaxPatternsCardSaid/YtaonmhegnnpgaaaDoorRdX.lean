/- The contract of pattern. No condition. -/
import Derived.Test.YtaonmhegnnpgaaaDoorRdW
import Derived.Deep.RegionLaw
import Derived.Deep.CutRange
namespace Go.Proofs.YtaonmhegnnpgaaaDoor
open Go Go.RowKit

set_option maxRecDepth 100000 in
set_option maxHeartbeats 4000000 in
theorem pattern_calls (n : Nat) (hn : n ≤ 1000000000) (r : Nat) (L : List Tok) (en d : Int) (w : World) (res : Except (Int × Int) (Pat × List Tok)) (h : Rd w r L en d) (hres : patR en n L = some res) :
    Calls Tryd.prog 40 #[.pointer (some ⟨r, 0, none⟩)] w (Post r en d w (LVal layPat w.heap.size) res) := by
  have hRes := Lib.hid hres
  clear hres
  have hr := h.lt
  go_enter Tryd.func40, Tryd.ntmps40
  go_wp2_with fail
  generalize hW : w.alloc (.cells #[.slice none 0 0, .slice none 0 0] 42) = W1
  have hBQ_1 := Blk.new_of (cs := [.slice none 0 0, .slice none 0 0]) hW
  have hk_1 := Kp.of_alloc hW (Kp.refl r w)
  have h_1 := Rd.of_alloc hW h
  have hz_1 := size_of_alloc hW
  clear hW
  have hres := hRes.out
  clear hRes
  unfold patR at hres
  obtain ⟨r2, hr2⟩ := Res.bind_some hres
  rw [hr2] at hres
  have hRes := Lib.hid hres
  have hR2 := Lib.hid hr2
  clear hres hr2
  refine (node_calls r L en d _ r2 h_1 hR2.out).mono ?_
  rintro e w2 hpost
  have hres := hRes.out
  clear hRes hR2
  rcases r2 with ⟨pos', code⟩ | ⟨x, L1⟩
  · obtain ⟨rfl, hk_2⟩ := hpost
    simp only [gave]
    go_wp2_with fail
    cases hres
    exact ⟨rfl, rfl, hk_1.trans hk_2⟩
  simp only [Res.bind_ok] at hres
  obtain ⟨v, rfl, ⟨_, rfl, rfl⟩, h_2, hkk⟩ := hpost
  have hBQ_2 := (hBQ_1).kp hkk (by omega)
  have hk_2 := hk_1.trans hkk
  have hs_2 := hkk.size
  clear hBQ_1 hk_1 hkk h_1
  have hr_2 := h_2.lt
  have hRes := Lib.hid hres
  clear hres
  go_wp2_with fail
  have hx : layNode.R w2 (From (w.heap.size + 1)) x [.string x.var, .string x.label] := rfl
  generalize hW : w2.alloc (.cells #[.string x.var, .string x.label] 47) = W3
  have hO3 : Own layNode W3 (w.heap.size + 1) 47 (.slice (some ⟨w2.heap.size, 0, none⟩) 1 1) [x] := Own.first (cs := [.string x.var, .string x.label]) hW rfl hx (by omega)
  have hBQ_3 := Blk.of_alloc hW hBQ_2
  have hk_3 := Kp.of_alloc hW hk_2
  have h_3 := Rd.of_alloc hW h_2
  have hz_3 := size_of_alloc hW
  clear hW hBQ_2 hk_2 h_2
  generalize hW : W3.alloc (.cells #[.slice (some ⟨w2.heap.size, 0, none⟩) 1 1, .slice none 0 0] 42) = W4
  have hO4 : Own layNode W4 (w.heap.size + 1) 47 (.slice (some ⟨w2.heap.size, 0, none⟩) 1 1) [x] := hW ▸ hO3.alloc _
  have hBP_4 := Blk.new_of (cs := [.slice (some ⟨w2.heap.size, 0, none⟩) 1 1, .slice none 0 0]) hW
  have hBQ_4 := Blk.of_alloc hW hBQ_3
  have hk_4 := Kp.of_alloc hW hk_3
  have h_4 := Rd.of_alloc hW h_3
  clear hW hBQ_3 hk_3 h_3 hO3
  rw [hz_3] at hBP_4
  obtain ⟨P, hP⟩ : ∃ P, P = w2.heap.size + 1 := ⟨_, rfl⟩
  rw [← hP] at hBP_4 ⊢
  have hPr : w.heap.size + 1 ≤ P := by omega
  have hI0 : InMaking w W4 r P (.slice (some ⟨w2.heap.size, 0, none⟩) 1 1) (.slice none 0 0) [x] [] := ⟨hk_4, hBQ_4, hBP_4, hO4, Own.nil_ _ _ _, fun b hb => by simp [Value.ownBlock] at hb; omega, fun b hb => by simp [Value.ownBlock] at hb, fun b _ hb => by simp [Value.ownBlock] at hb⟩
  obtain ⟨i0, hi, hz0, hz1, hz2⟩ := info_parts info_node
  obtain ⟨j0, hj, jz0, jz1, jz2⟩ := info_parts info_edge
  clear hBQ_4 hBP_4 hO4 hk_4 hx hz_3 h
  go_loopg [4] n (fun m s4 wr => m ≤ n ∧ ∃ v u ns es L2, Hid (moreR en m ns es L2 = some res) ∧ ns.length + m ≤ n + 1 ∧ es.length + m ≤ n ∧ Rd wr r L2 en d ∧ InMaking w wr r P v u ns es)
  case atStart => exact ⟨Nat.le_refl _, _, _, [x], [], L1, hRes, by simp; omega, by simp, h_4, hI0⟩
  case round =>
    obtain ⟨hm, v, u, ns, es, L2, hpr, hln, hle, hrd, hM⟩ := hrel
    clear hRes h_4 hI0 hP
    go_wp2_with fail
    refine (has_calls r L2 sLt en d _ hrd).mono ?_
    rintro e w5 ⟨rfl, h5, hk5⟩
    have hpr' := hpr.out
    clear hpr
    cases gk with
    | zero => cases hpr'
    | succ m =>
    simp only [moreR] at hpr'
    have hM5 := hM.kept hk5 hr hPr
    clear hM hk5 hrd
    cases hh : hasB L2 sLt with
    | true =>
      rw [hh] at h5
      simp only [hh, Bool.true_or, if_true] at hpr'
      replace h5 : Rd w5 r L2.tail en d := h5
      obtain ⟨r7, hr7⟩ := Res.bind_some hpr'
      rw [hr7] at hpr'
      have hRes := Lib.hid hpr'
      have hR7 := Lib.hid hr7
      clear hpr' hr7
      obtain ⟨va, vn, vc, rfl⟩ := hM5.nodes.slice
      obtain ⟨ua, un, uc, rfl⟩ := hM5.edges.slice
      obtain ⟨p0, p1⟩ := hM5.blk.c2
      have fP := hM5.blk.frozen
      have hpl := hM5.blk.lt
      have hsz := hM5.kp.size
      go_wp2_with fail
      rcases r7 with ⟨pos', code⟩ | ⟨y, L3⟩
      · have hres := hRes.out
        cases hres
        clear hRes
        go_region_law (first | (refine step_append_lies _ rfl _ _ 40 rfl (w.heap.size + 1) 45 j0 _ 6 64 Tryd.underlying40 hj jz0 jz1 jz2 rfl (by decide) _ es.length [] rfl hF.out.elim ⟨w8.heap.size, 0, none⟩ 1 1 [.string ⟨#[]⟩, .string ⟨#[]⟩, .bool false, .int .i64 0, .int .i64 0, .int .i64 0] rfl rfl hF.out.elim hF.out.elim (by decide) (by unfold maxLen; omega) (by omega) hF.out.elim (w8.heap.size + 1) (by simp) ?_; intro gg cap w9 hown9 hgrow9 hat9 hlt9; have hP9 : Blk w9 P 42 [.slice va vn vc, .slice ua un uc] := hF.out.elim; have hpl9 := hP9.lt; have fP9 := hP9.frozen; obtain ⟨p0'', p1''⟩ := hP9.c2) | (go_simp; go_at_call 59; refine Calls.gives_up (.agg #[.string ⟨#[]⟩, .string ⟨#[]⟩, .bool false, .int .i64 0, .int .i64 0, .int .i64 0]) (edge_calls r L2.tail true en d _ _ h5.drew hR7.out) (fun w8 hk8 => ⟨rfl, rfl, hM5.kp.drew.trans hk8⟩) ?_; intro w8 hF; have hP8 : Blk w8 P 42 [.slice va vn vc, .slice ua un uc] := hF.out.elim; have hpl8 := hP8.lt; have fP8 := hP8.frozen; obtain ⟨p0', p1'⟩ := hP8.c2))
        all_goals exact hF.out.elim
      · go_cut [4] from 9 to 33 (fun s4 wx => s4 = .bool true ∧ ∃ v u, Rd wx r L3 en d ∧ InMaking w wx r P v u ns (es ++ [y]))
        case first =>
          go_region_law (first | (refine step_append_lies _ rfl _ _ 40 rfl (w.heap.size + 1) 45 j0 _ 6 64 Tryd.underlying40 hj jz0 jz1 jz2 rfl (by decide) _ es.length xs rfl hown ⟨w8.heap.size, 0, none⟩ 1 1 [.string y.var, .string y.label, .bool y.back, .int .i64 y.mode, .int .i64 y.least, .int .i64 y.most] rfl rfl (World.news_of_block (heap_alloc_new w8 _)) (by simp [Value.oneCell']) (by decide) (by unfold maxLen; omega) (by omega) (by have := hk8.size; simp at this; simp; omega) (w8.heap.size + 1) (by simp) ?_; intro gg cap w9 hown9 hgrow9 hat9 hlt9; have hP9 := (hP8.alloc_).grown (row := (Value.slice ua un uc).ownBlock) hgrow9 (fun e => (hM5.u_p _ e.symm) rfl); have hpl9 := hP9.lt; have fP9 := hP9.frozen; obtain ⟨p0'', p1''⟩ := hP9.c2) | (go_simp; go_at_call 59; refine (edge_calls r L2.tail true en d _ _ h5.drew hR7.out).mono ?_; rintro e w8 ⟨v', rfl, ⟨_, rfl, rfl⟩, h8, hk8⟩; have hP8 := (hM5.blk.drew).kp hk8 (by omega); have hE8 := ((hM5.edges.drew).kp hk8 (by omega)).alloc (.cells #[.string y.var, .string y.label, .bool y.back, .int .i64 y.mode, .int .i64 y.least, .int .i64 y.most] 45); obtain ⟨xs, hown, hreps⟩ := hE8; have hpl8 := hP8.lt; have fP8 := hP8.frozen; obtain ⟨p0', p1'⟩ := hP8.c2))
          all_goals
            replace hgrow9 : (w8.alloc (.cells #[.string y.var, .string y.label, .bool y.back, .int .i64 y.mode, .int .i64 y.least, .int .i64 y.most] 45)).grownBy w9 (Value.slice ua un uc).ownBlock := hgrow9
            replace hat9 : (Value.slice ua un uc).ownBlock = some gg ∨ gg = w8.heap.size + 1 := hat9
            have hnew := InMaking.edge hM5 hr hPr hk8 h8 hreps hown9 hgrow9 hat9
            clear hown hreps hown9 hgrow9 hat9 hlt9 hM5 h8 hk8 hP8 hP9
            go_wp2_with fail
            go_meet
            exact ⟨rfl, _, _, hnew⟩
        case rest =>
          obtain ⟨rfl, v10, u10, h10, hM10⟩ := hcut
          have hpr' := hRes.out
          clear hRes hR7 hM5 h5 p0 p1 fP hpl hsz
          simp only [Res.bind_ok] at hpr'
          obtain ⟨r7, hr7⟩ := Res.bind_some hpr'
          rw [hr7] at hpr'
          have hRes := Lib.hid hpr'
          have hR7 := Lib.hid hr7
          clear hpr' hr7
          obtain ⟨va, vn, vc, rfl⟩ := hM10.nodes.slice
          obtain ⟨ua, un, uc, rfl⟩ := hM10.edges.slice
          obtain ⟨p0, p1⟩ := hM10.blk.c2
          have fP := hM10.blk.frozen
          have hpl := hM10.blk.lt
          have hsz := hM10.kp.size
          go_wp2_with fail
          rcases r7 with ⟨pos', code⟩ | ⟨y2, L4⟩
          · have hres := hRes.out
            cases hres
            clear hRes
            go_region_law (first | (refine step_append_lies _ rfl _ _ 39 rfl (w.heap.size + 1) 47 i0 _ 2 32 Tryd.underlying39 hi hz0 hz1 hz2 rfl (by decide) _ ns.length [] rfl hF.out.elim ⟨w8.heap.size, 0, none⟩ 1 1 [.string ⟨#[]⟩, .string ⟨#[]⟩] rfl rfl hF.out.elim hF.out.elim (by decide) (by unfold maxLen; omega) (by omega) hF.out.elim (w8.heap.size + 1) (by simp) ?_; intro gg cap w9 hown9 hgrow9 hat9 hlt9; have hP9 : Blk w9 P 42 [.slice va vn vc, .slice ua un uc] := hF.out.elim; have hpl9 := hP9.lt; have fP9 := hP9.frozen; obtain ⟨p0'', p1''⟩ := hP9.c2) | (go_simp; go_at_call 58; refine Calls.gives_up (.agg #[.string ⟨#[]⟩, .string ⟨#[]⟩]) (node_calls r L3 en d _ _ h10.drew hR7.out) (fun w8 hk8 => ⟨rfl, rfl, hM10.kp.drew.trans hk8⟩) ?_; intro w8 hF; have hP8 : Blk w8 P 42 [.slice va vn vc, .slice ua un uc] := hF.out.elim; have hpl8 := hP8.lt; have fP8 := hP8.frozen; obtain ⟨p0', p1'⟩ := hP8.c2))
            all_goals exact hF.out.elim
          · have hpr' := hRes.out
            simp only [Res.bind_ok] at hpr'
            have hRes := Lib.hid hpr'
            clear hpr'
            go_region_law (first | (refine step_append_lies _ rfl _ _ 39 rfl (w.heap.size + 1) 47 i0 _ 2 32 Tryd.underlying39 hi hz0 hz1 hz2 rfl (by decide) _ ns.length xs rfl hown ⟨w8.heap.size, 0, none⟩ 1 1 [.string y2.var, .string y2.label] rfl rfl (World.news_of_block (heap_alloc_new w8 _)) (by simp [Value.oneCell']) (by decide) (by unfold maxLen; omega) (by omega) (by have := hk8.size; simp at this; simp; omega) (w8.heap.size + 1) (by simp) ?_; intro gg cap w9 hown9 hgrow9 hat9 hlt9; have hP9 := (hP8.alloc_).grown (row := (Value.slice va vn vc).ownBlock) hgrow9 (fun e => (hM10.v_p _ e.symm) rfl); have hpl9 := hP9.lt; have fP9 := hP9.frozen; obtain ⟨p0'', p1''⟩ := hP9.c2) | (go_simp; go_at_call 58; refine (node_calls r L3 en d _ _ h10.drew hR7.out).mono ?_; rintro e w8 ⟨v', rfl, ⟨_, rfl, rfl⟩, h8, hk8⟩; have hP8 := (hM10.blk.drew).kp hk8 (by omega); have hE8 := ((hM10.nodes.drew).kp hk8 (by omega)).alloc (.cells #[.string y2.var, .string y2.label] 47); obtain ⟨xs, hown, hreps⟩ := hE8; have hpl8 := hP8.lt; have fP8 := hP8.frozen; obtain ⟨p0', p1'⟩ := hP8.c2))
            all_goals
              replace hgrow9 : (w8.alloc (.cells #[.string y2.var, .string y2.label] 47)).grownBy w9 (Value.slice va vn vc).ownBlock := hgrow9
              replace hat9 : (Value.slice va vn vc).ownBlock = some gg ∨ gg = w8.heap.size + 1 := hat9
              have hnew := InMaking.node hM10 hr hPr hk8 h8 hreps hown9 hgrow9 hat9
              clear hown hreps hown9 hgrow9 hat9 hlt9 hM10 h8 hk8 hP8 hP9
              go_wp2_with fail
              go_roundg m
              case measure => omega
              case rel => exact ⟨by omega, _, _, _, _, L4, hRes, by simp; omega, by simp; omega, hnew.1, hnew.2⟩
    | false =>
      rw [hh] at h5
      simp only [hh, Bool.false_or] at hpr'
      replace h5 : Rd w5 r L2 en d := h5
      have hRes0 := Lib.hid hpr'
      clear hpr'
      go_wp2_with fail
      refine (has_calls r L2 sMinus en d _ h5).mono ?_
      rintro e w6 ⟨rfl, h6, hk6⟩
      have hpr' := hRes0.out
      clear hRes0
      have hM6 := hM5.kept hk6 hr hPr
      clear hM5 hk6 h5
      cases hg : hasB L2 sMinus with
      | false =>
        rw [hg] at h6
        simp only [hg, Bool.false_eq_true, if_false] at hpr'
        replace h6 : Rd w6 r L2 en d := h6
        cases hpr'
        obtain ⟨va, vn, vc, rfl⟩ := hM6.nodes.slice
        obtain ⟨ua, un, uc, rfl⟩ := hM6.edges.slice
        obtain ⟨p0, p1⟩ := hM6.blk.c2
        obtain ⟨q0, q1⟩ := hM6.res.c2
        have fQ := hM6.res.frozen
        have hql := hM6.res.lt
        clear hh hg
        go_wp2_with fail
        refine bodyPost_ret (v := .agg #[.slice va vn vc, .slice ua un uc]) (by simp [results, Tryd.results40, go_sem, *]) rfl ⟨_, rfl, ⟨_, rfl, ⟨_, _, rfl, ?_, ?_⟩⟩, ?_, ?_⟩
        · exact ((hM6.nodes.toS').same (((Same.refl _ _).low (by omega)).low (by omega))).mono (From.down (by omega))
        · exact ((hM6.edges.toS').same (((Same.refl _ _).low (by omega)).low (by omega))).mono (From.down (by omega))
        · exact (h6.far_ (by omega)).far_ (by omega)
        · exact (hM6.kp.new_ (by omega)).new_ (by omega)
      | true =>
        rw [hg] at h6
        simp only [hg, if_true] at hpr'
        replace h6 : Rd w6 r L2.tail en d := h6
        obtain ⟨r7, hr7⟩ := Res.bind_some hpr'
        rw [hr7] at hpr'
        have hRes := Lib.hid hpr'
        have hR7 := Lib.hid hr7
        clear hpr' hr7
        obtain ⟨va, vn, vc, rfl⟩ := hM6.nodes.slice
        obtain ⟨ua, un, uc, rfl⟩ := hM6.edges.slice
        obtain ⟨p0, p1⟩ := hM6.blk.c2
        have fP := hM6.blk.frozen
        have hpl := hM6.blk.lt
        have hsz := hM6.kp.size
        go_wp2_with fail
        rcases r7 with ⟨pos', code⟩ | ⟨y, L3⟩
        · have hres := hRes.out
          cases hres
          clear hRes
          go_region_law (first | (refine step_append_lies _ rfl _ _ 40 rfl (w.heap.size + 1) 45 j0 _ 6 64 Tryd.underlying40 hj jz0 jz1 jz2 rfl (by decide) _ es.length [] rfl hF.out.elim ⟨w8.heap.size, 0, none⟩ 1 1 [.string ⟨#[]⟩, .string ⟨#[]⟩, .bool false, .int .i64 0, .int .i64 0, .int .i64 0] rfl rfl hF.out.elim hF.out.elim (by decide) (by unfold maxLen; omega) (by omega) hF.out.elim (w8.heap.size + 1) (by simp) ?_; intro gg cap w9 hown9 hgrow9 hat9 hlt9; have hP9 : Blk w9 P 42 [.slice va vn vc, .slice ua un uc] := hF.out.elim; have hpl9 := hP9.lt; have fP9 := hP9.frozen; obtain ⟨p0'', p1''⟩ := hP9.c2) | (go_simp; go_at_call 59; refine Calls.gives_up (.agg #[.string ⟨#[]⟩, .string ⟨#[]⟩, .bool false, .int .i64 0, .int .i64 0, .int .i64 0]) (edge_calls r L2.tail false en d _ _ h6.drew hR7.out) (fun w8 hk8 => ⟨rfl, rfl, hM6.kp.drew.trans hk8⟩) ?_; intro w8 hF; have hP8 : Blk w8 P 42 [.slice va vn vc, .slice ua un uc] := hF.out.elim; have hpl8 := hP8.lt; have fP8 := hP8.frozen; obtain ⟨p0', p1'⟩ := hP8.c2))
          all_goals exact hF.out.elim
        · go_cut [4] from 9 to 33 (fun s4 wx => s4 = .bool false ∧ ∃ v u, Rd wx r L3 en d ∧ InMaking w wx r P v u ns (es ++ [y]))
          case first =>
            go_region_law (first | (refine step_append_lies _ rfl _ _ 40 rfl (w.heap.size + 1) 45 j0 _ 6 64 Tryd.underlying40 hj jz0 jz1 jz2 rfl (by decide) _ es.length xs rfl hown ⟨w8.heap.size, 0, none⟩ 1 1 [.string y.var, .string y.label, .bool y.back, .int .i64 y.mode, .int .i64 y.least, .int .i64 y.most] rfl rfl (World.news_of_block (heap_alloc_new w8 _)) (by simp [Value.oneCell']) (by decide) (by unfold maxLen; omega) (by omega) (by have := hk8.size; simp at this; simp; omega) (w8.heap.size + 1) (by simp) ?_; intro gg cap w9 hown9 hgrow9 hat9 hlt9; have hP9 := (hP8.alloc_).grown (row := (Value.slice ua un uc).ownBlock) hgrow9 (fun e => (hM6.u_p _ e.symm) rfl); have hpl9 := hP9.lt; have fP9 := hP9.frozen; obtain ⟨p0'', p1''⟩ := hP9.c2) | (go_simp; go_at_call 59; refine (edge_calls r L2.tail false en d _ _ h6.drew hR7.out).mono ?_; rintro e w8 ⟨v', rfl, ⟨_, rfl, rfl⟩, h8, hk8⟩; have hP8 := (hM6.blk.drew).kp hk8 (by omega); have hE8 := ((hM6.edges.drew).kp hk8 (by omega)).alloc (.cells #[.string y.var, .string y.label, .bool y.back, .int .i64 y.mode, .int .i64 y.least, .int .i64 y.most] 45); obtain ⟨xs, hown, hreps⟩ := hE8; have hpl8 := hP8.lt; have fP8 := hP8.frozen; obtain ⟨p0', p1'⟩ := hP8.c2))
            all_goals
              replace hgrow9 : (w8.alloc (.cells #[.string y.var, .string y.label, .bool y.back, .int .i64 y.mode, .int .i64 y.least, .int .i64 y.most] 45)).grownBy w9 (Value.slice ua un uc).ownBlock := hgrow9
              replace hat9 : (Value.slice ua un uc).ownBlock = some gg ∨ gg = w8.heap.size + 1 := hat9
              have hnew := InMaking.edge hM6 hr hPr hk8 h8 hreps hown9 hgrow9 hat9
              clear hown hreps hown9 hgrow9 hat9 hlt9 hM6 h8 hk8 hP8 hP9
              go_wp2_with fail
              go_meet
              exact ⟨rfl, _, _, hnew⟩
          case rest =>
            obtain ⟨rfl, v10, u10, h10, hM10⟩ := hcut
            have hpr' := hRes.out
            clear hRes hR7 hM6 h6 p0 p1 fP hpl hsz
            simp only [Res.bind_ok] at hpr'
            obtain ⟨r7, hr7⟩ := Res.bind_some hpr'
            rw [hr7] at hpr'
            have hRes := Lib.hid hpr'
            have hR7 := Lib.hid hr7
            clear hpr' hr7
            obtain ⟨va, vn, vc, rfl⟩ := hM10.nodes.slice
            obtain ⟨ua, un, uc, rfl⟩ := hM10.edges.slice
            obtain ⟨p0, p1⟩ := hM10.blk.c2
            have fP := hM10.blk.frozen
            have hpl := hM10.blk.lt
            have hsz := hM10.kp.size
            go_wp2_with fail
            rcases r7 with ⟨pos', code⟩ | ⟨y2, L4⟩
            · have hres := hRes.out
              cases hres
              clear hRes
              go_region_law (first | (refine step_append_lies _ rfl _ _ 39 rfl (w.heap.size + 1) 47 i0 _ 2 32 Tryd.underlying39 hi hz0 hz1 hz2 rfl (by decide) _ ns.length [] rfl hF.out.elim ⟨w8.heap.size, 0, none⟩ 1 1 [.string ⟨#[]⟩, .string ⟨#[]⟩] rfl rfl hF.out.elim hF.out.elim (by decide) (by unfold maxLen; omega) (by omega) hF.out.elim (w8.heap.size + 1) (by simp) ?_; intro gg cap w9 hown9 hgrow9 hat9 hlt9; have hP9 : Blk w9 P 42 [.slice va vn vc, .slice ua un uc] := hF.out.elim; have hpl9 := hP9.lt; have fP9 := hP9.frozen; obtain ⟨p0'', p1''⟩ := hP9.c2) | (go_simp; go_at_call 58; refine Calls.gives_up (.agg #[.string ⟨#[]⟩, .string ⟨#[]⟩]) (node_calls r L3 en d _ _ h10.drew hR7.out) (fun w8 hk8 => ⟨rfl, rfl, hM10.kp.drew.trans hk8⟩) ?_; intro w8 hF; have hP8 : Blk w8 P 42 [.slice va vn vc, .slice ua un uc] := hF.out.elim; have hpl8 := hP8.lt; have fP8 := hP8.frozen; obtain ⟨p0', p1'⟩ := hP8.c2))
              all_goals exact hF.out.elim
            · have hpr' := hRes.out
              simp only [Res.bind_ok] at hpr'
              have hRes := Lib.hid hpr'
              clear hpr'
              go_region_law (first | (refine step_append_lies _ rfl _ _ 39 rfl (w.heap.size + 1) 47 i0 _ 2 32 Tryd.underlying39 hi hz0 hz1 hz2 rfl (by decide) _ ns.length xs rfl hown ⟨w8.heap.size, 0, none⟩ 1 1 [.string y2.var, .string y2.label] rfl rfl (World.news_of_block (heap_alloc_new w8 _)) (by simp [Value.oneCell']) (by decide) (by unfold maxLen; omega) (by omega) (by have := hk8.size; simp at this; simp; omega) (w8.heap.size + 1) (by simp) ?_; intro gg cap w9 hown9 hgrow9 hat9 hlt9; have hP9 := (hP8.alloc_).grown (row := (Value.slice va vn vc).ownBlock) hgrow9 (fun e => (hM10.v_p _ e.symm) rfl); have hpl9 := hP9.lt; have fP9 := hP9.frozen; obtain ⟨p0'', p1''⟩ := hP9.c2) | (go_simp; go_at_call 58; refine (node_calls r L3 en d _ _ h10.drew hR7.out).mono ?_; rintro e w8 ⟨v', rfl, ⟨_, rfl, rfl⟩, h8, hk8⟩; have hP8 := (hM10.blk.drew).kp hk8 (by omega); have hE8 := ((hM10.nodes.drew).kp hk8 (by omega)).alloc (.cells #[.string y2.var, .string y2.label] 47); obtain ⟨xs, hown, hreps⟩ := hE8; have hpl8 := hP8.lt; have fP8 := hP8.frozen; obtain ⟨p0', p1'⟩ := hP8.c2))
              all_goals
                replace hgrow9 : (w8.alloc (.cells #[.string y2.var, .string y2.label] 47)).grownBy w9 (Value.slice va vn vc).ownBlock := hgrow9
                replace hat9 : (Value.slice va vn vc).ownBlock = some gg ∨ gg = w8.heap.size + 1 := hat9
                have hnew := InMaking.node hM10 hr hPr hk8 h8 hreps hown9 hgrow9 hat9
                clear hown hreps hown9 hgrow9 hat9 hlt9 hM10 h8 hk8 hP8 hP9
                go_wp2_with fail
                go_roundg m
                case measure => omega
                case rel => exact ⟨by omega, _, _, _, _, L4, hRes, by simp; omega, by simp; omega, hnew.1, hnew.2⟩
end Go.Proofs.YtaonmhegnnpgaaaDoor
