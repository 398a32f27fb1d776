/- The contracts of the grammar's levels, by induction on the fuel: what stands behind a word. No condition. -/
import Derived.Test.YtaonmhegnnpgaaaDoorRdI
namespace Go.Proofs.YtaonmhegnnpgaaaDoor
open Go Go.RowKit

theorem RepE.new_one {C : World} {S : Nat → Prop} {t : TypeId} {op : Int} {x : Ex} {xs : List Value} {n : Nat} (hC : C.heap.size = n) (hx : RepE C S x xs) (hb : S n) :
    RepE (C.alloc (.cells xs.toArray t)) S (one op x) [.int .i64 op, .slice (some ⟨n, 0, none⟩) 1 1, .string ⟨#[]⟩, .string ⟨#[]⟩, .int .i64 0, .bool false, .int .i64 0, .string ⟨#[]⟩, .slice none 0 0] := by
  subst hC
  have hs : Same S C (C.alloc (.cells xs.toArray t)) := (Same.refl _ _).alloc (Nat.le_refl _) _
  exact ⟨_, _, xs, _, rfl, RepV.flat _ S 0 false 0 emp none 0, CellsAt.new C t xs hb, RepEs.one (RepE.same hs hx)⟩

set_option maxRecDepth 100000 in
set_option maxHeartbeats 1000000 in
theorem ahead_calls (r : Nat) (L : List Tok) (s : ByteArray) (op en d : Int) (w : World) (h : Rd w r L en d) (hd0 : 0 ≤ d) (hd1 : d ≤ 50)
    (ka : FuncId) (ea : ∀ args w, (callFunc ka args).run Tryd.prog w = .ok (.enter ka args) w) (ko : FuncId) (eo : ∀ args w, (callFunc ko args).run Tryd.prog w = .ok (.enter ko args) w)
    (fA : Int → Res Ex) (fO : Res Ex)
    (hA : ∀ wx res', Rd wx r L.tail en (d + 1) → d + 1 ≤ 50 → fA (d + 1) = some res' → Calls Tryd.prog ka #[.pointer (some ⟨r, 0, none⟩)] wx (Post r en (d + 1) wx (EVal wx.heap.size) res'))
    (hO : ∀ wx res', Rd wx r L en d → fO = some res' → Calls Tryd.prog ko #[.pointer (some ⟨r, 0, none⟩)] wx (Post r en d wx (EVal wx.heap.size) res'))
    (res : Except (Int × Int) (Ex × List Tok)) (hres : (if hasB L s then (deepR (place en L) d fA).bind fun x L => .ret (one op x) L else fO) = some res) :
    Calls Tryd.prog 67 #[.pointer (some ⟨r, 0, none⟩), .string s, .int .i64 op, .func (.func ka) #[.pointer (some ⟨r, 0, none⟩)] #[], .func (.func ko) #[.pointer (some ⟨r, 0, none⟩)] #[]] w (Post r en d w (EVal w.heap.size) res) := by
  have hRes := Lib.hid hres
  have hA' := Lib.hid hA
  have hO' := Lib.hid hO
  clear hres hA hO
  have hr := h.lt
  go_enter Tryd.func67, Tryd.ntmps67
  go_wp2_with fail
  have hQ0 := Blk.new w 57 [.int .i64 0, .slice none 0 0, .string ⟨#[]⟩, .string ⟨#[]⟩, .int .i64 0, .bool false, .int .i64 0, .string ⟨#[]⟩, .slice none 0 0]
  have hk0 := (Kp.refl r w).alloc (.cells #[.int .i64 0, .slice none 0 0, .string ⟨#[]⟩, .string ⟨#[]⟩, .int .i64 0, .bool false, .int .i64 0, .string ⟨#[]⟩, .slice none 0 0] 57)
  have hRd := h.alloc (.cells #[.int .i64 0, .slice none 0 0, .string ⟨#[]⟩, .string ⟨#[]⟩, .int .i64 0, .bool false, .int .i64 0, .string ⟨#[]⟩, .slice none 0 0] 57)
  refine (next_calls r L en d _ hRd).mono ?_
  rintro e w1 ⟨rfl, hb1⟩
  have h1 := hRd.below hb1
  have hk1 := hk0.below hb1
  have hQ1 := hQ0.below hb1 (by simp)
  have hs1 := hb1.size
  simp only [World.size_alloc] at hs1
  clear hQ0 hk0 hRd hb1
  rw [place_next]
  go_wp2_with fail
  refine (has_calls r L s en d _ h1).mono ?_
  rintro e w2 ⟨rfl, h2, hk2⟩
  have hQ2 := hQ1.kp hk2 (by omega)
  have hk2' := hk1.trans hk2
  have hs2 := hk2.size
  clear h1 hk1 hQ1 hk2
  have hres := hRes.out
  clear hRes
  cases hh : hasB L s with
  | false =>
    rw [hh] at h2
    simp only [hh] at hres
    have hRes := Lib.hid hres
    clear hres hA' ea
    have h2' : Rd w2 r L en d := h2
    clear h2
    go_wp2_with fail
    refine (hO'.out _ res h2' hRes.out).mono ?_
    rintro e w3 hpost
    rcases res with ⟨pos', code⟩ | ⟨x, L'⟩
    · obtain ⟨rfl, hk3⟩ := hpost
      simp only [gave]
      go_wp2_with fail
      exact ⟨rfl, rfl, hk2'.trans hk3⟩
    · obtain ⟨v, rfl, hv, h3, hk3⟩ := hpost
      obtain ⟨op', kk, kn, kc, nm, pr, vk, vb, vm, vt, pa, pn, pc, rfl, hx⟩ := hv.nine
      have hQ3 := hQ2.kp hk3 (by omega)
      have hk := hk2'.trans hk3
      obtain ⟨q0, q1, q2, q3, q4, q5, q6, q7, q8⟩ := hQ3.c9
      have fQ := hQ3.frozen
      clear hk3 hQ3 hRes hv hQ2 hk2'
      go_wp2_with fail
      exact bodyPost_ret (v := .agg #[.int .i64 op', .slice kk kn kc, .string nm, .string pr, .int .i64 vk, .bool vb, .int .i64 vm, .string vt, .slice pa pn pc]) (by simp [results, Tryd.results67, go_sem, *]) rfl (Post.end9 h3 hk hx hr (Nat.le_refl _) (by omega))
  | true =>
    rw [hh] at h2
    simp only [hh, if_true] at hres
    obtain ⟨r2, hr2⟩ : ∃ r2, deepR (place en L) d fA = some r2 := by
      cases hq : deepR (place en L) d fA with
      | none => rw [hq] at hres; cases hres
      | some r2 => exact ⟨r2, rfl⟩
    rw [hr2] at hres
    have hRes := Lib.hid hres
    have hR2 := Lib.hid hr2
    clear hres hr2 eo hO'
    have h2' : Rd w2 r L.tail en d := h2
    clear h2
    go_wp2_with fail
    refine (deeper_calls r L.tail en d (place en L) _ h2' hd0 hd1 ka ea #[.pointer (some ⟨r, 0, none⟩)] #[] fA (fun wx res' hrd _ hd hf => hA'.out wx res' hrd hd hf) r2 hR2.out).mono ?_
    rintro e w3 hpost
    have hres := hRes.out
    clear hRes hR2 hA'
    rcases r2 with ⟨pos', code⟩ | ⟨x, L'⟩
    · obtain ⟨rfl, hk3⟩ := hpost
      simp only [gave]
      go_wp2_with fail
      cases hres
      exact ⟨rfl, rfl, hk2'.trans hk3⟩
    · simp only [Res.bind, Res.ret] at hres
      cases hres
      obtain ⟨v, rfl, hv, h3, hk3⟩ := hpost
      obtain ⟨op', kk, kn, kc, nm, pr, vk, vb, vm, vt, pa, pn, pc, rfl, hx⟩ := hv.nine
      have hQ3 := hQ2.kp hk3 (by omega)
      have hk := hk2'.trans hk3
      obtain ⟨q0, q1, q2, q3, q4, q5, q6, q7, q8⟩ := hQ3.c9
      have fQ := hQ3.frozen
      have hql := hQ3.lt
      clear hk3 hQ3 hv hQ2 hk2'
      go_wp2_with fail
      refine bodyPost_ret (v := .agg #[.int .i64 op, .slice (some ⟨w3.heap.size, 0, none⟩) 1 1, .string ⟨#[]⟩, .string ⟨#[]⟩, .int .i64 0, .bool false, .int .i64 0, .string ⟨#[]⟩, .slice none 0 0]) (by simp [results, Tryd.results67, go_sem, *]) rfl ⟨_, rfl, EVal.mk_ ?_, ?_, ?_⟩
      · refine RepE.mono (S := From (w.heap.size + 1)) (From.down (Nat.le_succ _)) ?_
        with_reducible refine RepE.new_one ?hC (RepE.same ?hs (RepE.mono (From.down (by omega)) hx)) ?hb
        case hC => simp only [World.size_setCell]
        case hb => unfold From; omega
        repeat' (first | with_reducible exact Same.refl _ _ | with_reducible refine Same.low ?_ ?_)
        all_goals omega
      · repeat' (first | with_reducible exact h3 | with_reducible refine Rd.alloc_ ?_ | with_reducible refine Rd.far_ ?_ ?_)
        all_goals omega
      · repeat' (first | with_reducible exact hk | with_reducible refine Kp.alloc_ ?_ | with_reducible refine Kp.new_ ?_ ?_)
        all_goals omega

theorem deny_calls (n : Nat) (ih : NtAt n) (r : Nat) (L : List Tok) (en d : Int) (w : World) (res : Except (Int × Int) (Ex × List Tok)) (h : Rd w r L en d) (hd0 : 0 ≤ d) (hd1 : d ≤ 50) (hres : parse en (n + 1) .deny d L = some res) :
    Calls Tryd.prog 63 #[.pointer (some ⟨r, 0, none⟩)] w (Post r en d w (EVal w.heap.size) res) := by
  have hRes := Lib.hid hres
  have hI := Lib.hid ih
  clear hres ih
  have hr := h.lt
  go_enter Tryd.func63, Tryd.ntmps63
  go_wp2_with fail
  have hQ0 := Blk.new w 57 [.int .i64 0, .slice none 0 0, .string ⟨#[]⟩, .string ⟨#[]⟩, .int .i64 0, .bool false, .int .i64 0, .string ⟨#[]⟩, .slice none 0 0]
  have hk0 := (Kp.refl r w).alloc (.cells #[.int .i64 0, .slice none 0 0, .string ⟨#[]⟩, .string ⟨#[]⟩, .int .i64 0, .bool false, .int .i64 0, .string ⟨#[]⟩, .slice none 0 0] 57)
  have hRd := h.alloc (.cells #[.int .i64 0, .slice none 0 0, .string ⟨#[]⟩, .string ⟨#[]⟩, .int .i64 0, .bool false, .int .i64 0, .string ⟨#[]⟩, .slice none 0 0] 57)
  refine (ahead_calls r L sNOT 17 en d _ hRd hd0 hd1 63 (enters_of Tryd.func63 (by kernel_rfl) rfl) 68 (enters_of Tryd.func68 (by kernel_rfl) rfl)
    (fun d => parse en n .deny d L.tail) (parse en n .test d L) (fun wx res' hrd hd hf => hI.out .deny n rfl (Nat.le_refl _) r L.tail en (d + 1) wx res' hrd (by omega) hd hf)
    (fun wx res' hrd hf => hI.out .test n rfl (Nat.le_refl _) r L en d wx res' hrd hd0 hd1 hf) res hRes.out).mono ?_
  rintro e w2 hpost
  rcases res with ⟨pos', code⟩ | ⟨x, L'⟩
  · obtain ⟨rfl, hk2⟩ := hpost
    simp only [gave]
    go_wp2_with fail
    exact ⟨rfl, rfl, hk0.trans hk2⟩
  · obtain ⟨v, rfl, hv, h2, hk2⟩ := hpost
    obtain ⟨op, ka, kn, kc, nm, pr, vk, vb, vm, vt, pa, pn, pc, rfl, hx⟩ := hv.nine
    simp only [World.size_alloc] at hx
    have hQ2 := hk2.q9 hQ0 hr
    have hk := hk0.trans hk2
    obtain ⟨q0, q1, q2, q3, q4, q5, q6, q7, q8⟩ := hQ2.c9
    have fQ := hQ2.frozen
    clear hQ0 hk0 hRd hk2 hQ2 hI hRes hv
    go_wp2_with fail
    exact bodyPost_ret (v := .agg #[.int .i64 op, .slice ka kn kc, .string nm, .string pr, .int .i64 vk, .bool vb, .int .i64 vm, .string vt, .slice pa pn pc]) (by simp [results, Tryd.results63, go_sem, *]) rfl (Post.end9 h2 hk hx hr (Nat.le_refl _) (by omega))
theorem minus_calls (n : Nat) (ih : NtAt n) (r : Nat) (L : List Tok) (en d : Int) (w : World) (res : Except (Int × Int) (Ex × List Tok)) (h : Rd w r L en d) (hd0 : 0 ≤ d) (hd1 : d ≤ 50) (hres : parse en (n + 1) .minus d L = some res) :
    Calls Tryd.prog 72 #[.pointer (some ⟨r, 0, none⟩)] w (Post r en d w (EVal w.heap.size) res) := by
  have hRes := Lib.hid hres
  have hI := Lib.hid ih
  clear hres ih
  have hr := h.lt
  go_enter Tryd.func72, Tryd.ntmps72
  go_wp2_with fail
  have hQ0 := Blk.new w 57 [.int .i64 0, .slice none 0 0, .string ⟨#[]⟩, .string ⟨#[]⟩, .int .i64 0, .bool false, .int .i64 0, .string ⟨#[]⟩, .slice none 0 0]
  have hk0 := (Kp.refl r w).alloc (.cells #[.int .i64 0, .slice none 0 0, .string ⟨#[]⟩, .string ⟨#[]⟩, .int .i64 0, .bool false, .int .i64 0, .string ⟨#[]⟩, .slice none 0 0] 57)
  have hRd := h.alloc (.cells #[.int .i64 0, .slice none 0 0, .string ⟨#[]⟩, .string ⟨#[]⟩, .int .i64 0, .bool false, .int .i64 0, .string ⟨#[]⟩, .slice none 0 0] 57)
  refine (ahead_calls r L sMinus 18 en d _ hRd hd0 hd1 72 (enters_of Tryd.func72 (by kernel_rfl) rfl) 73 (enters_of Tryd.func73 (by kernel_rfl) rfl)
    (fun d => parse en n .minus d L.tail) (parse en n .plain d L) (fun wx res' hrd hd hf => hI.out .minus n rfl (Nat.le_refl _) r L.tail en (d + 1) wx res' hrd (by omega) hd hf)
    (fun wx res' hrd hf => hI.out .plain n rfl (Nat.le_refl _) r L en d wx res' hrd hd0 hd1 hf) res hRes.out).mono ?_
  rintro e w2 hpost
  rcases res with ⟨pos', code⟩ | ⟨x, L'⟩
  · obtain ⟨rfl, hk2⟩ := hpost
    simp only [gave]
    go_wp2_with fail
    exact ⟨rfl, rfl, hk0.trans hk2⟩
  · obtain ⟨v, rfl, hv, h2, hk2⟩ := hpost
    obtain ⟨op, ka, kn, kc, nm, pr, vk, vb, vm, vt, pa, pn, pc, rfl, hx⟩ := hv.nine
    simp only [World.size_alloc] at hx
    have hQ2 := hk2.q9 hQ0 hr
    have hk := hk0.trans hk2
    obtain ⟨q0, q1, q2, q3, q4, q5, q6, q7, q8⟩ := hQ2.c9
    have fQ := hQ2.frozen
    clear hQ0 hk0 hRd hk2 hQ2 hI hRes hv
    go_wp2_with fail
    exact bodyPost_ret (v := .agg #[.int .i64 op, .slice ka kn kc, .string nm, .string pr, .int .i64 vk, .bool vb, .int .i64 vm, .string vt, .slice pa pn pc]) (by simp [results, Tryd.results72, go_sem, *]) rfl (Post.end9 h2 hk hx hr (Nat.le_refl _) (by omega))
end Go.Proofs.YtaonmhegnnpgaaaDoor
