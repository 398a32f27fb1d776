/- The contract of the reader's deeper. No condition. -/
import Derived.Test.YtaonmhegnnpgaaaDoorRdE
import Derived.Lib.Hide
import Derived.Shelf.Abstract
namespace Go.Proofs.YtaonmhegnnpgaaaDoor
open Go Go.RowKit

/-- A call that gives up, in a statement whose order is open: what stands behind it is walked under a false premise (the region's tactics want one way to go on). -/
theorem Calls.gives_up {f : FuncId} {args : Array Value} {w : World} {R : Ending → World → Prop} {E : Ending} {Q : World → Prop} (v : Value) (h : Calls Tryd.prog f args w fun e w' => e = E ∧ Q w')
    (hp : ∀ w', Q w' → R E w') (_hr : ∀ w', Hid False → R (.returned v) w') : Calls Tryd.prog f args w R := h.mono fun _ w' ⟨he, hq⟩ => he ▸ hp w' hq

theorem Rd.deep {w : World} {r : Nat} {L : List Tok} {en d : Int} (h : Rd w r L en d) (d' : Int) : Rd (w.setCell ⟨r, 2, none⟩ (.int .i64 d')) r L en d' := by
  obtain ⟨a, c, h1, h2, h3, h4, h5⟩ := h
  exact ⟨a, c, h1, h2, h3.set_ 2 _, h4, h5.same h4 fun k _ hr => Below.heap_setCell w _ _ k (by simp; omega)⟩

/-- An expression by value, its Kids in blocks from lo on. -/
def EVal (lo : Nat) (x : Ex) (v : Value) (w : World) : Prop := ∃ cs : List Value, v = .agg cs.toArray ∧ RepE w (From lo) x cs

theorem EVal.nine {lo : Nat} {x : Ex} {v : Value} {w : World} (h : EVal lo x v w) :
    ∃ op a n c nm pr k b m t pa pn pc, v = .agg #[.int .i64 op, .slice a n c, .string nm, .string pr, .int .i64 k, .bool b, .int .i64 m, .string t, .slice pa pn pc] ∧
      RepE w (From lo) x [.int .i64 op, .slice a n c, .string nm, .string pr, .int .i64 k, .bool b, .int .i64 m, .string t, .slice pa pn pc] := by
  obtain ⟨cs, rfl, h⟩ := h
  obtain ⟨op, a, n, c, nm, pr, k, b, m, t, pa, pn, pc, rfl⟩ := h.nine
  exact ⟨op, a, n, c, nm, pr, k, b, m, t, pa, pn, pc, rfl, h⟩
theorem EVal.mk_ {lo : Nat} {x : Ex} {w : World} {cs : List Value} (h : RepE w (From lo) x cs) : EVal lo x (.agg cs.toArray) w := ⟨cs, rfl, h⟩

set_option maxRecDepth 100000 in
set_option maxHeartbeats 1000000 in
theorem deeper_calls (r : Nat) (L : List Tok) (en d pos : Int) (w : World) (h : Rd w r L en d) (hd0 : 0 ≤ d) (hd1 : d ≤ 50) (k : FuncId) (eg : ∀ args w, (callFunc k args).run Tryd.prog w = .ok (.enter k args) w) (fs cs : Array Value) (f : Int → Res Ex)
    (hf : ∀ wx res', Rd wx r L en (d + 1) → Kp r w wx → d + 1 ≤ 50 → f (d + 1) = some res' → Calls Tryd.prog k (fs ++ cs) wx (Post r en (d + 1) wx (EVal wx.heap.size) res'))
    (res : Except (Int × Int) (Ex × List Tok)) (hres : deepR pos d f = some res) :
    Calls Tryd.prog 69 #[.pointer (some ⟨r, 0, none⟩), .int .i64 pos, .func (.func k) fs cs] w (Post r en d w (EVal w.heap.size) res) := by
  have hr := h.lt
  obtain ⟨a, c, hc, hcm, g0, g1, g2, f0, f2⟩ := h.facts
  by_cases hgt : d + 1 > 50
  · simp only [deepR, if_pos hgt] at hres
    go_enter Tryd.func69, Tryd.ntmps69
    go_wp2_with fail
    cases hres
    exact ⟨rfl, rfl, ((Kp.refl r w).setCell (.inl rfl) _).alloc _⟩
  · simp only [deepR, if_neg hgt] at hres
    have hF := Lib.hid hf
    clear hf
    go_enter Tryd.func69, Tryd.ntmps69
    go_wp2_with fail
    clear eg
    have hk0 : Kp r w ((w.setCell ⟨r, 2, none⟩ (.int .i64 (d + 1))).alloc (.cells #[.int .i64 0, .slice none 0 0, .string ⟨#[]⟩, .string ⟨#[]⟩, .int .i64 0, .bool false, .int .i64 0, .string ⟨#[]⟩, .slice none 0 0] 57)) := ((Kp.refl r w).setCell (.inl rfl) _).alloc _
    have hrd0 := (h.deep (d + 1)).alloc (.cells #[.int .i64 0, .slice none 0 0, .string ⟨#[]⟩, .string ⟨#[]⟩, .int .i64 0, .bool false, .int .i64 0, .string ⟨#[]⟩, .slice none 0 0] 57)
    refine (hF.out _ res hrd0 hk0 (by omega) hres).mono ?_
    rintro e w2 hp
    rcases res with ⟨pos', code⟩ | ⟨x, L'⟩
    · obtain ⟨rfl, hk2⟩ := hp
      simp only [gave]
      go_wp2_with fail
      exact ⟨rfl, rfl, hk0.trans hk2⟩
    · obtain ⟨v, rfl, hv, h2, hk2⟩ := hp
      obtain ⟨op, ka, kn, kc, nm, pr, vk, vb, vm, vt, pa, pn, pc, rfl, hx⟩ := hv.nine
      clear g0 g1 g2 f0 f2 hres hv
      obtain ⟨a2, c2, hc2, hcm2, g0, g1, g2, f0, f2⟩ := h2.facts
      obtain ⟨r1, r2⟩ := hk2.rules
      have hs := hk2.size
      simp only [World.size_alloc, World.size_setCell] at hs
      have hlt : w.heap.size < w2.heap.size := hs
      have hne : ¬ w.heap.size = r := by omega
      have hrlt := h2.lt
      clear hs
      go_wp2_with fail
      refine bodyPost_ret (v := .agg #[.int .i64 op, .slice ka kn kc, .string nm, .string pr, .int .i64 vk, .bool vb, .int .i64 vm, .string vt, .slice pa pn pc]) (by simp [results, Tryd.results69, go_sem, *]) rfl ⟨_, rfl, EVal.mk_ ?_, ?_, ?_⟩
      · simp only [World.size_alloc, World.size_setCell] at hx
        refine RepE.mono (From.down (Nat.le_succ _)) (RepE.same ?_ hx)
        repeat' (first | with_reducible exact Same.refl _ _ | with_reducible refine Same.alloc_ ?_ ?_ | with_reducible refine Same.low ?_ ?_)
        all_goals first | omega | (simp; done)
      · have h3 := h2.deep d
        repeat' (first | with_reducible exact h3 | with_reducible refine Rd.alloc_ ?_ | with_reducible refine Rd.far_ ?_ ?_)
        all_goals omega
      · have h3 := hk0.trans hk2
        repeat' (first | with_reducible exact h3 | with_reducible refine Kp.alloc_ ?_ | with_reducible refine Kp.here ?_ | with_reducible refine Kp.new_ ?_ ?_)
        all_goals omega
end Go.Proofs.YtaonmhegnnpgaaaDoor
