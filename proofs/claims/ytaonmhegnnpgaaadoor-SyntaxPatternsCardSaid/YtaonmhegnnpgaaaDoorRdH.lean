/- The contract of the reader's row. No condition. -/
import Derived.Test.YtaonmhegnnpgaaaDoorRdG
import Derived.RegionTactic
import Derived.ChangeAlike
import Derived.Deep.RegionHeld3
namespace Go.Proofs.YtaonmhegnnpgaaaDoor
open Go Go.RowKit

theorem RepE.new_two {w : World} {S : Nat → Prop} {op : Int} {x y : Ex} {xs ys : List Value} (hx : RepE w S x xs) (hy : RepE w S y ys) {b c : Nat} (hb : S b)
    (hc : ∀ j u, (xs ++ ys)[j]? = some u → w.cell? ⟨b, j, none⟩ = some u) :
    RepE w S (two op x y) [.int .i64 op, .slice (some ⟨b, 0, none⟩) 2 c, .string emp, .string emp, .int .i64 0, .bool false, .int .i64 0, .string emp, .slice none 0 0] :=
  ⟨_, _, xs ++ ys, _, rfl, RepV.flat w S 0 false 0 emp none 0, .inr ⟨_, rfl, hb, fun j u hu => by
    have := hc j u hu
    unfold Addr.add
    by_cases hj : j = 0
    · subst hj; simpa using this
    · simpa [hj] using this⟩, RepEs.two hx hy⟩

/-- The same, of the world just behind the making of the Kids' row, and a draw. -/
theorem RepE.new_two_drew {C : World} {S : Nat → Prop} {t : TypeId} {op : Int} {x y : Ex} {xs ys cs : List Value} {n : Nat} (hC : C.heap.size = n) (hcs : cs = xs ++ ys) (hx : RepE C S x xs) (hy : RepE C S y ys) (hb : S n) :
    RepE (C.alloc (.cells cs.toArray t)).drew S (two op x y) [.int .i64 op, .slice (some ⟨n, 0, none⟩) 2 2, .string ⟨#[]⟩, .string ⟨#[]⟩, .int .i64 0, .bool false, .int .i64 0, .string ⟨#[]⟩, .slice none 0 0] := by
  subst hcs hC
  have hs : Same S C (C.alloc (.cells (xs ++ ys).toArray t)).drew := ((Same.refl _ _).alloc (Nat.le_refl _) _).drew
  exact RepE.new_two (RepE.same hs hx) (RepE.same hs hy) hb fun j u hu => ((Blk.new C t (xs ++ ys)).cell j).trans hu

theorem signAt_lt : ∀ {l : List (ByteArray × Int)} {L : List Tok} {i : Nat}, signAt l L = some i → i < l.length
  | [], _, _, h => by cases h
  | (s, _) :: l, L, i, h => by
    simp only [signAt] at h
    split at h
    · cases h; simp
    · cases hq : signAt l L with
      | none => rw [hq] at h; cases h
      | some j =>
        rw [hq] at h
        cases h
        have := signAt_lt hq
        simp; omega

/-- What reads a part: at every fuel up to n. -/
def PartAt (n : Nat) (nt : Nt) (r : Nat) (k : FuncId) (fs cs : Array Value) (en d : Int) (w0 : World) : Prop :=
  ∀ m, m ≤ n → ∀ wx L res', Rd wx r L en d → Kp r w0 wx → parse en m nt d L = some res' → Calls Tryd.prog k (fs ++ cs) wx (Post r en d wx (EVal wx.heap.size) res')

set_option maxRecDepth 100000 in
set_option maxHeartbeats 1000000 in
theorem row_calls (K : RowK) (n : Nat) (r : Nat) (L : List Tok) (en d : Int) (w : World) (h : Rd w r L en d) (k : FuncId) (eg : ∀ args w, (callFunc k args).run Tryd.prog w = .ok (.enter k args) w) (fs cs : Array Value)
    (hp : PartAt n K.part r k fs cs en d w) (a : Option Addr) (c : Nat) (hl : CellsAt w (fun b => ¬ b = r) a (K.signs.flatMap signCells))
    (res : Except (Int × Int) (Ex × List Tok)) (hres : ((parse en n K.part d L).bind fun x L => parse en n (.rest K x) d L) = some res) :
    Calls Tryd.prog 50 #[.pointer (some ⟨r, 0, none⟩), .func (.func k) fs cs, .slice a K.signs.length c] w (Post r en d w (EVal w.heap.size) res) := by
  have hr := h.lt
  obtain ⟨r1, hr1⟩ : ∃ r1, parse en n K.part d L = some r1 := by
    cases hq : parse en n K.part d L with
    | none => rw [hq] at hres; cases hres
    | some r1 => exact ⟨r1, rfl⟩
  rw [hr1] at hres
  have hP := Lib.hid hp
  have hR1 := Lib.hid hr1
  have hRes := Lib.hid hres
  clear hp hr1 hres
  go_enter Tryd.func50, Tryd.ntmps50
  go_wp2_with fail
  have hk0 : Kp r w ((w.alloc (.cells #[.pointer (some ⟨r, 0, none⟩)] 80)).alloc (.cells #[.int .i64 0, .slice none 0 0, .string ⟨#[]⟩, .string ⟨#[]⟩, .int .i64 0, .bool false, .int .i64 0, .string ⟨#[]⟩, .slice none 0 0] 57)) := ((Kp.refl r w).alloc _).alloc _
  refine (hP.out n (Nat.le_refl _) _ L r1 ((h.alloc _).alloc _) hk0 hR1.out).mono ?_
  rintro e w1 hpost
  have hres := hRes.out
  clear hRes hR1
  rcases r1 with ⟨pos', code⟩ | ⟨x, L1⟩
  · obtain ⟨rfl, hk1⟩ := hpost
    simp only [gave]
    go_wp2_with fail
    cases hres
    exact ⟨rfl, rfl, hk0.trans hk1⟩
  · simp only [Res.bind] at hres
    obtain ⟨v, rfl, hv, h1, hk1⟩ := hpost
    obtain ⟨op, ka, kn, kc, nm, pr, vk, vb, vm, vt, pa, pn, pc, rfl, hx⟩ := hv.nine
    have hRes := Lib.hid hres
    clear hres hv
    simp only [World.size_alloc] at hx
    go_wp2_with fail
    have hs1 := hk1.size
    simp only [World.size_alloc] at hs1
    obtain ⟨xb, hxb⟩ : ∃ xb, xb = w1.heap.size := ⟨_, rfl⟩
    have hX0 : Blk (w1.alloc (.cells #[.int .i64 op, .slice ka kn kc, .string nm, .string pr, .int .i64 vk, .bool vb, .int .i64 vm, .string vt, .slice pa pn pc] 57)) xb 57 [.int .i64 op, .slice ka kn kc, .string nm, .string pr, .int .i64 vk, .bool vb, .int .i64 vm, .string vt, .slice pa pn pc] := by
      rw [hxb]; exact Blk.new w1 _ _
    have hB0 : Blk w1 w.heap.size 80 [.pointer (some ⟨r, 0, none⟩)] := ((Blk.new w _ _).alloc _).kp hk1 (by omega)
    have hQ0 : Blk w1 (w.heap.size + 1) 57 [.int .i64 0, .slice none 0 0, .string ⟨#[]⟩, .string ⟨#[]⟩, .int .i64 0, .bool false, .int .i64 0, .string ⟨#[]⟩, .slice none 0 0] := by
      have := Blk.new (w.alloc (.cells #[.pointer (some ⟨r, 0, none⟩)] 80)) 57 [.int .i64 0, .slice none 0 0, .string ⟨#[]⟩, .string ⟨#[]⟩, .int .i64 0, .bool false, .int .i64 0, .string ⟨#[]⟩, .slice none 0 0]
      simp only [World.size_alloc] at this
      exact this.kp hk1 (by omega)
    have hE0 : RepE (w1.alloc (.cells #[.int .i64 op, .slice ka kn kc, .string nm, .string pr, .int .i64 vk, .bool vb, .int .i64 vm, .string vt, .slice pa pn pc] 57)) (fun b => w.heap.size + 2 ≤ b ∧ ¬ b = xb) x [.int .i64 op, .slice ka kn kc, .string nm, .string pr, .int .i64 vk, .bool vb, .int .i64 vm, .string vt, .slice pa pn pc] := by
      have h9 : RepE w1 (fun b => w.heap.size + 2 ≤ b ∧ ¬ b = xb) x _ := RepE.mono (fun b hb hlt => ⟨by unfold From at hb; omega, by omega⟩) hx
      exact RepE.same ((Same.refl _ _).alloc (Nat.le_refl _) _) h9
    have hRd0 := h1.alloc (.cells #[.int .i64 op, .slice ka kn kc, .string nm, .string pr, .int .i64 vk, .bool vb, .int .i64 vm, .string vt, .slice pa pn pc] 57)
    have hKp0 := (hk0.trans hk1).alloc (.cells #[.int .i64 op, .slice ka kn kc, .string nm, .string pr, .int .i64 vk, .bool vb, .int .i64 vm, .string vt, .slice pa pn pc] 57)
    have hxs : w.heap.size + 2 ≤ xb := by omega
    rw [← hxb]
    go_loopg [8] n (fun m s8 wr => m ≤ n ∧ ∃ y L2 nine, Hid (parse en m (.rest K y) d L2 = some res) ∧ Rd wr r L2 en d ∧ Kp r w wr ∧ Blk wr xb 57 nine ∧
      RepE wr (fun b => w.heap.size + 2 ≤ b ∧ ¬ b = xb) y nine ∧ Blk wr w.heap.size 80 [.pointer (some ⟨r, 0, none⟩)] ∧
      Blk wr (w.heap.size + 1) 57 [.int .i64 0, .slice none 0 0, .string ⟨#[]⟩, .string ⟨#[]⟩, .int .i64 0, .bool false, .int .i64 0, .string ⟨#[]⟩, .slice none 0 0])
    case atStart => exact ⟨Nat.le_refl _, x, L1, _, hRes, hRd0, hKp0, hX0, hE0, hB0.alloc _, hQ0.alloc _⟩
    case round =>
      obtain ⟨hm, y, L2, nine, hpr, hrd, hkp, hX, hE, hB, hQ⟩ := hrel
      obtain ⟨op', ka', kn', kc', nm', pr', vk', vb', vm', vt', pa', pn', pc', rfl⟩ := hE.nine
      clear hX0 hB0 hQ0 hE0 hRd0 hKp0 hRes hk1 h1 hx hk0 hs1 h hxb
      have hl1 := hl.same (Same.of_kp hkp fun _ h => h)
      have hbx := hB.cell 0
      simp only [List.getElem?_cons_zero] at hbx
      go_wp2_with fail
      refine (index_calls r w.heap.size L2 K.signs a c en d _ hrd hbx (by omega) hl1 (by cases K <;> decide)).mono ?_
      rintro e w3 ⟨rfl, h3, hk3⟩
      have hpr' := hpr.out
      clear hpr hl1
      cases gk with
      | zero => cases hpr'
      | succ m =>
      have hX3 := hX.kp hk3 (by omega)
      have hB3 := hB.kp hk3 (by omega)
      have hQ3 := hQ.kp hk3 (by omega)
      have hE3 : RepE w3 (fun b => w.heap.size + 2 ≤ b ∧ ¬ b = xb) y _ := RepE.same (Same.of_kp hk3 fun b hb => by omega) hE
      have hkp3 := hkp.trans hk3
      clear hX hB hQ hE hbx hkp hk3
      have hrlt := h3.lt
      cases hsg : signAt K.signs L2 with
      | none =>
        rw [hsg] at h3
        simp only [parse, hsg] at hpr'
        have hRes := Lib.hid hpr'
        clear hpr' hP
        have h3' : Rd w3 r L2 en d := h3
        clear h3
        simp only [signInt]
        obtain ⟨x0, x1, x2, x3, x4, x5, x6, x7, x8⟩ := hX3.c9
        obtain ⟨q0, q1, q2, q3, q4, q5, q6, q7, q8⟩ := hQ3.c9
        have fQ := hQ3.frozen
        have fX := hX3.frozen
        have hxl := hX3.lt
        have hql := hQ3.lt
        have hsig := Lib.hid hsg
        clear hsg
        go_wp2_with fail
        have hres := hRes.out
        cases hres
        refine bodyPost_ret (v := .agg #[.int .i64 op', .slice ka' kn' kc', .string nm', .string pr', .int .i64 vk', .bool vb', .int .i64 vm', .string vt', .slice pa' pn' pc']) (by simp [results, Tryd.results50, go_sem, *]) rfl ⟨_, rfl, EVal.mk_ ?_, ?_, ?_⟩
        · refine RepE.mono (fun b hb _ => by unfold From; omega) (RepE.same ?_ hE3)
          repeat' (first | with_reducible exact Same.refl _ _ | with_reducible refine Same.alloc_ ?_ ?_ | with_reducible refine Same.out ?_ ?_)
          all_goals first | omega | (simp; done)
        · repeat' (first | with_reducible exact h3' | with_reducible refine Rd.alloc_ ?_ | with_reducible refine Rd.far_ ?_ ?_)
          all_goals omega
        · repeat' (first | with_reducible exact hkp3 | with_reducible refine Kp.alloc_ ?_ | with_reducible refine Kp.here ?_ | with_reducible refine Kp.new_ ?_ ?_)
          all_goals omega
      | some i =>
        rw [hsg] at h3
        simp only [parse, hsg] at hpr'
        have h3' : Rd w3 r L2.tail en d := h3
        clear h3
        have hi := signAt_lt hsg
        obtain ⟨r2, hr2⟩ : ∃ r2, parse en m K.part d L2.tail = some r2 := by
          cases hq : parse en m K.part d L2.tail with
          | none => rw [hq] at hpr'; cases hpr'
          | some r2 => exact ⟨r2, rfl⟩
        rw [hr2] at hpr'
        have hRes := Lib.hid hpr'
        have hR2 := Lib.hid hr2
        have hsig := Lib.hid hsg
        clear hpr' hr2 hsg
        simp only [signInt]
        go_wp2_with fail
        refine (hP.out m (by omega) _ L2.tail r2 h3' hkp3 hR2.out).mono ?_
        rintro e w4 hpost
        have hres := hRes.out
        clear hRes hR2 hP
        rcases r2 with ⟨pos', code⟩ | ⟨z, L3⟩
        · obtain ⟨rfl, hk4⟩ := hpost
          simp only [gave]
          go_wp2_with fail
          cases hres
          exact ⟨rfl, rfl, hkp3.trans hk4⟩
        · simp only [Res.bind] at hres
          obtain ⟨v, rfl, hv, h4, hk4⟩ := hpost
          obtain ⟨zop, za, zn, zc, znm, zpr, zk, zb, zm, zt, zpa, zpn, zpc, rfl, hz⟩ := hv.nine
          have hRes := Lib.hid hres
          clear hres hv
          have hX4 := hX3.kp hk4 (by omega)
          have hB4 := hB3.kp hk4 (by omega)
          have hQ4 := hQ3.kp hk4 (by omega)
          have hE4 : RepE w4 (fun b => w.heap.size + 2 ≤ b ∧ ¬ b = xb) y _ := RepE.same (Same.of_kp hk4 fun b hb => by omega) hE3
          have hkp4 := hkp3.trans hk4
          have hx3 := hX3.lt
          have hs4 := hk4.size
          obtain ⟨sb, soff, rfl, hsb, s0, s1⟩ := two_cells (hl.same (Same.of_kp hkp4 fun _ h => h)) hi
          clear hX3 hB3 hQ3 hE3 hkp3 hk4 hrlt h3' hl hrd
          obtain ⟨x0, x1, x2, x3, x4, x5, x6, x7, x8⟩ := hX4.c9
          have fX := hX4.frozen
          have hxl := hX4.lt
          have hsl := lt_of_cell s0
          simp only at hsl
          have hop : (K.signs[i]).2 = opAt K.signs i := by simp [opAt, List.getD, hi]
          rw [hop] at s1
          clear hop s0
          go_wp2_with fail
          generalize hW : w4.alloc (.cells #[.int .i64 zop, .slice za zn zc, .string znm, .string zpr, .int .i64 zk, .bool zb, .int .i64 zm, .string zt, .slice zpa zpn zpc] 57) = W
          have hY5 := Blk.new_of (cs := [.int .i64 zop, .slice za zn zc, .string znm, .string zpr, .int .i64 zk, .bool zb, .int .i64 zm, .string zt, .slice zpa zpn zpc]) hW
          have hX5 := Blk.of_alloc hW hX4
          have hB5 := Blk.of_alloc hW hB4
          have hQ5 := Blk.of_alloc hW hQ4
          have hS5 := cell_of_alloc hW s1
          have hR5 := Rd.of_alloc hW h4
          have hK5 := Kp.of_alloc hW hkp4
          have hE5 := RepE.same (Same.of_alloc hW) hE4
          have hZ5 := RepE.same (Same.of_alloc hW) (RepE.mono (S' := fun b => w.heap.size + 2 ≤ b ∧ ¬ b = xb) (fun b hb hlt => by unfold From at hb; omega) hz)
          have hyb : xb < w4.heap.size := hxl
          generalize w4.heap.size = yb at hY5 hyb ⊢
          clear hX4 hB4 hQ4 hE4 hkp4 h4 hz x0 x1 x2 x3 x4 x5 x6 x7 x8 fX hsl s1 hW hs4 hx3
          clear hxl
          have hxl := hX5.lt
          have hyl := hY5.lt
          have hsl := lt_of_cell hS5
          simp only at hsl
          obtain ⟨x0, x1, x2, x3, x4, x5, x6, x7, x8⟩ := hX5.c9
          obtain ⟨y0, y1, y2, y3, y4, y5, y6, y7, y8⟩ := hY5.c9
          have fX := hX5.frozen
          have hi0 : (0 : Int) ≤ (i : Int) := by omega
          have hi1 : (i : Int) < (K.signs.length : Int) := by omega
          go_region
          go_wp2_with fail
          go_roundg m
          case measure => omega
          case rel =>
            refine ⟨by omega, two (opAt K.signs i) y z, L3, [.int .i64 (opAt K.signs i), .slice (some ⟨W.heap.size, 0, none⟩) 2 2, .string ⟨#[]⟩, .string ⟨#[]⟩, .int .i64 0, .bool false, .int .i64 0, .string ⟨#[]⟩, .slice none 0 0], hRes, ?_, ?_, ?_, ?_, ?_, ?_⟩
            · repeat' (first | with_reducible exact hR5 | with_reducible refine Rd.drew ?_ | with_reducible refine Rd.alloc_ ?_ | with_reducible refine Rd.far_ ?_ ?_)
              all_goals omega
            · repeat' (first | with_reducible exact hK5 | with_reducible refine Kp.drew ?_ | with_reducible refine Kp.alloc_ ?_ | with_reducible refine Kp.new_ ?_ ?_)
              all_goals omega
            · with_reducible exact (Blk.put9 hX5).alloc_.drew
            · with_reducible refine RepE.new_two_drew ?hC ?hcs (RepE.same ?hx hE5) (RepE.same ?hy hZ5) ?hb
              case hC => simp only [World.size_setCell]
              case hcs => simp only [List.cons_append, List.nil_append]
              case hb => omega
              all_goals (repeat' (first | with_reducible exact Same.refl _ _ | with_reducible refine Same.out ?_ ?_))
              all_goals omega
            · repeat' (first | with_reducible exact hB5 | with_reducible refine Blk.drew ?_ | with_reducible refine Blk.alloc_ ?_ | with_reducible refine Blk.far_ ?_ ?_)
              all_goals omega
            · repeat' (first | with_reducible exact hQ5 | with_reducible refine Blk.drew ?_ | with_reducible refine Blk.alloc_ ?_ | with_reducible refine Blk.far_ ?_ ?_)
              all_goals omega
end Go.Proofs.YtaonmhegnnpgaaaDoor
