/- The contracts of listed. No condition. -/
import Derived.Test.YtaonmhegnnpgaaaDoorRdU
import Derived.OwnWalk
import Derived.Deep.AppendLies
namespace Go.Proofs.YtaonmhegnnpgaaaDoor
open Go Go.RowKit

theorem info_node : (Tryd.prog.info? 47).map (fun i => (i.zero, i.size, i.bytes)) = some (some (.agg #[.string ⟨#[]⟩, .string ⟨#[]⟩]), 2, 32) := by kernel_rfl
theorem info_edge : (Tryd.prog.info? 45).map (fun i => (i.zero, i.size, i.bytes)) = some (some (.agg #[.string ⟨#[]⟩, .string ⟨#[]⟩, .bool false, .int .i64 0, .int .i64 0, .int .i64 0]), 6, 64) := by kernel_rfl
theorem info_pat : (Tryd.prog.info? 42).map (fun i => (i.zero, i.size, i.bytes)) = some (some (.agg #[.slice none 0 0, .slice none 0 0]), 2, 48) := by kernel_rfl
theorem info_item : (Tryd.prog.info? 67).map (fun i => (i.zero, i.size, i.bytes)) = some (some (.agg #[.int .i64 0, .slice none 0 0, .string ⟨#[]⟩, .string ⟨#[]⟩, .int .i64 0, .bool false, .int .i64 0, .string ⟨#[]⟩, .slice none 0 0, .string ⟨#[]⟩]), 10, 144) := by kernel_rfl
theorem info_key : (Tryd.prog.info? 86).map (fun i => (i.zero, i.size, i.bytes)) = some (some (.agg #[.string ⟨#[]⟩, .bool false]), 2, 24) := by kernel_rfl

theorem Kp.grownBy {r : Nat} {w w' : World} (h : Kp r w w') : w.grownBy w' (some r) := ⟨h.os, h.tape, h.output, h.size, fun k hk hr => h.block k hk (fun e => hr (by rw [e]))⟩
/-- Some things that a call has laid one behind the other, in a block of its own; what they hold lies in other new blocks. -/
def Own {α : Type} (Y : Lay α) (w : World) (lo : Nat) (t : TypeId) (v : Value) (acc : List α) : Prop :=
  ∃ xs, w.ownsRow lo t Y.n v acc.length xs ∧ Reps (Y.R w fun b => lo ≤ b ∧ ¬ v.ownBlock = some b) acc xs
theorem Own.kp {α : Type} {Y : Lay α} {w w' : World} {lo r : Nat} {t : TypeId} {v : Value} {acc : List α} (h : Own Y w lo t v acc) (hk : Kp r w w') (hr : r < lo) : Own Y w' lo t v acc := by
  obtain ⟨xs, h1, h2⟩ := h
  refine ⟨xs, h1.kept hk.grownBy ?_, h2.imp fun x cs hx => Y.same (Same.of_kp hk fun b hb => by omega) hx⟩
  rcases hv : v.ownBlock with _ | g
  · exact .inl rfl
  · exact .inr fun e => by have := (h1.lt g hv).1; cases e; omega
theorem Own.alloc {α : Type} {Y : Lay α} {w : World} {lo : Nat} {t : TypeId} {v : Value} {acc : List α} (h : Own Y w lo t v acc) (o : Obj) : Own Y (w.alloc o) lo t v acc := by
  obtain ⟨xs, h1, h2⟩ := h
  exact ⟨xs, h1.alloc o, h2.imp fun x cs hx => Y.same ((Same.refl _ _).alloc (Nat.le_refl _) o) hx⟩
/-- One more. -/
theorem Own.more {α : Type} {Y : Lay α} {w w' : World} {lo m g cap : Nat} {t : TypeId} {v : Value} {acc : List α} {x : α} {xs cs : List Value} (h2 : Reps (Y.R w fun b => lo ≤ b ∧ ¬ v.ownBlock = some b) acc xs)
    (hx : Y.R w (fun b => lo ≤ b ∧ ¬ v.ownBlock = some b) x cs)
    (hown : w'.ownsRow lo t Y.n (.slice (some ⟨g, 0, none⟩) m cap) m (xs ++ cs)) (hm : m = (acc ++ [x]).length) (hgrow : w.grownBy w' v.ownBlock) (hat : v.ownBlock = some g ∨ g = w.heap.size) :
    Own Y w' lo t (.slice (some ⟨g, 0, none⟩) m cap) (acc ++ [x]) := by
  subst hm
  have key : ∀ y ds, Y.R w (fun b => lo ≤ b ∧ ¬ v.ownBlock = some b) y ds → Y.R w' (fun b => lo ≤ b ∧ ¬ (Value.slice (some ⟨g, 0, none⟩) (acc ++ [x]).length cap).ownBlock = some b) y ds := by
    intro y ds hy
    have h1 : Y.R w (fun b => (lo ≤ b ∧ ¬ v.ownBlock = some b) ∧ ¬ g = b) y ds := Y.mono (fun b hb hlt => ⟨hb, fun e => by
      rcases hat with hat | hat
      · exact hb.2 (by rw [hat, e])
      · omega⟩) hy
    have h2 := Y.same (fun k hk hlt => hgrow.block k hlt (fun e => hk.1.2 e.symm)) h1
    exact Y.mono (fun b hb _ => ⟨hb.1.1, fun e => hb.2 (by simpa [Value.ownBlock] using e)⟩) h2
  exact ⟨xs ++ cs, hown, Reps.append (h2.imp key) (Reps.one (key _ _ hx))⟩
theorem Own.first {α : Type} {Y : Lay α} {w W : World} {lo g : Nat} {t : TypeId} {x : α} {cs : List Value} (hW : w.alloc (.cells cs.toArray t) = W) (hg : g = w.heap.size) (hx : Y.R w (From lo) x cs) (hlo : lo ≤ w.heap.size) :
    Own Y W lo t (.slice (some ⟨g, 0, none⟩) 1 1) [x] := by
  subst hW hg
  refine ⟨cs, ?_, Reps.one (Y.same ((Same.refl _ _).alloc (Nat.le_refl _) _) (Y.mono (fun b hb hlt => ⟨hb, fun e => ?_⟩) hx))⟩
  · have := World.ownsRow_lit (base := lo) (e := t) (size := Y.n) w cs.toArray 1 hlo (by unfold maxLen; omega) (by simp [Y.size hx])
    simpa using this
  · simp [Value.ownBlock] at e; omega
theorem Own.toS {α : Type} {Y : Lay α} {w : World} {lo : Nat} {t : TypeId} {v : Value} {acc : List α} (h : Own Y w lo t v acc) (ha : acc ≠ []) : SVal Y lo acc v w := by
  obtain ⟨xs, h1, h2⟩ := h
  have hpos : 0 < acc.length := List.length_pos_iff.2 ha
  obtain ⟨g, cap, rfl, hg, hlt⟩ := h1.form hpos
  exact ⟨some ⟨g, 0, none⟩, cap, xs, rfl, .inr ⟨_, rfl, hg, h1.cells rfl⟩, h2.imp fun y ds hy => Y.mono (fun b hb _ => hb.1) hy⟩
theorem Rd.grown {w w' : World} {r : Nat} {L : List Tok} {en d : Int} {row : Option Nat} (h : Rd w r L en d) (hg : w.grownBy w' row) (hrow : ∀ k, row = some k → r < k) : Rd w' r L en d := by
  obtain ⟨a, c, h1, h2, h3, h4, h5⟩ := h
  exact ⟨a, c, h1, h2, h3.grown hg (fun e => by have := hrow _ e.symm; omega), h4, h5.same h4 fun k hk hr => hg.block k hk (fun e => by have := hrow _ e.symm; omega)⟩
theorem cells_pat {w : World} {S : Nat → Prop} {x : Pat} {cs : List Value} (h : layPat.R w S x cs) : ∃ a n c a' n' c', cs = [.slice a n c, .slice a' n' c'] := by
  obtain ⟨v, u, rfl, ⟨a, c, _, rfl, _⟩, ⟨a', c', _, rfl, _⟩⟩ := h
  exact ⟨a, _, c, a', _, c', rfl⟩
theorem cells_item {w : World} {S : Nat → Prop} {x : ItemP} {cs : List Value} (h : layItem.R w S x cs) :
    ∃ op a n c nm pr k b m t pa pn pc s, cs = [.int .i64 op, .slice a n c, .string nm, .string pr, .int .i64 k, .bool b, .int .i64 m, .string t, .slice pa pn pc, .string s] := by
  obtain ⟨ds, rfl, h⟩ := h
  obtain ⟨op, a, n, c, nm, pr, k, b, m, t, pa, pn, pc, rfl⟩ := h.nine
  exact ⟨op, a, n, c, nm, pr, k, b, m, t, pa, pn, pc, _, rfl⟩
theorem cells_key {w : World} {S : Nat → Prop} {x : KeyP} {cs : List Value} (h : layKey.R w S x cs) : ∃ s b, cs = [.string s, .bool b] := ⟨_, _, h⟩

set_option maxRecDepth 100000 in
set_option maxHeartbeats 2000000 in
theorem listed_pat (n : Nat) (hn : n ≤ 1000000000) (r : Nat) (L : List Tok) (en d : Int) (w : World) (h : Rd w r L en d) (k : FuncId) (eg : ∀ args w, (callFunc k args).run Tryd.prog w = .ok (.enter k args) w) (fs cs : Array Value) (f : List Tok → Res Pat)
    (hf : ∀ wx L' res', Rd wx r L' en d → Kp r w wx → f L' = some res' → Calls Tryd.prog k (fs ++ cs) wx (Post r en d wx (LVal layPat wx.heap.size) res'))
    (res : Except (Int × Int) (List Pat × List Tok)) (hres : listR f n L = some res) :
    Calls Tryd.prog 39 #[.pointer (some ⟨r, 0, none⟩), .func (.func k) fs cs] w (Post r en d w (SVal layPat w.heap.size) res) := by
  have hr := h.lt
  unfold listR at hres
  obtain ⟨r1, hr1⟩ := Res.bind_some hres
  rw [hr1] at hres
  have hF := Lib.hid hf
  have hR1 := Lib.hid hr1
  have hRes := Lib.hid hres
  clear hf hr1 hres
  go_enter Tryd.func39, Tryd.ntmps39
  go_wp2_with fail
  refine (hF.out _ L r1 h (Kp.refl r w) hR1.out).mono ?_
  rintro e w1 hpost
  have hres := hRes.out
  clear hRes hR1
  rcases r1 with ⟨pos', code⟩ | ⟨x, L1⟩
  · obtain ⟨rfl, hk1⟩ := hpost
    simp only [gave]
    go_wp2_with fail
    cases hres
    exact ⟨rfl, rfl, hk1⟩
  · simp only [Res.bind_ok] at hres
    obtain ⟨v, rfl, hv, h1, hk1⟩ := hpost
    obtain ⟨ds, rfl, hx⟩ := hv
    obtain ⟨a0, n0, c0, a1, n1, c1, rfl⟩ := cells_pat hx
    have hRes := Lib.hid hres
    clear hres
    go_wp2_with fail
    have hs1 := hk1.size
    generalize hW : w1.alloc (.cells #[.slice a0 n0 c0, .slice a1 n1 c1] 42) = W
    have hO0 : Own layPat W w.heap.size 42 (.slice (some ⟨w1.heap.size, 0, none⟩) 1 1) [x] := Own.first (cs := [.slice a0 n0 c0, .slice a1 n1 c1]) hW rfl hx hs1
    have h0 := Rd.of_alloc hW h1
    have hk0 := Kp.of_alloc hW hk1
    obtain ⟨i0, hi, hz0, hz1, hz2⟩ := info_parts info_pat
    clear hW h1 hk1 hx
    go_loopg [5] n (fun m v wr => m ≤ n ∧ ∃ acc L2, Hid (commasR f m acc L2 = some res) ∧ acc ≠ [] ∧ acc.length + m ≤ n + 1 ∧ Rd wr r L2 en d ∧ Kp r w wr ∧ Own layPat wr w.heap.size 42 v acc)
    case atStart => exact ⟨Nat.le_refl _, [x], L1, hRes, by simp, by simp; omega, h0, hk0, hO0⟩
    case round =>
      obtain ⟨hm, acc, L2, hpr, hne, hlen, hrd, hkp, hO⟩ := hrel
      clear hRes h0 hk0 hO0 hs1 h
      go_wp2_with fail
      refine (has_calls r L2 sComma en d _ hrd).mono ?_
      rintro e w3 ⟨rfl, h3, hk3⟩
      have hpr' := hpr.out
      clear hpr
      have hO3 := hO.kp hk3 hr
      have hkp3 := hkp.trans hk3
      clear hO hkp hk3 hrd
      cases gk with
      | zero => cases hpr'
      | succ m =>
      cases hh : hasB L2 sComma with
      | false =>
        rw [hh] at h3
        simp only [commasR, hh, Bool.false_eq_true, if_false] at hpr'
        have hRes := Lib.hid hpr'
        clear hpr' hF hh
        go_wp2_with fail
        have hres := hRes.out
        cases hres
        exact bodyPost_ret (v := u5) (by simp [results, Tryd.results39, go_sem]) rfl ⟨_, rfl, hO3.toS hne, h3, hkp3⟩
      | true =>
        rw [hh] at h3
        simp only [commasR, hh, if_true] at hpr'
        have h3' : Rd w3 r L2.tail en d := h3
        clear h3 hh
        obtain ⟨r2, hr2⟩ := Res.bind_some hpr'
        rw [hr2] at hpr'
        have hRes := Lib.hid hpr'
        have hR2 := Lib.hid hr2
        clear hpr' hr2
        go_wp2_with fail
        refine (hF.out _ L2.tail r2 h3' hkp3 hR2.out).mono ?_
        rintro e w4 hpost
        have hres := hRes.out
        clear hRes hR2 hF
        rcases r2 with ⟨pos', code⟩ | ⟨z, L3⟩
        · obtain ⟨rfl, hk4⟩ := hpost
          simp only [gave]
          go_wp2_with fail
          cases hres
          exact ⟨rfl, rfl, hkp3.trans hk4⟩
        · simp only [Res.bind_ok] at hres
          obtain ⟨v', rfl, hv, h4, hk4⟩ := hpost
          obtain ⟨ds, rfl, hz⟩ := hv
          obtain ⟨a0, n0, c0, a1, n1, c1, rfl⟩ := cells_pat hz
          have hRes := Lib.hid hres
          have hO4 := hO3.kp hk4 hr
          have hlt3 : ∀ b, u5.ownBlock = some b → b < w3.heap.size := by
            obtain ⟨xs, ho, _⟩ := hO3
            exact fun b hb => (ho.lt b hb).2
          have hkp4 := hkp3.trans hk4
          have hs4 := hk4.size
          have hs3 := hkp3.size
          clear hres hO3 hkp3 hk4 h3'
          have hO5 := hO4.alloc (.cells #[.slice a0 n0 c0, .slice a1 n1 c1] 42)
          obtain ⟨xs, hown, hreps⟩ := hO5
          go_wp2_with (first
            | (at_builtin; refine wpList_append_lies _ rfl _ _ 31 rfl w.heap.size 42 i0 _ 2 48 Tryd.underlying31 hi hz0 hz1 hz2 rfl (by decide) _ acc.length xs rfl hown ⟨w4.heap.size, 0, none⟩ 1 1 [.slice a0 n0 c0, .slice a1 n1 c1] rfl rfl (World.news_of_block (heap_alloc_new w4 _)) (by simp [Value.oneCell']) (by decide) (by unfold maxLen; omega) (by omega) (by simp; omega) (w4.heap.size + 1) (by simp) ?_
               intro g cap w5 hown5 hgrow5 hat5 hlt5)
            | fail)
          have hz5 : layPat.R (w4.alloc (.cells #[.slice a0 n0 c0, .slice a1 n1 c1] 42)) (fun b => w.heap.size ≤ b ∧ ¬ u5.ownBlock = some b) z [.slice a0 n0 c0, .slice a1 n1 c1] :=
            layPat.same ((Same.refl _ _).alloc (Nat.le_refl _) _) (layPat.mono (fun b hb _ => ⟨by unfold From at hb; omega, fun e => by have := hlt3 b e; unfold From at hb; omega⟩) hz)
          have hbase := fun b hb => (hown.lt b hb).1
          replace hgrow5 : (w4.alloc (.cells #[.slice a0 n0 c0, .slice a1 n1 c1] 42)).grownBy w5 u5.ownBlock := hgrow5
          replace hat5 : u5.ownBlock = some g ∨ g = w4.heap.size + 1 := hat5
          have hO6 := Own.more hreps hz5 hown5 (by simp) hgrow5 (by simpa using hat5)
          have hR6 := (h4.alloc _).grown hgrow5 (fun b hb => Nat.lt_of_lt_of_le hr (hbase b hb))
          have hK6 := (hkp4.alloc _).grown hgrow5 hbase
          clear hown hreps hown5 hgrow5 hat5 hlt5 hO4 h4 hkp4 hz hz5 hbase
          go_wp2_with fail
          go_roundg m
          case measure => omega
          case rel => exact ⟨by omega, acc ++ [z], L3, hRes, by simp, by simp; omega, hR6, hK6, hO6⟩

set_option maxRecDepth 100000 in
set_option maxHeartbeats 2000000 in
theorem listed_item (n : Nat) (hn : n ≤ 1000000000) (r : Nat) (L : List Tok) (en d : Int) (w : World) (h : Rd w r L en d) (k : FuncId) (eg : ∀ args w, (callFunc k args).run Tryd.prog w = .ok (.enter k args) w) (fs cs : Array Value) (f : List Tok → Res ItemP)
    (hf : ∀ wx L' res', Rd wx r L' en d → Kp r w wx → f L' = some res' → Calls Tryd.prog k (fs ++ cs) wx (Post r en d wx (LVal layItem wx.heap.size) res'))
    (res : Except (Int × Int) (List ItemP × List Tok)) (hres : listR f n L = some res) :
    Calls Tryd.prog 42 #[.pointer (some ⟨r, 0, none⟩), .func (.func k) fs cs] w (Post r en d w (SVal layItem w.heap.size) res) := by
  have hr := h.lt
  unfold listR at hres
  obtain ⟨r1, hr1⟩ := Res.bind_some hres
  rw [hr1] at hres
  have hF := Lib.hid hf
  have hR1 := Lib.hid hr1
  have hRes := Lib.hid hres
  clear hf hr1 hres
  go_enter Tryd.func42, Tryd.ntmps42
  go_wp2_with fail
  refine (hF.out _ L r1 h (Kp.refl r w) hR1.out).mono ?_
  rintro e w1 hpost
  have hres := hRes.out
  clear hRes hR1
  rcases r1 with ⟨pos', code⟩ | ⟨x, L1⟩
  · obtain ⟨rfl, hk1⟩ := hpost
    simp only [gave]
    go_wp2_with fail
    cases hres
    exact ⟨rfl, rfl, hk1⟩
  · simp only [Res.bind_ok] at hres
    obtain ⟨v, rfl, hv, h1, hk1⟩ := hpost
    obtain ⟨ds, rfl, hx⟩ := hv
    obtain ⟨op, a0, n0, c0, nm, pr, vk, vb, vm, vt, a1, n1, c1, sn, rfl⟩ := cells_item hx
    have hRes := Lib.hid hres
    clear hres
    go_wp2_with fail
    have hs1 := hk1.size
    generalize hW : w1.alloc (.cells #[.int .i64 op, .slice a0 n0 c0, .string nm, .string pr, .int .i64 vk, .bool vb, .int .i64 vm, .string vt, .slice a1 n1 c1, .string sn] 67) = W
    have hO0 : Own layItem W w.heap.size 67 (.slice (some ⟨w1.heap.size, 0, none⟩) 1 1) [x] := Own.first (cs := [.int .i64 op, .slice a0 n0 c0, .string nm, .string pr, .int .i64 vk, .bool vb, .int .i64 vm, .string vt, .slice a1 n1 c1, .string sn]) hW rfl hx hs1
    have h0 := Rd.of_alloc hW h1
    have hk0 := Kp.of_alloc hW hk1
    obtain ⟨i0, hi, hz0, hz1, hz2⟩ := info_parts info_item
    clear hW h1 hk1 hx
    go_loopg [5] n (fun m v wr => m ≤ n ∧ ∃ acc L2, Hid (commasR f m acc L2 = some res) ∧ acc ≠ [] ∧ acc.length + m ≤ n + 1 ∧ Rd wr r L2 en d ∧ Kp r w wr ∧ Own layItem wr w.heap.size 67 v acc)
    case atStart => exact ⟨Nat.le_refl _, [x], L1, hRes, by simp, by simp; omega, h0, hk0, hO0⟩
    case round =>
      obtain ⟨hm, acc, L2, hpr, hne, hlen, hrd, hkp, hO⟩ := hrel
      clear hRes h0 hk0 hO0 hs1 h
      go_wp2_with fail
      refine (has_calls r L2 sComma en d _ hrd).mono ?_
      rintro e w3 ⟨rfl, h3, hk3⟩
      have hpr' := hpr.out
      clear hpr
      have hO3 := hO.kp hk3 hr
      have hkp3 := hkp.trans hk3
      clear hO hkp hk3 hrd
      cases gk with
      | zero => cases hpr'
      | succ m =>
      cases hh : hasB L2 sComma with
      | false =>
        rw [hh] at h3
        simp only [commasR, hh, Bool.false_eq_true, if_false] at hpr'
        have hRes := Lib.hid hpr'
        clear hpr' hF hh
        go_wp2_with fail
        have hres := hRes.out
        cases hres
        exact bodyPost_ret (v := u5) (by simp [results, Tryd.results42, go_sem]) rfl ⟨_, rfl, hO3.toS hne, h3, hkp3⟩
      | true =>
        rw [hh] at h3
        simp only [commasR, hh, if_true] at hpr'
        have h3' : Rd w3 r L2.tail en d := h3
        clear h3 hh
        obtain ⟨r2, hr2⟩ := Res.bind_some hpr'
        rw [hr2] at hpr'
        have hRes := Lib.hid hpr'
        have hR2 := Lib.hid hr2
        clear hpr' hr2
        go_wp2_with fail
        refine (hF.out _ L2.tail r2 h3' hkp3 hR2.out).mono ?_
        rintro e w4 hpost
        have hres := hRes.out
        clear hRes hR2 hF
        rcases r2 with ⟨pos', code⟩ | ⟨z, L3⟩
        · obtain ⟨rfl, hk4⟩ := hpost
          simp only [gave]
          go_wp2_with fail
          cases hres
          exact ⟨rfl, rfl, hkp3.trans hk4⟩
        · simp only [Res.bind_ok] at hres
          obtain ⟨v', rfl, hv, h4, hk4⟩ := hpost
          obtain ⟨ds, rfl, hz⟩ := hv
          obtain ⟨op, a0, n0, c0, nm, pr, vk, vb, vm, vt, a1, n1, c1, sn, rfl⟩ := cells_item hz
          have hRes := Lib.hid hres
          have hO4 := hO3.kp hk4 hr
          have hlt3 : ∀ b, u5.ownBlock = some b → b < w3.heap.size := by
            obtain ⟨xs, ho, _⟩ := hO3
            exact fun b hb => (ho.lt b hb).2
          have hkp4 := hkp3.trans hk4
          have hs4 := hk4.size
          have hs3 := hkp3.size
          clear hres hO3 hkp3 hk4 h3'
          have hO5 := hO4.alloc (.cells #[.int .i64 op, .slice a0 n0 c0, .string nm, .string pr, .int .i64 vk, .bool vb, .int .i64 vm, .string vt, .slice a1 n1 c1, .string sn] 67)
          obtain ⟨xs, hown, hreps⟩ := hO5
          go_wp2_with (first
            | (at_builtin; refine wpList_append_lies _ rfl _ _ 33 rfl w.heap.size 67 i0 _ 10 144 Tryd.underlying33 hi hz0 hz1 hz2 rfl (by decide) _ acc.length xs rfl hown ⟨w4.heap.size, 0, none⟩ 1 1 [.int .i64 op, .slice a0 n0 c0, .string nm, .string pr, .int .i64 vk, .bool vb, .int .i64 vm, .string vt, .slice a1 n1 c1, .string sn] rfl rfl (World.news_of_block (heap_alloc_new w4 _)) (by simp [Value.oneCell']) (by decide) (by unfold maxLen; omega) (by omega) (by simp; omega) (w4.heap.size + 1) (by simp) ?_
               intro g cap w5 hown5 hgrow5 hat5 hlt5)
            | fail)
          have hz5 : layItem.R (w4.alloc (.cells #[.int .i64 op, .slice a0 n0 c0, .string nm, .string pr, .int .i64 vk, .bool vb, .int .i64 vm, .string vt, .slice a1 n1 c1, .string sn] 67)) (fun b => w.heap.size ≤ b ∧ ¬ u5.ownBlock = some b) z [.int .i64 op, .slice a0 n0 c0, .string nm, .string pr, .int .i64 vk, .bool vb, .int .i64 vm, .string vt, .slice a1 n1 c1, .string sn] :=
            layItem.same ((Same.refl _ _).alloc (Nat.le_refl _) _) (layItem.mono (fun b hb _ => ⟨by unfold From at hb; omega, fun e => by have := hlt3 b e; unfold From at hb; omega⟩) hz)
          have hbase := fun b hb => (hown.lt b hb).1
          replace hgrow5 : (w4.alloc (.cells #[.int .i64 op, .slice a0 n0 c0, .string nm, .string pr, .int .i64 vk, .bool vb, .int .i64 vm, .string vt, .slice a1 n1 c1, .string sn] 67)).grownBy w5 u5.ownBlock := hgrow5
          replace hat5 : u5.ownBlock = some g ∨ g = w4.heap.size + 1 := hat5
          have hO6 := Own.more hreps hz5 hown5 (by simp) hgrow5 (by simpa using hat5)
          have hR6 := (h4.alloc _).grown hgrow5 (fun b hb => Nat.lt_of_lt_of_le hr (hbase b hb))
          have hK6 := (hkp4.alloc _).grown hgrow5 hbase
          clear hown hreps hown5 hgrow5 hat5 hlt5 hO4 h4 hkp4 hz hz5 hbase
          go_wp2_with fail
          go_roundg m
          case measure => omega
          case rel => exact ⟨by omega, acc ++ [z], L3, hRes, by simp, by simp; omega, hR6, hK6, hO6⟩

set_option maxRecDepth 100000 in
set_option maxHeartbeats 2000000 in
theorem listed_key (n : Nat) (hn : n ≤ 1000000000) (r : Nat) (L : List Tok) (en d : Int) (w : World) (h : Rd w r L en d) (k : FuncId) (eg : ∀ args w, (callFunc k args).run Tryd.prog w = .ok (.enter k args) w) (fs cs : Array Value) (f : List Tok → Res KeyP)
    (hf : ∀ wx L' res', Rd wx r L' en d → Kp r w wx → f L' = some res' → Calls Tryd.prog k (fs ++ cs) wx (Post r en d wx (LVal layKey wx.heap.size) res'))
    (res : Except (Int × Int) (List KeyP × List Tok)) (hres : listR f n L = some res) :
    Calls Tryd.prog 45 #[.pointer (some ⟨r, 0, none⟩), .func (.func k) fs cs] w (Post r en d w (SVal layKey w.heap.size) res) := by
  have hr := h.lt
  unfold listR at hres
  obtain ⟨r1, hr1⟩ := Res.bind_some hres
  rw [hr1] at hres
  have hF := Lib.hid hf
  have hR1 := Lib.hid hr1
  have hRes := Lib.hid hres
  clear hf hr1 hres
  go_enter Tryd.func45, Tryd.ntmps45
  go_wp2_with fail
  refine (hF.out _ L r1 h (Kp.refl r w) hR1.out).mono ?_
  rintro e w1 hpost
  have hres := hRes.out
  clear hRes hR1
  rcases r1 with ⟨pos', code⟩ | ⟨x, L1⟩
  · obtain ⟨rfl, hk1⟩ := hpost
    simp only [gave]
    go_wp2_with fail
    cases hres
    exact ⟨rfl, rfl, hk1⟩
  · simp only [Res.bind_ok] at hres
    obtain ⟨v, rfl, hv, h1, hk1⟩ := hpost
    obtain ⟨ds, rfl, hx⟩ := hv
    obtain ⟨sn, sb, rfl⟩ := cells_key hx
    have hRes := Lib.hid hres
    clear hres
    go_wp2_with fail
    have hs1 := hk1.size
    generalize hW : w1.alloc (.cells #[.string sn, .bool sb] 86) = W
    have hO0 : Own layKey W w.heap.size 86 (.slice (some ⟨w1.heap.size, 0, none⟩) 1 1) [x] := Own.first (cs := [.string sn, .bool sb]) hW rfl hx hs1
    have h0 := Rd.of_alloc hW h1
    have hk0 := Kp.of_alloc hW hk1
    obtain ⟨i0, hi, hz0, hz1, hz2⟩ := info_parts info_key
    clear hW h1 hk1 hx
    go_loopg [5] n (fun m v wr => m ≤ n ∧ ∃ acc L2, Hid (commasR f m acc L2 = some res) ∧ acc ≠ [] ∧ acc.length + m ≤ n + 1 ∧ Rd wr r L2 en d ∧ Kp r w wr ∧ Own layKey wr w.heap.size 86 v acc)
    case atStart => exact ⟨Nat.le_refl _, [x], L1, hRes, by simp, by simp; omega, h0, hk0, hO0⟩
    case round =>
      obtain ⟨hm, acc, L2, hpr, hne, hlen, hrd, hkp, hO⟩ := hrel
      clear hRes h0 hk0 hO0 hs1 h
      go_wp2_with fail
      refine (has_calls r L2 sComma en d _ hrd).mono ?_
      rintro e w3 ⟨rfl, h3, hk3⟩
      have hpr' := hpr.out
      clear hpr
      have hO3 := hO.kp hk3 hr
      have hkp3 := hkp.trans hk3
      clear hO hkp hk3 hrd
      cases gk with
      | zero => cases hpr'
      | succ m =>
      cases hh : hasB L2 sComma with
      | false =>
        rw [hh] at h3
        simp only [commasR, hh, Bool.false_eq_true, if_false] at hpr'
        have hRes := Lib.hid hpr'
        clear hpr' hF hh
        go_wp2_with fail
        have hres := hRes.out
        cases hres
        exact bodyPost_ret (v := u5) (by simp [results, Tryd.results45, go_sem]) rfl ⟨_, rfl, hO3.toS hne, h3, hkp3⟩
      | true =>
        rw [hh] at h3
        simp only [commasR, hh, if_true] at hpr'
        have h3' : Rd w3 r L2.tail en d := h3
        clear h3 hh
        obtain ⟨r2, hr2⟩ := Res.bind_some hpr'
        rw [hr2] at hpr'
        have hRes := Lib.hid hpr'
        have hR2 := Lib.hid hr2
        clear hpr' hr2
        go_wp2_with fail
        refine (hF.out _ L2.tail r2 h3' hkp3 hR2.out).mono ?_
        rintro e w4 hpost
        have hres := hRes.out
        clear hRes hR2 hF
        rcases r2 with ⟨pos', code⟩ | ⟨z, L3⟩
        · obtain ⟨rfl, hk4⟩ := hpost
          simp only [gave]
          go_wp2_with fail
          cases hres
          exact ⟨rfl, rfl, hkp3.trans hk4⟩
        · simp only [Res.bind_ok] at hres
          obtain ⟨v', rfl, hv, h4, hk4⟩ := hpost
          obtain ⟨ds, rfl, hz⟩ := hv
          obtain ⟨sn, sb, rfl⟩ := cells_key hz
          have hRes := Lib.hid hres
          have hO4 := hO3.kp hk4 hr
          have hlt3 : ∀ b, u5.ownBlock = some b → b < w3.heap.size := by
            obtain ⟨xs, ho, _⟩ := hO3
            exact fun b hb => (ho.lt b hb).2
          have hkp4 := hkp3.trans hk4
          have hs4 := hk4.size
          have hs3 := hkp3.size
          clear hres hO3 hkp3 hk4 h3'
          have hO5 := hO4.alloc (.cells #[.string sn, .bool sb] 86)
          obtain ⟨xs, hown, hreps⟩ := hO5
          go_wp2_with (first
            | (at_builtin; refine wpList_append_lies _ rfl _ _ 34 rfl w.heap.size 86 i0 _ 2 24 Tryd.underlying34 hi hz0 hz1 hz2 rfl (by decide) _ acc.length xs rfl hown ⟨w4.heap.size, 0, none⟩ 1 1 [.string sn, .bool sb] rfl rfl (World.news_of_block (heap_alloc_new w4 _)) (by simp [Value.oneCell']) (by decide) (by unfold maxLen; omega) (by omega) (by simp; omega) (w4.heap.size + 1) (by simp) ?_
               intro g cap w5 hown5 hgrow5 hat5 hlt5)
            | fail)
          have hz5 : layKey.R (w4.alloc (.cells #[.string sn, .bool sb] 86)) (fun b => w.heap.size ≤ b ∧ ¬ u5.ownBlock = some b) z [.string sn, .bool sb] :=
            layKey.same ((Same.refl _ _).alloc (Nat.le_refl _) _) (layKey.mono (fun b hb _ => ⟨by unfold From at hb; omega, fun e => by have := hlt3 b e; unfold From at hb; omega⟩) hz)
          have hbase := fun b hb => (hown.lt b hb).1
          replace hgrow5 : (w4.alloc (.cells #[.string sn, .bool sb] 86)).grownBy w5 u5.ownBlock := hgrow5
          replace hat5 : u5.ownBlock = some g ∨ g = w4.heap.size + 1 := hat5
          have hO6 := Own.more hreps hz5 hown5 (by simp) hgrow5 (by simpa using hat5)
          have hR6 := (h4.alloc _).grown hgrow5 (fun b hb => Nat.lt_of_lt_of_le hr (hbase b hb))
          have hK6 := (hkp4.alloc _).grown hgrow5 hbase
          clear hown hreps hown5 hgrow5 hat5 hlt5 hO4 h4 hkp4 hz hz5 hbase
          go_wp2_with fail
          go_roundg m
          case measure => omega
          case rel => exact ⟨by omega, acc ++ [z], L3, hRes, by simp, by simp; omega, hR6, hK6, hO6⟩

end Go.Proofs.YtaonmhegnnpgaaaDoor
