/- The contracts of the grammar's levels, by induction on the fuel: the rows. No condition. -/
import Derived.Test.YtaonmhegnnpgaaaDoorRdH
namespace Go.Proofs.YtaonmhegnnpgaaaDoor
open Go Go.RowKit

/-- The function that reads a thing. -/
def fid : Nt → FuncId
  | .expr => 26
  | .both => 51
  | .deny => 63
  | .test => 68
  | .sum => 70
  | .prod => 71
  | .minus => 72
  | .plain => 73
  | .within => 76
  | .call => 75
  | .rest _ _ => 0
def Nt.isRest : Nt → Bool
  | .rest _ _ => true
  | _ => false

/-- All is read as it should be, at every fuel up to n. -/
def NtAt (n : Nat) : Prop := ∀ nt m, nt.isRest = false → m ≤ n → ∀ r L en d w res, Rd w r L en d → 0 ≤ d → d ≤ 50 → parse en m nt d L = some res →
  Calls Tryd.prog (fid nt) #[.pointer (some ⟨r, 0, none⟩)] w (Post r en d w (EVal w.heap.size) res)

theorem row_calls' (K : RowK) (n : Nat) (len : Nat) (hlen : K.signs.length = len) (r : Nat) (L : List Tok) (en d : Int) (w : World) (h : Rd w r L en d) (k : FuncId) (eg : ∀ args w, (callFunc k args).run Tryd.prog w = .ok (.enter k args) w) (fs cs : Array Value)
    (hp : PartAt n K.part r k fs cs en d w) (a : Option Addr) (c : Nat) (hl : CellsAt w (fun b => ¬ b = r) a (K.signs.flatMap signCells))
    (res : Except (Int × Int) (Ex × List Tok)) (hres : ((parse en n K.part d L).bind fun x L => parse en n (.rest K x) d L) = some res) :
    Calls Tryd.prog 50 #[.pointer (some ⟨r, 0, none⟩), .func (.func k) fs cs, .slice a len c] w (Post r en d w (EVal w.heap.size) res) := by
  subst hlen
  exact row_calls K n r L en d w h k eg fs cs hp a c hl res hres

/-- The end of a method that hands back what it has just laid into its result's block q. -/
theorem Post.end9 {r q lo : Nat} {en d : Int} {w w2 : World} {x : Ex} {L : List Tok} {v0 v1 v2 v3 v4 v5 v6 v7 v8 : Value} (h2 : Rd w2 r L en d) (hk : Kp r w w2)
    (hx : RepE w2 (From lo) x [v0, v1, v2, v3, v4, v5, v6, v7, v8]) (hrq : r < q) (hwq : w.heap.size ≤ q) (hq : q < lo) :
    Post r en d w (EVal w.heap.size) (.ok (x, L)) (.returned (.agg #[v0, v1, v2, v3, v4, v5, v6, v7, v8]))
      (((((((((w2.setCell ⟨q, 0, none⟩ v0).setCell ⟨q, 1, none⟩ v1).setCell ⟨q, 2, none⟩ v2).setCell ⟨q, 3, none⟩ v3).setCell ⟨q, 4, none⟩ v4).setCell ⟨q, 5, none⟩ v5).setCell ⟨q, 6, none⟩ v6).setCell ⟨q, 7, none⟩ v7).setCell ⟨q, 8, none⟩ v8) :=
  ⟨_, rfl, EVal.mk_ (RepE.mono (fun b hb _ => by unfold From at *; omega) (RepE.same (((((((((Same.refl _ _).low hq).low hq).low hq).low hq).low hq).low hq).low hq).low hq |>.low hq) hx)),
    ((((((((h2.far_ hrq).far_ hrq).far_ hrq).far_ hrq).far_ hrq).far_ hrq).far_ hrq).far_ hrq).far_ hrq,
    ((((((((hk.new_ hwq).new_ hwq).new_ hwq).new_ hwq).new_ hwq).new_ hwq).new_ hwq).new_ hwq).new_ hwq⟩
theorem Kp.q9 {r : Nat} {w W w2 : World} {t : TypeId} {v0 v1 v2 v3 v4 v5 v6 v7 v8 : Value} (hk : Kp r W w2) (hW : Blk W w.heap.size t [v0, v1, v2, v3, v4, v5, v6, v7, v8]) (hr : r < w.heap.size) :
    Blk w2 w.heap.size t [v0, v1, v2, v3, v4, v5, v6, v7, v8] := hW.kp hk (by omega)

set_option maxHeartbeats 400000 in
theorem expr_calls (n : Nat) (ih : NtAt n) (r : Nat) (L : List Tok) (en d : Int) (w : World) (res : Except (Int × Int) (Ex × List Tok)) (h : Rd w r L en d) (hd0 : 0 ≤ d) (hd1 : d ≤ 50) (hres : parse en (n + 1) .expr d L = some res) :
    Calls Tryd.prog 26 #[.pointer (some ⟨r, 0, none⟩)] w (Post r en d w (EVal w.heap.size) res) := by
  have hRes := Lib.hid hres
  have hI := Lib.hid ih
  clear hres ih
  have hr := h.lt
  go_enter Tryd.func26, Tryd.ntmps26
  go_wp2_with fail
  have hQ0 := (Blk.new w 57 [.int .i64 0, .slice none 0 0, .string ⟨#[]⟩, .string ⟨#[]⟩, .int .i64 0, .bool false, .int .i64 0, .string ⟨#[]⟩, .slice none 0 0]).alloc_ (o := .cells #[.string ⟨#[79, 82]⟩, .int .i64 4] 116)
  have hk0 := ((Kp.refl r w).alloc (.cells #[.int .i64 0, .slice none 0 0, .string ⟨#[]⟩, .string ⟨#[]⟩, .int .i64 0, .bool false, .int .i64 0, .string ⟨#[]⟩, .slice none 0 0] 57)).alloc (.cells #[.string ⟨#[79, 82]⟩, .int .i64 4] 116)
  have hRd := (h.alloc (.cells #[.int .i64 0, .slice none 0 0, .string ⟨#[]⟩, .string ⟨#[]⟩, .int .i64 0, .bool false, .int .i64 0, .string ⟨#[]⟩, .slice none 0 0] 57)).alloc (.cells #[.string ⟨#[79, 82]⟩, .int .i64 4] 116)
  have hCl := CellsAt.new (S := fun b => ¬ b = r) (w.alloc (.cells #[.int .i64 0, .slice none 0 0, .string ⟨#[]⟩, .string ⟨#[]⟩, .int .i64 0, .bool false, .int .i64 0, .string ⟨#[]⟩, .slice none 0 0] 57)) 116 [.string ⟨#[79, 82]⟩, .int .i64 4] (by simp; omega)
  simp only [World.size_alloc] at hCl
  refine (row_calls' .or n 1 rfl r L en d _ hRd 51 (enters_of Tryd.func51 (by kernel_rfl) rfl) #[.pointer (some ⟨r, 0, none⟩)] #[] ?hp _ _ hCl res hRes.out).mono ?_
  case hp =>
    intro m hm wx L' res' hrd _ hpr
    exact hI.out .both m rfl hm r L' en d wx res' hrd hd0 hd1 hpr
  rintro e w2 hpost
  rcases res with ⟨pos', code⟩ | ⟨x, L'⟩
  · obtain ⟨rfl, hk2⟩ := hpost
    simp only [gave]
    go_wp2_with fail
    exact ⟨rfl, rfl, hk0.trans hk2⟩
  · obtain ⟨v, rfl, hv, h2, hk2⟩ := hpost
    obtain ⟨op, ka, kn, kc, nm, pr, vk, vb, vm, vt, pa, pn, pc, rfl, hx⟩ := hv.nine
    simp only [World.size_alloc] at hx
    have hQ2 := hk2.q9 hQ0 hr
    have hk := hk0.trans hk2
    obtain ⟨q0, q1, q2, q3, q4, q5, q6, q7, q8⟩ := hQ2.c9
    have fQ := hQ2.frozen
    clear hQ0 hk0 hRd hCl hk2 hQ2 hI hRes hv
    go_wp2_with fail
    exact bodyPost_ret (v := .agg #[.int .i64 op, .slice ka kn kc, .string nm, .string pr, .int .i64 vk, .bool vb, .int .i64 vm, .string vt, .slice pa pn pc]) (by simp [results, Tryd.results26, go_sem, *]) rfl (Post.end9 h2 hk hx hr (Nat.le_refl _) (by omega))

set_option maxHeartbeats 400000 in
theorem both_calls (n : Nat) (ih : NtAt n) (r : Nat) (L : List Tok) (en d : Int) (w : World) (res : Except (Int × Int) (Ex × List Tok)) (h : Rd w r L en d) (hd0 : 0 ≤ d) (hd1 : d ≤ 50) (hres : parse en (n + 1) .both d L = some res) :
    Calls Tryd.prog 51 #[.pointer (some ⟨r, 0, none⟩)] w (Post r en d w (EVal w.heap.size) res) := by
  have hRes := Lib.hid hres
  have hI := Lib.hid ih
  clear hres ih
  have hr := h.lt
  go_enter Tryd.func51, Tryd.ntmps51
  go_wp2_with fail
  have hQ0 := (Blk.new w 57 [.int .i64 0, .slice none 0 0, .string ⟨#[]⟩, .string ⟨#[]⟩, .int .i64 0, .bool false, .int .i64 0, .string ⟨#[]⟩, .slice none 0 0]).alloc_ (o := .cells #[.string ⟨#[65, 78, 68]⟩, .int .i64 5] 116)
  have hk0 := ((Kp.refl r w).alloc (.cells #[.int .i64 0, .slice none 0 0, .string ⟨#[]⟩, .string ⟨#[]⟩, .int .i64 0, .bool false, .int .i64 0, .string ⟨#[]⟩, .slice none 0 0] 57)).alloc (.cells #[.string ⟨#[65, 78, 68]⟩, .int .i64 5] 116)
  have hRd := (h.alloc (.cells #[.int .i64 0, .slice none 0 0, .string ⟨#[]⟩, .string ⟨#[]⟩, .int .i64 0, .bool false, .int .i64 0, .string ⟨#[]⟩, .slice none 0 0] 57)).alloc (.cells #[.string ⟨#[65, 78, 68]⟩, .int .i64 5] 116)
  have hCl := CellsAt.new (S := fun b => ¬ b = r) (w.alloc (.cells #[.int .i64 0, .slice none 0 0, .string ⟨#[]⟩, .string ⟨#[]⟩, .int .i64 0, .bool false, .int .i64 0, .string ⟨#[]⟩, .slice none 0 0] 57)) 116 [.string ⟨#[65, 78, 68]⟩, .int .i64 5] (by simp; omega)
  simp only [World.size_alloc] at hCl
  refine (row_calls' .and n 1 rfl r L en d _ hRd 63 (enters_of Tryd.func63 (by kernel_rfl) rfl) #[.pointer (some ⟨r, 0, none⟩)] #[] ?hp _ _ hCl res hRes.out).mono ?_
  case hp =>
    intro m hm wx L' res' hrd _ hpr
    exact hI.out .deny m rfl hm r L' en d wx res' hrd hd0 hd1 hpr
  rintro e w2 hpost
  rcases res with ⟨pos', code⟩ | ⟨x, L'⟩
  · obtain ⟨rfl, hk2⟩ := hpost
    simp only [gave]
    go_wp2_with fail
    exact ⟨rfl, rfl, hk0.trans hk2⟩
  · obtain ⟨v, rfl, hv, h2, hk2⟩ := hpost
    obtain ⟨op, ka, kn, kc, nm, pr, vk, vb, vm, vt, pa, pn, pc, rfl, hx⟩ := hv.nine
    simp only [World.size_alloc] at hx
    have hQ2 := hk2.q9 hQ0 hr
    have hk := hk0.trans hk2
    obtain ⟨q0, q1, q2, q3, q4, q5, q6, q7, q8⟩ := hQ2.c9
    have fQ := hQ2.frozen
    clear hQ0 hk0 hRd hCl hk2 hQ2 hI hRes hv
    go_wp2_with fail
    exact bodyPost_ret (v := .agg #[.int .i64 op, .slice ka kn kc, .string nm, .string pr, .int .i64 vk, .bool vb, .int .i64 vm, .string vt, .slice pa pn pc]) (by simp [results, Tryd.results51, go_sem, *]) rfl (Post.end9 h2 hk hx hr (Nat.le_refl _) (by omega))

set_option maxHeartbeats 400000 in
theorem sum_calls (n : Nat) (ih : NtAt n) (r : Nat) (L : List Tok) (en d : Int) (w : World) (res : Except (Int × Int) (Ex × List Tok)) (h : Rd w r L en d) (hd0 : 0 ≤ d) (hd1 : d ≤ 50) (hres : parse en (n + 1) .sum d L = some res) :
    Calls Tryd.prog 70 #[.pointer (some ⟨r, 0, none⟩)] w (Post r en d w (EVal w.heap.size) res) := by
  have hRes := Lib.hid hres
  have hI := Lib.hid ih
  clear hres ih
  have hr := h.lt
  go_enter Tryd.func70, Tryd.ntmps70
  go_wp2_with fail
  have hQ0 := (Blk.new w 57 [.int .i64 0, .slice none 0 0, .string ⟨#[]⟩, .string ⟨#[]⟩, .int .i64 0, .bool false, .int .i64 0, .string ⟨#[]⟩, .slice none 0 0]).alloc_ (o := .cells #[.string ⟨#[43]⟩, .int .i64 12, .string ⟨#[45]⟩, .int .i64 13] 116)
  have hk0 := ((Kp.refl r w).alloc (.cells #[.int .i64 0, .slice none 0 0, .string ⟨#[]⟩, .string ⟨#[]⟩, .int .i64 0, .bool false, .int .i64 0, .string ⟨#[]⟩, .slice none 0 0] 57)).alloc (.cells #[.string ⟨#[43]⟩, .int .i64 12, .string ⟨#[45]⟩, .int .i64 13] 116)
  have hRd := (h.alloc (.cells #[.int .i64 0, .slice none 0 0, .string ⟨#[]⟩, .string ⟨#[]⟩, .int .i64 0, .bool false, .int .i64 0, .string ⟨#[]⟩, .slice none 0 0] 57)).alloc (.cells #[.string ⟨#[43]⟩, .int .i64 12, .string ⟨#[45]⟩, .int .i64 13] 116)
  have hCl := CellsAt.new (S := fun b => ¬ b = r) (w.alloc (.cells #[.int .i64 0, .slice none 0 0, .string ⟨#[]⟩, .string ⟨#[]⟩, .int .i64 0, .bool false, .int .i64 0, .string ⟨#[]⟩, .slice none 0 0] 57)) 116 [.string ⟨#[43]⟩, .int .i64 12, .string ⟨#[45]⟩, .int .i64 13] (by simp; omega)
  simp only [World.size_alloc] at hCl
  refine (row_calls' .sum n 2 rfl r L en d _ hRd 71 (enters_of Tryd.func71 (by kernel_rfl) rfl) #[.pointer (some ⟨r, 0, none⟩)] #[] ?hp _ _ hCl res hRes.out).mono ?_
  case hp =>
    intro m hm wx L' res' hrd _ hpr
    exact hI.out .prod m rfl hm r L' en d wx res' hrd hd0 hd1 hpr
  rintro e w2 hpost
  rcases res with ⟨pos', code⟩ | ⟨x, L'⟩
  · obtain ⟨rfl, hk2⟩ := hpost
    simp only [gave]
    go_wp2_with fail
    exact ⟨rfl, rfl, hk0.trans hk2⟩
  · obtain ⟨v, rfl, hv, h2, hk2⟩ := hpost
    obtain ⟨op, ka, kn, kc, nm, pr, vk, vb, vm, vt, pa, pn, pc, rfl, hx⟩ := hv.nine
    simp only [World.size_alloc] at hx
    have hQ2 := hk2.q9 hQ0 hr
    have hk := hk0.trans hk2
    obtain ⟨q0, q1, q2, q3, q4, q5, q6, q7, q8⟩ := hQ2.c9
    have fQ := hQ2.frozen
    clear hQ0 hk0 hRd hCl hk2 hQ2 hI hRes hv
    go_wp2_with fail
    exact bodyPost_ret (v := .agg #[.int .i64 op, .slice ka kn kc, .string nm, .string pr, .int .i64 vk, .bool vb, .int .i64 vm, .string vt, .slice pa pn pc]) (by simp [results, Tryd.results70, go_sem, *]) rfl (Post.end9 h2 hk hx hr (Nat.le_refl _) (by omega))

set_option maxHeartbeats 400000 in
theorem prod_calls (n : Nat) (ih : NtAt n) (r : Nat) (L : List Tok) (en d : Int) (w : World) (res : Except (Int × Int) (Ex × List Tok)) (h : Rd w r L en d) (hd0 : 0 ≤ d) (hd1 : d ≤ 50) (hres : parse en (n + 1) .prod d L = some res) :
    Calls Tryd.prog 71 #[.pointer (some ⟨r, 0, none⟩)] w (Post r en d w (EVal w.heap.size) res) := by
  have hRes := Lib.hid hres
  have hI := Lib.hid ih
  clear hres ih
  have hr := h.lt
  go_enter Tryd.func71, Tryd.ntmps71
  go_wp2_with fail
  have hQ0 := (Blk.new w 57 [.int .i64 0, .slice none 0 0, .string ⟨#[]⟩, .string ⟨#[]⟩, .int .i64 0, .bool false, .int .i64 0, .string ⟨#[]⟩, .slice none 0 0]).alloc_ (o := .cells #[.string ⟨#[42]⟩, .int .i64 14, .string ⟨#[47]⟩, .int .i64 15, .string ⟨#[37]⟩, .int .i64 16] 116)
  have hk0 := ((Kp.refl r w).alloc (.cells #[.int .i64 0, .slice none 0 0, .string ⟨#[]⟩, .string ⟨#[]⟩, .int .i64 0, .bool false, .int .i64 0, .string ⟨#[]⟩, .slice none 0 0] 57)).alloc (.cells #[.string ⟨#[42]⟩, .int .i64 14, .string ⟨#[47]⟩, .int .i64 15, .string ⟨#[37]⟩, .int .i64 16] 116)
  have hRd := (h.alloc (.cells #[.int .i64 0, .slice none 0 0, .string ⟨#[]⟩, .string ⟨#[]⟩, .int .i64 0, .bool false, .int .i64 0, .string ⟨#[]⟩, .slice none 0 0] 57)).alloc (.cells #[.string ⟨#[42]⟩, .int .i64 14, .string ⟨#[47]⟩, .int .i64 15, .string ⟨#[37]⟩, .int .i64 16] 116)
  have hCl := CellsAt.new (S := fun b => ¬ b = r) (w.alloc (.cells #[.int .i64 0, .slice none 0 0, .string ⟨#[]⟩, .string ⟨#[]⟩, .int .i64 0, .bool false, .int .i64 0, .string ⟨#[]⟩, .slice none 0 0] 57)) 116 [.string ⟨#[42]⟩, .int .i64 14, .string ⟨#[47]⟩, .int .i64 15, .string ⟨#[37]⟩, .int .i64 16] (by simp; omega)
  simp only [World.size_alloc] at hCl
  refine (row_calls' .prod n 3 rfl r L en d _ hRd 72 (enters_of Tryd.func72 (by kernel_rfl) rfl) #[.pointer (some ⟨r, 0, none⟩)] #[] ?hp _ _ hCl res hRes.out).mono ?_
  case hp =>
    intro m hm wx L' res' hrd _ hpr
    exact hI.out .minus m rfl hm r L' en d wx res' hrd hd0 hd1 hpr
  rintro e w2 hpost
  rcases res with ⟨pos', code⟩ | ⟨x, L'⟩
  · obtain ⟨rfl, hk2⟩ := hpost
    simp only [gave]
    go_wp2_with fail
    exact ⟨rfl, rfl, hk0.trans hk2⟩
  · obtain ⟨v, rfl, hv, h2, hk2⟩ := hpost
    obtain ⟨op, ka, kn, kc, nm, pr, vk, vb, vm, vt, pa, pn, pc, rfl, hx⟩ := hv.nine
    simp only [World.size_alloc] at hx
    have hQ2 := hk2.q9 hQ0 hr
    have hk := hk0.trans hk2
    obtain ⟨q0, q1, q2, q3, q4, q5, q6, q7, q8⟩ := hQ2.c9
    have fQ := hQ2.frozen
    clear hQ0 hk0 hRd hCl hk2 hQ2 hI hRes hv
    go_wp2_with fail
    exact bodyPost_ret (v := .agg #[.int .i64 op, .slice ka kn kc, .string nm, .string pr, .int .i64 vk, .bool vb, .int .i64 vm, .string vt, .slice pa pn pc]) (by simp [results, Tryd.results71, go_sem, *]) rfl (Post.end9 h2 hk hx hr (Nat.le_refl _) (by omega))

end Go.Proofs.YtaonmhegnnpgaaaDoor
