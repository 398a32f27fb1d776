/- Package lex's quoted by its plain function. No condition. -/
import Derived.Test.YtaonmhegnnpgaaaDoorLexF
import Derived.WalkMore
import Derived.ScopeJumps
namespace Go.Proofs.YtaonmhegnnpgaaaDoor
open Go Go.RowKit

/-- One rune of a text between quotes. -/
def qStep (f : Bool → List UInt8 → Option (List UInt8 × Nat)) (pre : Bool) (c : Nat) (behind : Bool) (acc : List UInt8) (i : Nat) : Option (List UInt8 × Nat) :=
  if c = 0xFFFD ∧ pre = false then none
  else if behind = true ∧ c = 110 then f false (acc ++ [10])
  else if behind = true ∧ c ≠ 39 ∧ c ≠ 92 then none
  else if behind = false ∧ c = 39 then some (acc, i + 1)
  else if behind = false ∧ c = 92 then f true acc
  else f false (acc ++ Lib.encodeRune c)
section
variable (f : Bool → List UInt8 → Option (List UInt8 × Nat)) (pre behind : Bool) (c : Nat) (acc : List UInt8) (i : Nat)
theorem q_bad : qStep f false 65533 behind acc i = none := by simp [qStep]
theorem q_odd (h1 : c ≠ 110) (h2 : c ≠ 39) (h3 : c ≠ 92) : qStep f pre c true acc i = none := by
  simp only [qStep]
  split
  · rfl
  · simp [h1, h2, h3]
theorem q_line : qStep f pre 110 true acc i = f false (acc ++ [10]) := by simp [qStep]
theorem q_quote : qStep f pre 39 true acc i = f false (acc ++ Lib.encodeRune 39) := by simp [qStep]
theorem q_slash : qStep f pre 92 true acc i = f false (acc ++ Lib.encodeRune 92) := by simp [qStep]
theorem q_end : qStep f pre 39 false acc i = some (acc, i + 1) := by simp [qStep]
theorem q_esc : qStep f pre 92 false acc i = f true acc := by simp [qStep]
theorem q_err : qStep f true 65533 false acc i = f false (acc ++ Lib.encodeRune 65533) := by simp [qStep]
theorem q_rune (h1 : c ≠ 65533) (h2 : c ≠ 39) (h3 : c ≠ 92) : qStep f pre c false acc i = f false (acc ++ Lib.encodeRune c) := by simp [qStep, h1, h2, h3]
end
theorem quote_step (n : Nat) (behind : Bool) (acc : List UInt8) (i : Nat) (l : List UInt8) (c k : Nat) (hl : l ≠ []) (hd : dec l = (c, k)) :
    quoteF (n + 1) behind acc i l = qStep (fun b a => quoteF n b a (i + k) (l.drop k)) ([239, 191, 189].isPrefixOf l) c behind acc i := by
  cases l with
  | nil => exact absurd rfl hl
  | cons x l => rw [quoteF, hd]; rfl

def QuoteEnd (r : Option (List UInt8 × Nat)) (w : World) (e : Ending) (w' : World) : Prop :=
  e = .returned (match r with | none => .tuple #[.string ⟨#[]⟩, .int .i64 0] | some (t, n) => .tuple #[.string ⟨t.toArray⟩, .int .i64 n]) ∧ Below w.heap.size w w'
theorem QuoteEnd.no {r : Option (List UInt8 × Nat)} {w w' : World} (h : r = none) (hb : Below w.heap.size w w') : QuoteEnd r w (.returned (.tuple #[.string ⟨#[]⟩, .int .i64 0])) w' := by subst h; exact ⟨rfl, hb⟩
theorem QuoteEnd.yes {r : Option (List UInt8 × Nat)} {w w' : World} {t : List UInt8} {n : Nat} (h : r = some (t, n)) (hb : Below w.heap.size w w') : QuoteEnd r w (.returned (.tuple #[.string ⟨t.toArray⟩, .int .i64 n])) w' := by subst h; exact ⟨rfl, hb⟩

/-- Where the loop of quoted stands: how the builder, the iterator and the plain function stand. -/
structure Quo (s : ByteArray) (w : World) (behind : Bool) (wr : World) (pos : Nat) (acc : List UInt8) : Prop where
  le : pos ≤ s.size
  it : wr.heap[w.heap.size + 1]? = some (.stringIter s pos)
  bld : Bld w wr w.heap.size acc
  len : acc.length ≤ 4 * pos
  eq : (pos = 0 ∧ behind = false ∧ acc = []) ∨ (0 < pos ∧ ∃ n, s.size - pos < n ∧ quoteL s.data.toList = quoteF n behind acc pos (s.data.toList.drop pos))

theorem enc_le (r : Int) : (Lib.encodeRune r).length ≤ 4 := by
  have h := (Lib.runeCells_le r).2
  rw [← Lib.byteCells_encodeRune, Lib.byteCells_length] at h
  exact h
theorem len_enc (l : List UInt8) (r : Int) : (l ++ Lib.encodeRune r).length ≤ l.length + 4 := by
  have := enc_le r
  rw [List.length_append]
  omega
/-- A round further. -/
theorem Quo.next {s : ByteArray} {w W W' : World} {b' : Bool} {pos k m : Nat} {acc acc' : List UInt8} (h1 : 1 ≤ k) (h2 : pos + k ≤ s.size) (hit : W.heap[w.heap.size + 1]? = some (.stringIter s (pos + k)))
    (hbld : Bld w W' w.heap.size acc') (hkp : Lib.OthersKept 5 (some w.heap.size) W W') (hlen : acc.length ≤ 4 * pos) (hlen' : acc'.length ≤ acc.length + 4) (hm : s.size - pos < m + 1)
    (hq : quoteL s.data.toList = quoteF m b' acc' (pos + k) (s.data.toList.drop (pos + k))) : Quo s w b' W' (pos + k) acc' :=
  ⟨h2, hkp.iter hit (by omega), hbld, by omega, .inr ⟨by omega, m, by omega, hq⟩⟩
theorem iterPos_at {W : World} {k p : Nat} {s : ByteArray} (h : W.heap[k]? = some (.stringIter s p)) : W.iterPos k = p := by simp [World.iterPos, h]

def Stays (a' : Act) : Prop := ∃ T : Array Value, a' = { tmps := T, defers := [] } ∧ 3 < T.size

set_option maxRecDepth 100000 in
set_option maxHeartbeats 1000000 in
theorem quoted_calls (s : ByteArray) (w : World) (h0 : 0 < s.size) (h39 : s[0].toNat = 39) (hs : s.size ≤ 4096) :
    Calls Tryd.prog 21 #[.string s] w (QuoteEnd (quoteL s.data.toList) w) := by
  go_enter Tryd.func21, Tryd.ntmps21
  go_wp2_with fail
  refine wp_scope_jumps 0 (fun a' w' => Stays a' ∧ quoteL s.data.toList = none ∧ Below w.heap.size w w') (fun _ _ => 0) rfl ?_ ?_
  · go_wp2_with fail
    go_loopw [5] (fun v wr => ∃ behind pos acc, v = .bool behind ∧ Quo s w behind wr pos acc) (fun _ wr => s.size - wr.iterPos (w.heap.size + 1))
    case atStart =>
      refine ⟨false, 0, [], rfl, ⟨Nat.zero_le _, ?_, ⟨(Lib.IsBuilderF.of (Lib.fresh_isBuilder 92 5 w)).alloc _, ((Below.refl _ w).alloc (Nat.le_refl _) _).alloc (by simp) _⟩, by simp, .inl ⟨rfl, rfl, rfl⟩⟩⟩
      have := World.iter_heap (w.alloc (.cells #[.pointer none, .slice none 0 0] 92)) s 0
      simpa using this
    case round =>
      obtain ⟨behind, pos, acc, rfl, hle, hit, hbld, hlen, heq⟩ := hrel
      by_cases hp : pos < s.size
      · have hnx := fun ty => Lib.run_next_any_at (P := Tryd.prog) wr (w.heap.size + 1) s pos ty hit hp
        have hc := decode_le s pos
        obtain ⟨h1, h2, h3⟩ := step_run nameB s pos hp
        clear h3
        have hstep := fun n => quote_step n behind acc pos (s.data.toList.drop pos) (Utf8.decode s pos).1 (Utf8.decode s pos).2 (by rw [byte_at s pos hp]; simp) (by rw [← decode_dec s pos (by omega)])
        simp only [List.drop_drop] at hstep
        have HS := Lib.hid hstep
        clear hstep
        have hit2 := fun p => Lib.iterAt_heap wr (w.heap.size + 1) s pos p hit
        have hbld2 : ∀ p, Bld w (wr.iterAt (w.heap.size + 1) s p) w.heap.size acc := fun p => ⟨hbld.is.iterAt hit p, Lib.below_iterAt hbld.below (by omega) s p⟩
        have hoth : ∀ p k, k ≠ w.heap.size + 1 → (wr.iterAt (w.heap.size + 1) s p).heap[k]? = wr.heap[k]? := fun p k hk => Lib.iterAt_other wr _ _ s p hk
        rcases heq with ⟨rfl, rfl, rfl⟩ | ⟨hpos, n, hn, hq⟩
        · have hd : Utf8.decode s 0 = (39, 1) := by rw [decode_ascii s 0 h0 (by omega), h39]
          rw [hd] at hnx
          have hit3 := hit2 1
          have hbld3 := hbld2 1
          simp only [Nat.zero_add] at hnx
          generalize wr.iterAt (w.heap.size + 1) s 1 = W at *
          clear hd hoth hit2 hbld2 HS
          go_wp2_with fail
          go_roundw
          case rel => exact ⟨false, 1, [], rfl, ⟨by omega, hit3, hbld3, by simp, .inr ⟨by omega, s.data.toList.length, by rw [size_list]; omega, by rw [List.drop_one]; rfl⟩⟩⟩
          case measure => rw [iterPos_at hit3, iterPos_at hit]; omega
        · obtain ⟨m, rfl⟩ : ∃ m, n = m + 1 := ⟨n - 1, by omega⟩
          rw [HS.out m] at hq
          have HQ := Lib.hid hq
          clear hq HS
          generalize (Utf8.decode s pos).1 = c at *
          generalize (Utf8.decode s pos).2 = k at *
          have hit3 := hit2 (pos + k)
          have hbld3 := hbld2 (pos + k)
          generalize wr.iterAt (w.heap.size + 1) s (pos + k) = W at *
          clear hoth hit2 hbld2
          have hacc : acc.length ≤ 1000000000 := by omega
          have hsz : ∀ p, (s.extract p s.size).data.toList = s.data.toList.drop p := fun p => by rw [extract_drop]
          have HZ := Lib.hid hsz
          clear hsz
          go_wp2_with fail
          · refine (Tryd.strings_HasPrefix _ _ _).mono ?_
            rintro e w1 ⟨rfl, rfl⟩
            rw [HZ.out]
            rw [show Lib.hasPrefix (s.data.toList.drop pos) (ByteArray.mk #[239, 191, 189]).data.toList = [239, 191, 189].isPrefixOf (s.data.toList.drop pos) from rfl]
            have e1 : c = 65533 := by have : (c : Int) = 65533 := by assumption
                                      omega
            subst e1
            generalize hpre : [239, 191, 189].isPrefixOf (s.data.toList.drop pos) = pre at *
            cases pre with
            | false =>
              go_wp2_with fail
              go_step3
              refine (⟨rfl, ⟨_, rfl, ?_⟩, HQ.out.trans (q_bad _ _ _ _), hbld3.below⟩ : 0 = 0 ∧ Stays _ ∧ quoteL s.data.toList = none ∧ Below w.heap.size w _)
              exact (show 3 < 63 by decide)
            | true =>
              cases behind with
              | true =>
                go_wp2_with fail
                go_step3
                refine (⟨rfl, ⟨_, rfl, ?_⟩, HQ.out.trans (q_odd _ _ _ _ _ (by decide) (by decide) (by decide)), hbld3.below⟩ : 0 = 0 ∧ Stays _ ∧ quoteL s.data.toList = none ∧ Below w.heap.size w _)
                exact (show 3 < 63 by decide)
              | false =>
                go_wp2_with fail
                refine (rune_calls w _ _ acc 65533 (by omega) hbld3 hacc).mono ?_
                rintro e w2 ⟨rfl, hb2, hk2⟩
                go_wp2_with fail
                go_roundw
                case rel => exact ⟨false, pos + k, _, rfl, .next h1 h2 hit3 hb2 hk2 hlen (len_enc _ _) hn (HQ.out.trans (q_err _ _ _))⟩
                case measure => rw [iterPos_at (hk2.iter hit3 (by omega)), iterPos_at hit]; omega
          · refine (byte_calls w _ _ acc 10 hbld3 hacc).mono ?_
            rintro e w2 ⟨rfl, hb2, hk2⟩
            have e0 : behind = true := by assumption
            subst e0
            have e1 : c = 110 := by
              have h : ((c : Int) == 110) = true := by assumption
              rw [beq_iff_eq] at h
              omega
            subst e1
            go_wp2_with fail
            go_roundw
            case rel => exact ⟨false, pos + k, _, rfl, .next h1 h2 hit3 hb2 hk2 hlen (by rw [List.length_append]; simp) hn (HQ.out.trans (q_line _ _ _ _))⟩
            case measure => rw [iterPos_at (hk2.iter hit3 (by omega)), iterPos_at hit]; omega
          · have e0 : behind = true := by assumption
            subst e0
            have e1 : c = 39 := by
              have h : (c : Int) = 39 := by assumption
              omega
            subst e1
            refine (rune_calls w _ _ acc 39 (by omega) hbld3 hacc).mono ?_
            rintro e w2 ⟨rfl, hb2, hk2⟩
            go_wp2_with fail
            go_roundw
            case rel => exact ⟨false, pos + k, _, rfl, .next h1 h2 hit3 hb2 hk2 hlen (len_enc _ _) hn (HQ.out.trans (q_quote _ _ _ _))⟩
            case measure => rw [iterPos_at (hk2.iter hit3 (by omega)), iterPos_at hit]; omega
          · have e0 : behind = true := by assumption
            subst e0
            have n110 : c ≠ 110 := by
              have h : ((c : Int) == 110) = false := by assumption
              rw [beq_eq_false_iff_ne] at h
              omega
            have n39 : c ≠ 39 := by
              have h : ¬ (c : Int) = 39 := by assumption
              omega
            have n92 : c ≠ 92 := by
              have h : ((c : Int) != 39) = true ∧ ((c : Int) != 92) = true := by assumption
              have h2 := h.2
              rw [bne_iff_ne] at h2
              omega
            go_step3
            refine (⟨rfl, ⟨_, rfl, ?_⟩, HQ.out.trans (q_odd _ _ _ _ _ n110 n39 n92), hbld3.below⟩ : 0 = 0 ∧ Stays _ ∧ quoteL s.data.toList = none ∧ Below w.heap.size w _)
            exact (show 3 < 63 by decide)
          · have e0 : behind = true := by assumption
            subst e0
            have e1 : c = 92 := by
              have h : ((c : Int) != 39) = false ∨ ((c : Int) != 92) = false := by assumption
              rw [bne_eq_false_iff_eq, bne_eq_false_iff_eq] at h
              omega
            subst e1
            refine (rune_calls w _ _ acc 92 (by omega) hbld3 hacc).mono ?_
            rintro e w2 ⟨rfl, hb2, hk2⟩
            go_wp2_with fail
            go_roundw
            case rel => exact ⟨false, pos + k, _, rfl, .next h1 h2 hit3 hb2 hk2 hlen (len_enc _ _) hn (HQ.out.trans (q_slash _ _ _ _))⟩
            case measure => rw [iterPos_at (hk2.iter hit3 (by omega)), iterPos_at hit]; omega
          · have e0 : behind = false := by simpa using (show ¬ behind = true by assumption)
            subst e0
            have e1 : c = 39 := by
              have h : ((c : Int) == 39) = true := by assumption
              rw [beq_iff_eq] at h
              omega
            subst e1
            have hsz2 := hbld3.below.size
            refine (Tryd.Builder_String_any_k w.heap.size w.heap.size acc _ hbld3.is hsz2).mono ?_
            rintro e w2 ⟨rfl, _, hb2, _⟩
            go_wp2_with fail
            simp only [Exit.jump]
            exact bodyPost_ret (v := .tuple #[.string ⟨acc.toArray⟩, .int .i64 ((pos : Int) + 1)]) (by simp [results, Tryd.results21, go_sem]) rfl (.yes (n := pos + 1) (HQ.out.trans (q_end _ _ _ _)) (hbld3.below.trans hb2))
          · have e0 : behind = false := by simpa using (show ¬ behind = true by assumption)
            subst e0
            have e1 : c = 92 := by
              have h : ((c : Int) == 92) = true := by assumption
              rw [beq_iff_eq] at h
              omega
            subst e1
            go_roundw
            case rel => exact ⟨true, pos + k, acc, rfl, ⟨h2, hit3, hbld3, by omega, .inr ⟨by omega, m, by omega, HQ.out.trans (q_esc _ _ _ _)⟩⟩⟩
            case measure => rw [iterPos_at hit3, iterPos_at hit]; omega
          · have e0 : behind = false := by simpa using (show ¬ behind = true by assumption)
            subst e0
            have n39 : c ≠ 39 := by
              have h : ((c : Int) == 39) = false := by assumption
              rw [beq_eq_false_iff_ne] at h
              omega
            have n92 : c ≠ 92 := by
              have h : ((c : Int) == 92) = false := by assumption
              rw [beq_eq_false_iff_ne] at h
              omega
            have n65533 : c ≠ 65533 := by
              have h : ¬ (c : Int) = 65533 := by assumption
              omega
            refine (rune_calls w _ _ acc c (by omega) hbld3 hacc).mono ?_
            rintro e w2 ⟨rfl, hb2, hk2⟩
            go_wp2_with fail
            go_roundw
            case rel => exact ⟨false, pos + k, _, rfl, .next h1 h2 hit3 hb2 hk2 hlen (len_enc _ _) hn (HQ.out.trans (q_rune _ _ _ _ _ n65533 n39 n92))⟩
            case measure => rw [iterPos_at (hk2.iter hit3 (by omega)), iterPos_at hit]; omega
      · have hnx := fun ty => Lib.run_next_end_at (P := Tryd.prog) wr (w.heap.size + 1) s pos ty hit hp
        have hq : quoteL s.data.toList = none := by
          rcases heq with ⟨h, _⟩ | ⟨_, n, _, h⟩
          · omega
          · rw [h, List.drop_of_length_le (by rw [size_list]; omega)]
            cases n <;> rfl
        have HQ := Lib.hid hq
        clear hq heq
        go_wp2_with fail
        go_step3
        go_wp2_with fail
        simp only [Exit.jump]
        exact bodyPost_ret (v := .tuple #[.string ⟨#[]⟩, .int .i64 0]) (by simp [results, Tryd.results21, go_sem]) rfl (.no HQ.out hbld.below)
  · rintro a' w' ⟨⟨T, rfl, hT⟩, hq, hb⟩
    go_wp2_with fail
    simp only [Exit.jump]
    exact bodyPost_ret (v := .tuple #[.string ⟨#[]⟩, .int .i64 0]) (by simp [results, Tryd.results21, go_sem, hT]; omega) rfl (.no hq hb)
end Go.Proofs.YtaonmhegnnpgaaaDoor
