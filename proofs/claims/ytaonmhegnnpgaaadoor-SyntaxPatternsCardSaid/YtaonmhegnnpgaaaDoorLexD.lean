/- Package lex's Key by its plain function. Condition: the variable keys is laid. -/
import Derived.Test.YtaonmhegnnpgaaaDoorLexC
import Derived.Test.YtaonmhegnnpgaaaDoorShelf
import Derived.Test.YtaonmhegnnpgaaaDoorBase
import Derived.Laws.IdiomStrings
import Derived.BigQuiet
import Derived.Deep.QuietTactic
namespace Go.Proofs.YtaonmhegnnpgaaaDoor
open Go Go.RowKit

/-- Block b holds these bytes, from its first cell on. -/
def Byts (w : World) (b : Nat) (l : List UInt8) : Prop := b < w.heap.size ∧ ∀ j c, l[j]? = some c → w.cell? ⟨b, j, none⟩ = some (.int .u8 (c.toNat : Int)) ∧ w.frozen? ⟨b, j, none⟩ = false
theorem Byts.drew {w : World} {b : Nat} {l : List UInt8} (h : Byts w b l) : Byts w.drew b l := h
theorem Byts.alloc {w : World} {b : Nat} {l : List UInt8} (h : Byts w b l) (o : Obj) : Byts (w.alloc o) b l :=
  ⟨by have := h.1; simp; omega, fun j c hj => by
    obtain ⟨h1, h2⟩ := h.2 j c hj
    exact ⟨(World.cell?_alloc_lt w o _ h.1).trans h1, (World.frozen?_of_block (w := w) (a := ⟨b, j, none⟩) (Below.heap_alloc w o b h.1)).trans h2⟩⟩
theorem Byts.put {w : World} {b : Nat} {l : List UInt8} (h : Byts w b l) (k : Nat) (c : UInt8) : Byts (w.setCell ⟨b, k, none⟩ (.int .u8 (c.toNat : Int))) b (l.set k c) := by
  refine ⟨by simpa [World.setCell] using h.1, fun j d hj => ?_⟩
  rw [List.getElem?_set] at hj
  obtain ⟨hl, h0⟩ := h
  by_cases hk : k = j
  · subst hk
    simp only [if_true] at hj
    split at hj
    · rename_i hlt
      cases hj
      obtain ⟨h1, h2⟩ := h0 k _ (List.getElem?_eq_getElem hlt)
      refine ⟨World.cell?_setCell_same _ _ _ h1, ?_⟩
      simpa using h2
    · cases hj
  · rw [if_neg hk] at hj
    obtain ⟨h1, h2⟩ := h0 j d hj
    refine ⟨?_, by simpa using h2⟩
    rw [World.cell?_setCell_other]
    · exact h1
    · simp
      try omega
theorem Byts.new (w : World) (s : ByteArray) (cap : Nat) (t : TypeId) (hi : Nat) : Byts (w.alloc (.cells (bytesRow s cap) t ((bytesRow s cap).size, hi))) w.heap.size s.data.toList := by
  refine ⟨by simp, fun j c hj => ?_⟩
  have hj' : j < s.data.size := by
    have := (List.getElem?_eq_some_iff.1 hj).1
    simpa using this
  have hc : s.data[j] = c := by
    rw [List.getElem?_eq_getElem (by simpa using hj')] at hj
    simpa using hj
  refine ⟨?_, ?_⟩
  · rw [World.cell?_alloc_mark, bytesRow_at s cap j hj', hc]
  · rw [World.frozen?_alloc_mark]
    have : (bytesRow s cap).size = s.data.size + (cap - s.size) := by simp [bytesRow]
    simp
    omega

def keysB : List ByteArray := keysL.map fun l => ⟨l.toArray⟩
/-- The variable 'keys' holds the language's words. -/
def KeysAt (w : World) : Prop := ∀ j, j < keysB.length → w.cell? ⟨0, 0 + j, none⟩ = some (.string (keysB.getD j ByteArray.empty))

/-- The first k letters made great. -/
def upTo (k : Nat) (l : List UInt8) : List UInt8 := (l.take k).map upB ++ l.drop k
theorem upTo_zero (l : List UInt8) : upTo 0 l = l := by simp [upTo]
theorem upTo_all (l : List UInt8) : upTo l.length l = l.map upB := by simp [upTo]
theorem upTo_at (l : List UInt8) (k : Nat) (h : k < l.length) : (upTo k l)[k]? = some l[k] := by
  unfold upTo
  rw [List.getElem?_append_right (by simp; omega)]
  simp [Nat.min_eq_left (Nat.le_of_lt h), h]
theorem set_same {α : Type} (l : List α) (k : Nat) (a : α) (h : l[k]? = some a) : l.set k a = l := by
  apply List.ext_getElem?
  intro i
  rw [List.getElem?_set]
  split
  · rename_i hk
    subst hk
    split
    · exact h.symm
    · rename_i hlt
      rw [List.getElem?_eq_none (by omega)]
  · rfl
theorem upTo_length (l : List UInt8) (k : Nat) : (upTo k l).length = l.length := by
  simp [upTo]
  omega
theorem upTo_succ (l : List UInt8) (k : Nat) (h : k < l.length) : upTo (k + 1) l = (upTo k l).set k (upB l[k]) := by
  unfold upTo
  rw [List.take_succ_eq_append_getElem h, List.map_append]
  simp only [List.map_cons, List.map_nil, List.append_assoc, List.singleton_append]
  rw [List.set_append_right _ _ (by simp; omega)]
  simp [Nat.min_eq_left (Nat.le_of_lt h)]
  rw [List.drop_eq_getElem_cons h]
  rfl

theorem containsS_keys (u : List UInt8) : Lib.containsS (keysB.take 23) ⟨u.toArray⟩ = keysL.contains u := by
  rw [Bool.eq_iff_iff, Lib.containsS_iff, List.take_of_length_le (by decide), List.contains_iff_mem, keysB, List.mem_map]
  constructor
  · rintro ⟨l, hl, h⟩
    have h2 : l.toArray = u.toArray := congrArg ByteArray.data h
    have h3 : l = u := by simpa using h2
    rw [← h3]
    exact hl
  · intro h
    exact ⟨u, h, rfl⟩
theorem andNot_low (c : UInt8) (h1 : 97 ≤ c.toNat) (h2 : c.toNat ≤ 122) : bits BinOp.andNot IntKind.u8 (c.toNat : Int) 32 = ((UInt8.ofNat (c.toNat - 32)).toNat : Int) := by
  have h : ∀ n : Nat, n < 123 → 97 ≤ n → bits BinOp.andNot IntKind.u8 (n : Int) 32 = ((UInt8.ofNat (n - 32)).toNat : Int) := by decide +kernel
  exact h _ (by omega) h1

set_option maxRecDepth 100000 in
set_option maxHeartbeats 400000 in
theorem lexkey_calls (s : ByteArray) (w : World) (hs : s.size ≤ 140737488351232) (hk : KeysAt w) :
    Calls Tryd.prog 19 #[.string s] w fun e w' => e = .returned (.string ⟨(keyL s.data.toList).toArray⟩) ∧ Below w.heap.size w w' := by
  have HK := Lib.hid hk
  clear hk
  have hcv := run_bytes_of_string (P := Tryd.prog) w 9 49 5 s Tryd.underlying9 Tryd.underlying49 Tryd.underlying5
  have hb := Byts.new w.drew s (grownCap w s.size 0 5) 5 ((bytesRow s (grownCap w s.size 0 5)).size + 1)
  generalize bytesRow s (grownCap w s.size 0 5) = C at *
  generalize grownCap w s.size 0 5 = cap at *
  go_enter Tryd.func19, Tryd.ntmps19
  go_wp2_with fail
  go_loopw [11] (fun i wr => ∃ k : Nat, i = .int .i64 k ∧ k ≤ s.size ∧ Byts wr w.heap.size (upTo k s.data.toList) ∧ Below w.heap.size w wr) (fun i wr => s.size - (intOf i).toNat)
  case atStart => exact ⟨0, rfl, Nat.zero_le _, by rw [upTo_zero]; exact hb, ((Below.refl _ _).alloc (Nat.le_refl _) _).drew⟩
  case round =>
    obtain ⟨k, rfl, hle, hy, hbl⟩ := hrel
    by_cases hlt : k < s.size
    · have hlt' : k < s.data.toList.length := by rw [size_list]; exact hlt
      obtain ⟨hc, hf⟩ := hy.2 k _ (upTo_at _ k hlt')
      have hput := hy.put k (upB s.data.toList[k])
      rw [← upTo_succ _ _ hlt'] at hput
      have hsame : upB s.data.toList[k] = s.data.toList[k] → upTo (k + 1) s.data.toList = upTo k s.data.toList := by
        intro he
        rw [upTo_succ _ _ hlt', he]
        exact set_same _ _ _ (upTo_at _ k hlt')
      have h256 : s.data.toList[k].toNat < 256 := s.data.toList[k].toNat_lt
      have hup : upB s.data.toList[k] = if 97 ≤ s.data.toList[k].toNat ∧ s.data.toList[k].toNat ≤ 122 then UInt8.ofNat (s.data.toList[k].toNat - 32) else s.data.toList[k] := rfl
      generalize upB s.data.toList[k] = u at *
      generalize s.data.toList[k] = c at *
      have HU := Lib.hid hup
      clear hup
      go_wp2_with fail
      · have a1 : 97 ≤ c.toNat := by have : 97 ≤ (c.toNat : Int) := by assumption
                                     omega
        have a2 : c.toNat ≤ 122 := by have : (c.toNat : Int) ≤ 122 := by assumption
                                      omega
        go_roundw
        case rel =>
          refine ⟨k + 1, by go_num, by omega, ?_, hbl.setCell (Nat.le_refl _) _⟩
          rw [andNot_low c a1 a2]
          rw [HU.out, if_pos ⟨a1, a2⟩] at hput
          exact hput
        case measure => simp [intOf]; omega
      all_goals
        rw [HU.out, if_neg (by omega)] at hput
        have hkeep : Byts wr w.heap.size (upTo (k + 1) s.data.toList) := by
          rw [hsame (by rw [HU.out, if_neg (by omega)])]
          exact hy
        go_roundw
        case rel => exact ⟨k + 1, by go_num, by omega, hkeep, hbl⟩
        case measure => simp [intOf]; omega
    · have hz : k = s.size := by omega
      subst hz
      rw [← size_list, upTo_all] at hy
      have hbk := run_convert_bytes_back (P := Tryd.prog) wr 49 9 5 ⟨w.heap.size, 0, none⟩ cap (s.data.toList.map upB) Tryd.underlying49 Tryd.underlying5 Tryd.underlying9 (fun j hj => by
        obtain ⟨h1, _⟩ := hy.2 j _ (List.getElem?_eq_getElem hj)
        unfold Addr.add
        by_cases h0 : j = 0
        · subst h0; exact h1
        · rw [if_neg h0]; simpa using h1)
      rw [List.length_map, size_list] at hbk
      generalize hu : s.data.toList.map upB = u at *
      have HU := Lib.hid hu
      clear hu
      go_wp2_with fail
      refine (Tryd.slices_Contains_string 0 0 23 23 keysB ⟨u.toArray⟩ _ (by decide) (by decide) ?hk).mono ?_
      case hk =>
        intro j hj
        have := HK.out j hj
        exact (hbl.cell (by have := lt_of_cell this; simpa using this)).trans this
      rintro e w1 ⟨rfl, rfl⟩
      have hct := containsS_keys u
      rw [hct]
      cases hcu : keysL.contains u with
      | true =>
        go_wp2_with fail
        go_ret
        refine ⟨?_, hbl⟩
        rw [keyL, HU.out, hcu]
        rfl
      | false =>
        go_wp2_with fail
        go_ret
        refine ⟨?_, hbl⟩
        rw [keyL, HU.out, hcu]
        rfl
end Go.Proofs.YtaonmhegnnpgaaaDoor
