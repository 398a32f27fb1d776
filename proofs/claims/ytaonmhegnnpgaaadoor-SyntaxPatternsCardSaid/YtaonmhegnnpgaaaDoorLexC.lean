/- Package lex's number by its plain function. No condition. -/
import Derived.Test.YtaonmhegnnpgaaaDoorLexB
namespace Go.Proofs.YtaonmhegnnpgaaaDoor
open Go Go.RowKit

theorem byte_at (s : ByteArray) (pos : Nat) (hp : pos < s.size) : s.data.toList.drop pos = s[pos] :: s.data.toList.drop (pos + 1) := by
  have hl : pos < s.data.toList.length := by rw [size_list]; exact hp
  rw [List.drop_eq_getElem_cons hl]
  rfl
theorem mem_at (s : ByteArray) (pos : Nat) (hp : pos < s.size) : s[pos] ∈ s.data.toList := by
  have := byte_at s pos hp
  have h2 : s[pos] ∈ s.data.toList.drop pos := by rw [this]; exact List.mem_cons_self
  exact List.mem_of_mem_drop h2

/-- One digit more. -/
def numStep (v d : Int) : Option Int := if v > (9223372036854775807 - d) / 10 then none else some (10 * v + d)
theorem numF_cons (v : Int) (c : UInt8) (l : List UInt8) : numF v (c :: l) = (numStep v ((c.toNat : Int) - 48)).bind fun v => numF v l := by
  rw [numF, numStep]
  split <;> rfl

def NumEnd (r : Option Int) (w : World) (e : Ending) (w' : World) : Prop := e = .returned (.tuple #[.int .i64 (r.getD 0), .bool r.isSome]) ∧ Below w.heap.size w w'

set_option maxRecDepth 100000 in
set_option maxHeartbeats 400000 in
theorem lexnumber_calls (s : ByteArray) (w : World) (hd : ∀ b ∈ s.data.toList, 48 ≤ b.toNat ∧ b.toNat ≤ 57) :
    Calls Tryd.prog 20 #[.string s] w (NumEnd (numF 0 s.data.toList) w) := by
  have HD := Lib.hid hd
  clear hd
  go_enter Tryd.func20, Tryd.ntmps20
  go_wp2_with fail
  go_loopw [2] (fun v wr => ∃ pos : Nat, ∃ n : Int, wr = w.iter s pos ∧ pos ≤ s.size ∧ v = .int .i64 n ∧ 0 ≤ n ∧ n ≤ 9223372036854775807 ∧ numF 0 s.data.toList = numF n (s.data.toList.drop pos)) (fun _ wr => s.size - wr.iterPos w.heap.size)
  case atStart => exact ⟨0, 0, rfl, Nat.zero_le _, rfl, by omega, by omega, by simp⟩
  case round =>
    obtain ⟨pos, n, rfl, hle, rfl, hn0, hn1, hR⟩ := hrel
    by_cases hp : pos < s.size
    · obtain ⟨h48, h57⟩ := HD.out _ (mem_at s pos hp)
      have hnx : ∀ ty, (Instr.next (.pointer (some ⟨w.heap.size, 0, none⟩)) true ty).run Tryd.prog (w.iter s pos) = _ := fun ty => run_next_ascii w s pos ty hp (by omega)
      rw [byte_at s pos hp, numF_cons] at hR
      generalize s[pos].toNat = c at *
      have HR := Lib.hid hR
      clear hR
      have hdv : 0 ≤ (9223372036854775807 - ((c : Int) - 48)) := by omega
      go_wp2_with fail
      · go_ret2
        refine ⟨?_, (Below.refl _ _).alloc (Nat.le_refl _) _⟩
        rw [HR.out, numStep, if_pos (by assumption)]
        rfl
      · have hge : n ≤ (9223372036854775807 - ((c : Int) - 48)) / 10 := by assumption
        go_roundw
        case rel =>
          refine ⟨pos + 1, _, rfl, by omega, rfl, by omega, by omega, ?_⟩
          rw [HR.out, numStep, if_neg (by omega)]
          rfl
        case measure => simp; omega
    · have hnx : ∀ ty, (Instr.next (.pointer (some ⟨w.heap.size, 0, none⟩)) true ty).run Tryd.prog (w.iter s pos) = _ := fun ty => run_next_end w s pos ty hp
      have hz : pos = s.size := by omega
      have HR : numF 0 s.data.toList = some n := by
        rw [hR, hz, List.drop_of_length_le (by rw [size_list]; exact Nat.le_refl _)]
        rfl
      clear hR hz
      have HR := Lib.hid HR
      go_wp2_with fail
      go_ret2
      rw [HR.out]
      exact ⟨rfl, (Below.refl _ _).alloc (Nat.le_refl _) _⟩
end Go.Proofs.YtaonmhegnnpgaaaDoor
