/- Every level of the grammar, at every fuel. No condition. -/
import Derived.Test.YtaonmhegnnpgaaaDoorRdQ
namespace Go.Proofs.YtaonmhegnnpgaaaDoor
open Go Go.RowKit

theorem nt_at : ∀ n, NtAt n
  | 0 => by
    intro nt m hnt hm r L en d w res h hd0 hd1 hres
    cases Nat.le_zero.mp hm
    simp [parse] at hres
  | n + 1 => by
    have ih := nt_at n
    intro nt m hnt hm r L en d w res h hd0 hd1 hres
    rcases Nat.lt_or_eq_of_le hm with hm | rfl
    · exact ih nt m hnt (Nat.le_of_lt_succ hm) r L en d w res h hd0 hd1 hres
    cases nt with
    | expr => exact expr_calls n ih r L en d w res h hd0 hd1 hres
    | both => exact both_calls n ih r L en d w res h hd0 hd1 hres
    | deny => exact deny_calls n ih r L en d w res h hd0 hd1 hres
    | test => exact test_calls n ih r L en d w res h hd0 hd1 hres
    | sum => exact sum_calls n ih r L en d w res h hd0 hd1 hres
    | prod => exact prod_calls n ih r L en d w res h hd0 hd1 hres
    | minus => exact minus_calls n ih r L en d w res h hd0 hd1 hres
    | plain => exact plain_calls n ih r L en d w res h hd0 hd1 hres
    | within => exact within_calls n ih r L en d w res h hd0 hd1 hres
    | call => exact call_calls n ih r L en d w res h hd0 hd1 hres
    | rest k x => cases hnt

theorem expr_at (n : Nat) (r : Nat) (L : List Tok) (en d : Int) (w : World) (res : Except (Int × Int) (Ex × List Tok)) (h : Rd w r L en d) (hd0 : 0 ≤ d) (hd1 : d ≤ 50) (hres : parse en n .expr d L = some res) :
    Calls Tryd.prog 26 #[.pointer (some ⟨r, 0, none⟩)] w (Post r en d w (EVal w.heap.size) res) :=
  nt_at n .expr n rfl (Nat.le_refl _) r L en d w res h hd0 hd1 hres
end Go.Proofs.YtaonmhegnnpgaaaDoor
