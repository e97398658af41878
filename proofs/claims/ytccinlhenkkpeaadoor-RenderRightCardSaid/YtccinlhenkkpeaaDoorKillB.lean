/- What the functions of layer 12 compute: getting a text. -/
import Derived.Test.YtccinlhenkkpeaaDoorKillA
namespace Go.Proofs.YtccinlhenkkpeaaDoor
open Go E
set_option linter.unusedSimpArgs false
set_option linter.unusedVariables false

def kGet (L : List (List Int)) (t : Int) : List Int × Int :=
  if kIs L = false ∨ t < 0 then ([], 1) else if L.length = 0 then ([], 6) else (L.getD (L.length - 1 - t.toNat % L.length) [], 0)

theorem tmod_nn (u n : Nat) : (u : Int).tmod (n : Int) = ((u % n : Nat) : Int) := (Int.ofNat_tmod u n).symm

theorem kGet_q {L : List (List Int)} {u q : Nat} (hk : kIs L = true) (hn : ¬ L.length = 0) (e : q = u % L.length) (hq : q < L.length) : kGet L u = (L[L.length - 1 - q], 0) := by
  rw [kGet, if_neg (by simp [hk]), if_neg hn, Int.toNat_natCast, ← e, getD_at (by omega)]



end Go.Proofs.YtccinlhenkkpeaaDoor
