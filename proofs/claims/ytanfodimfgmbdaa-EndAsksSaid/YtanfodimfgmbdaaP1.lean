/- A plain law of chapter 16, with no program in sight: the clone of bytes is the bytes. -/
import Derived.Test.YtanfodimfgmbdaaXF
import Derived.KernelRfl
namespace Go.Proofs.Ytanfodimfgmbdaa
open Go Go.Re
set_option linter.unusedVariables false
set_option linter.unusedSimpArgs false
theorem bytes_Clone_fun : bytes_Clone = fun x => (chk (decide (x.length ≤ lim))).bind fun _ => some x := by
  funext x
  unfold bytes_Clone
  cases x with
  | nil => simp [both_self, chk, lim]
  | cons a r => simp [List.isEmpty]
theorem alive_ok : reticulelaw16_alive () = some true := by
  simp only [reticulelaw16_alive, endpoint_In, endpoint_send, bytes_Clone_fun]
  kernel_rfl
theorem clone_ok (x : List (BitVec 8)) (h : x.length ≤ 2147483648) : bytes_Clone x = some x := by
  rw [bytes_Clone_fun]; simp [chk, lim, h]
end Go.Proofs.Ytanfodimfgmbdaa
