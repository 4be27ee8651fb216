/- Types of the program, as data. Printed by the session's own program. -/
import Derived.Test.YtmkffbacmjgbcaaRfH
import Derived.Test.YtmkffbacmjgbcaaProg
namespace Go.Proofs.Ytmkffbacmjgbcaa
open Go Go.Re
set_option linter.unusedVariables false
set_option linter.unusedSimpArgs false
abbrev T7 : Ty := (.st (.pair (.int .i64) (.pair (.int .i64) (.pair .bool (.pair (.int .u8) .unit)))))
abbrev T13 : Ty := (.st (.pair .str (.pair (.int .u64) .unit)))
abbrev T22 : Ty := (.st (.pair (.int .i64) (.pair (.int .i64) (.pair (.int .i64) .unit))))
def tyTab : List (Nat × Ty) := [(2, (.int .i64)), (3, (.int .i64)), (4, .bool), (5, (.int .u8)), (6, (.int .u8)), (7, T7), (8, T7), (9, .str), (10, .str), (11, .str), (12, (.int .u64)), (13, T13), (14, T13), (21, (.int .i32)), (22, T22), (23, T22), (24, (.sl (.int .u8))), (31, (.arr 3 (.int .u8))), (34, (.sl T22)), (41, (.arr 5 T22)), (43, (.arr 16 T22)), (44, (.arr 3 (.int .i64))), (45, (.arr 16 (.arr 3 (.int .i64)))), (48, (.int .u64)), (49, (.int .u64)), (62, (.int .u32)), (63, (.int .u8)), (64, (.int .u8)), (67, (.int .i32)), (68, (.int .i32))]
theorem tab_ok : tabB Try.prog tyTab tyTab = true := by kernel_rfl
theorem pos_ok : posB Try.prog tyTab = true := by kernel_rfl
theorem hty : ∀ t τ, Re.look tyTab t = some τ → TyOk Try.prog (Re.look tyTab) t τ := fun _ _ h => tabB_ok tab_ok _ (look_mem h)
theorem hpos : ∀ t τ, Re.look tyTab t = some τ → 0 < Try.prog.bytesOf t ∧ 0 < τ.size := fun _ _ h => posB_ok pos_ok _ (look_mem h)
theorem mixed : Try.prog.follows .mixedOrders = true := by kernel_rfl
def bd (f : Func) : Code := match f.body with | some c => c | none => .skip
end Go.Proofs.Ytmkffbacmjgbcaa
