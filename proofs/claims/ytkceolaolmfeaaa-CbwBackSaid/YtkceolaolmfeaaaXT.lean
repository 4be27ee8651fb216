/- Types of the program, as data. Printed by the session's own program. -/
import Derived.Test.YtkceolaolmfeaaaRfH
import Derived.Test.YtkceolaolmfeaaaProg
namespace Go.Proofs.Ytkceolaolmfeaaa
open Go Go.Re
set_option linter.unusedVariables false
set_option linter.unusedSimpArgs false
abbrev T7 : Ty := (.st (.pair (.int .i64) (.pair (.int .i64) (.pair .bool (.pair (.int .u8) .unit)))))
abbrev T13 : Ty := (.st (.pair .str (.pair (.int .u64) .unit)))
abbrev T25 : Ty := (.st (.pair (.int .u32) (.pair (.int .u32) (.pair .bool (.pair (.int .i64) (.pair (.sl (.int .u8)) .unit))))))
abbrev T34 : Ty := (.st (.pair (.int .u32) (.pair (.int .u32) (.pair (.int .i64) .unit))))
def tyTab : List (Nat × Ty) := [(2, (.int .i64)), (3, (.int .i64)), (4, .bool), (5, (.int .u8)), (6, (.int .u8)), (7, T7), (8, T7), (9, .str), (10, .str), (11, .str), (12, (.int .u64)), (13, T13), (14, T13), (21, (.int .i32)), (22, (.sl (.int .u8))), (24, (.int .u32)), (25, T25), (26, T25), (34, T34), (35, T34), (43, (.int .u64)), (47, (.int .u64)), (48, (.arr 3 (.int .u8))), (55, (.sl (.sl (.int .u8)))), (65, (.int .u8)), (66, (.int .u8)), (69, (.int .i32)), (70, (.int .i32))]
theorem tab_ok : tabB Try.prog tyTab tyTab = true := by kernel_rfl
theorem pos_ok : posB Try.prog tyTab = true := by kernel_rfl
theorem hty : ∀ t τ, Re.look tyTab t = some τ → TyOk Try.prog (Re.look tyTab) t τ := fun _ _ h => tabB_ok tab_ok _ (look_mem h)
theorem hpos : ∀ t τ, Re.look tyTab t = some τ → 0 < Try.prog.bytesOf t ∧ 0 < τ.size := fun _ _ h => posB_ok pos_ok _ (look_mem h)
theorem mixed : Try.prog.follows .mixedOrders = true := by kernel_rfl
def bd (f : Func) : Code := match f.body with | some c => c | none => .skip
end Go.Proofs.Ytkceolaolmfeaaa
