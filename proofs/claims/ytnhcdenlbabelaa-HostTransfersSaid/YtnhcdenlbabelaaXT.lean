/- Types of the program, as data. Printed by the session's own program. -/
import Derived.Test.YtnhcdenlbabelaaRfH
import Derived.Test.YtnhcdenlbabelaaProg
namespace Go.Proofs.Ytnhcdenlbabelaa
open Go Go.Re
set_option linter.unusedVariables false
set_option linter.unusedSimpArgs false
abbrev T7 : Ty := (.st (.pair (.int .i64) (.pair (.int .i64) (.pair .bool (.pair (.int .u8) .unit)))))
abbrev T13 : Ty := (.st (.pair .str (.pair (.int .u64) .unit)))
abbrev T22 : Ty := (.st (.pair (.int .i64) (.pair (.int .i64) (.pair (.int .i64) (.pair (.int .i64) (.pair (.int .i64) .unit))))))
abbrev T34 : Ty := (.st (.pair (.int .u32) (.pair (.int .u32) (.pair .bool (.pair (.int .i64) (.pair (.sl (.int .u8)) .unit))))))
abbrev T36 : Ty := (.st (.pair (.int .i64) (.pair (.int .i64) (.pair (.int .i64) (.pair (.int .i64) .unit)))))
abbrev T41 : Ty := (.st (.pair (.int .i64) (.pair (.int .i64) (.pair (.int .i64) (.pair (.int .i64) (.pair (.int .i64) (.pair .bool (.pair (.int .i64) (.pair (.int .u64) (.pair (.sl (.int .u8)) .unit))))))))))
abbrev T46 : Ty := (.st (.pair (.int .i64) (.pair (.int .u64) (.pair (.int .i64) (.pair (.int .i64) (.pair (.int .i64) .unit))))))
abbrev T48 : Ty := (.st (.pair (.int .i64) (.pair (.int .i64) (.pair (.int .i64) .unit))))
abbrev T50 : Ty := (.st (.pair T46 (.pair (.int .i64) (.pair (.int .i64) (.pair (.sl (.int .u8)) (.pair T48 .unit))))))
abbrev T52 : Ty := (.st (.pair (.int .i64) (.pair (.int .i64) (.pair (.arr 16 (.int .u8)) (.pair (.int .i64) (.pair (.sl (.int .u8)) (.pair T50 (.pair T48 .unit))))))))
def tyTab : List (Nat × Ty) := [(2, (.int .i64)), (3, (.int .i64)), (4, .bool), (5, (.int .u8)), (6, (.int .u8)), (7, T7), (8, T7), (9, .str), (10, .str), (11, .str), (12, (.int .u64)), (13, T13), (14, T13), (21, (.int .i32)), (22, T22), (23, T22), (26, (.sl (.st (.pair (.int .i64) (.pair (.int .i64) (.pair (.int .i64) (.pair (.int .i64) (.pair (.int .i64) (.pair .bool (.pair (.int .i64) (.pair (.int .u64) (.pair (.sl (.int .u8)) .unit)))))))))))), (32, (.int .u32)), (33, (.sl (.int .u8))), (34, T34), (35, T34), (36, T36), (37, T36), (38, T36), (39, T36), (40, (.int .u64)), (41, T41), (42, T41), (45, (.arr 16 (.int .u8))), (46, T46), (47, T46), (48, T48), (49, T48), (50, T50), (51, T50), (52, T52), (53, T52), (59, (.int .u16)), (75, (.arr 3 (.int .i64))), (79, (.int .u64)), (82, (.sl (.sl T41))), (83, (.sl T22)), (84, (.arr 3 (.int .u8))), (89, (.sl (.sl (.int .u8)))), (106, (.int .u8)), (107, (.int .u8)), (110, (.int .i32)), (111, (.int .i32))]
theorem tab_ok : tabB Try.prog tyTab tyTab = true := by kernel_rfl
theorem pos_ok : posB Try.prog tyTab = true := by kernel_rfl
theorem hty : ∀ t τ, Re.look tyTab t = some τ → TyOk Try.prog (Re.look tyTab) t τ := fun _ _ h => tabB_ok tab_ok _ (look_mem h)
theorem hpos : ∀ t τ, Re.look tyTab t = some τ → 0 < Try.prog.bytesOf t ∧ 0 < τ.size := fun _ _ h => posB_ok pos_ok _ (look_mem h)
theorem mixed : Try.prog.follows .mixedOrders = true := by kernel_rfl
def bd (f : Func) : Code := match f.body with | some c => c | none => .skip
end Go.Proofs.Ytnhcdenlbabelaa
