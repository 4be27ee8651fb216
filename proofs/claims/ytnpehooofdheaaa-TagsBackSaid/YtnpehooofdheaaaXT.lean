/- Types of the program, as data. Printed by the session's own program. -/
import Derived.Test.YtnpehooofdheaaaRfH
import Derived.Test.YtnpehooofdheaaaProg
namespace Go.Proofs.Ytnpehooofdheaaa
open Go Go.Re
set_option linter.unusedVariables false
set_option linter.unusedSimpArgs false
abbrev T7 : Ty := (.st (.pair (.int .i64) (.pair (.int .i64) (.pair .bool (.pair (.int .u8) .unit)))))
abbrev T13 : Ty := (.st (.pair .str (.pair (.int .u64) .unit)))
abbrev T26 : Ty := (.st (.pair (.int .i64) (.pair (.int .u64) (.pair (.int .i64) (.pair (.int .i64) (.pair (.int .i64) .unit))))))
abbrev T28 : Ty := (.st (.pair (.int .i64) (.pair (.int .i64) (.pair (.int .i64) .unit))))
abbrev T30 : Ty := (.st (.pair T26 (.pair (.int .i64) (.pair (.int .i64) (.pair (.sl (.int .u8)) (.pair T28 .unit))))))
abbrev T32 : Ty := (.st (.pair (.int .i64) (.pair (.int .i64) (.pair (.arr 16 (.int .u8)) (.pair (.int .i64) (.pair (.sl (.int .u8)) (.pair T30 (.pair T28 .unit))))))))
def tyTab : List (Nat × Ty) := [(2, (.int .i64)), (3, (.int .i64)), (4, .bool), (5, (.int .u8)), (6, (.int .u8)), (7, T7), (8, T7), (9, .str), (10, .str), (11, .str), (12, (.int .u64)), (13, T13), (14, T13), (21, (.int .i32)), (22, (.sl (.st (.pair (.int .i64) (.pair (.int .i64) (.pair (.arr 16 (.int .u8)) (.pair (.int .i64) (.pair (.sl (.int .u8)) (.pair (.st (.pair (.st (.pair (.int .i64) (.pair (.int .u64) (.pair (.int .i64) (.pair (.int .i64) (.pair (.int .i64) .unit)))))) (.pair (.int .i64) (.pair (.int .i64) (.pair (.sl (.int .u8)) (.pair (.st (.pair (.int .i64) (.pair (.int .i64) (.pair (.int .i64) .unit)))) .unit)))))) (.pair (.st (.pair (.int .i64) (.pair (.int .i64) (.pair (.int .i64) .unit)))) .unit)))))))))), (23, (.arr 16 (.int .u8))), (24, (.sl (.int .u8))), (25, (.int .u64)), (26, T26), (27, T26), (28, T28), (29, T28), (30, T30), (31, T30), (32, T32), (33, T32), (37, (.int .i64)), (45, (.sl (.int .i64))), (48, (.sl T28)), (49, T28), (50, T28), (63, (.arr 2 (.int .u8))), (64, (.arr 2 (.int .u8))), (67, (.sl (.sl T32))), (69, (.int .u64)), (77, (.int .u32)), (78, (.int .u8)), (79, (.int .u8)), (82, (.int .i32)), (83, (.int .i32))]
theorem tab_ok : tabB Try.prog tyTab tyTab = true := by kernel_rfl
theorem pos_ok : posB Try.prog tyTab = true := by kernel_rfl
theorem hty : ∀ t τ, Re.look tyTab t = some τ → TyOk Try.prog (Re.look tyTab) t τ := fun _ _ h => tabB_ok tab_ok _ (look_mem h)
theorem hpos : ∀ t τ, Re.look tyTab t = some τ → 0 < Try.prog.bytesOf t ∧ 0 < τ.size := fun _ _ h => posB_ok pos_ok _ (look_mem h)
theorem mixed : Try.prog.follows .mixedOrders = true := by kernel_rfl
def bd (f : Func) : Code := match f.body with | some c => c | none => .skip
end Go.Proofs.Ytnpehooofdheaaa
