/- Types of the program, as data. Printed by the session's own program. -/
import Derived.Test.YtnhmeldgpgidiaaLib4
import Derived.Test.YtnhmeldgpgidiaaProg
namespace Go.Proofs.Ytnhmeldgpgidiaa
open Go Go.Re
set_option linter.unusedVariables false
set_option linter.unusedSimpArgs false
set_option maxRecDepth 100000
abbrev T7 : Ty := (.st (.pair (.int .i64) (.pair (.int .i64) (.pair .bool (.pair (.int .u8) .unit)))))
abbrev T13 : Ty := (.st (.pair .str (.pair (.int .u64) .unit)))
abbrev T25 : Ty := (.st (.pair (.int .i64) (.pair (.int .u64) (.pair (.int .i64) (.pair (.int .i64) (.pair (.int .i64) .unit))))))
abbrev T27 : Ty := (.st (.pair (.int .i64) (.pair (.int .i64) (.pair (.int .i64) .unit))))
abbrev T43 : Ty := (.st (.pair (.int .i64) (.pair (.int .i64) (.pair (.int .i64) (.pair (.int .i64) .unit)))))
abbrev T46 : Ty := (.st (.pair T43 (.pair T43 (.pair T43 (.pair T43 (.pair (.mp T43 (.int .u64)) .unit))))))
def tyTab : List (Nat × Ty) := [(2, (.int .i64)), (3, (.int .i64)), (4, .bool), (5, (.int .u8)), (6, (.int .u8)), (7, T7), (8, T7), (9, .str), (10, .str), (11, .str), (12, (.int .u64)), (13, T13), (14, T13), (21, (.int .i32)), (22, (.sl (.int .u8))), (24, (.int .u64)), (25, T25), (26, T25), (27, T27), (28, T27), (38, (.int .u32)), (39, (.arr 13 (.int .i64))), (43, T43), (44, T43), (45, (.mp T43 (.int .u64))), (46, T46), (47, T46), (53, (.int .u64)), (54, (.sl (.int .i64))), (78, (.int .u8)), (79, (.int .u8)), (82, (.int .i32)), (83, (.int .i32))]
theorem tab_ok : tabB Try.prog tyTab tyTab = true := by kernel_rfl
def tyTabA : List (Nat × Ty) := [(2, (.int .i64)), (3, (.int .i64)), (4, .bool), (5, (.int .u8)), (6, (.int .u8)), (7, T7), (8, T7), (9, .str), (10, .str), (11, .str), (12, (.int .u64)), (13, T13), (14, T13), (21, (.int .i32)), (22, (.sl (.int .u8))), (24, (.int .u64)), (25, T25), (26, T25), (27, T27), (28, T27), (38, (.int .u32)), (39, (.arr 13 (.int .i64))), (43, T43), (44, T43), (53, (.int .u64)), (54, (.sl (.int .i64))), (78, (.int .u8)), (79, (.int .u8)), (82, (.int .i32)), (83, (.int .i32))]
theorem tabA_ok : tabB Try.prog tyTabA tyTabA = true := by kernel_rfl
theorem pos_ok : posB Try.prog tyTabA = true := by kernel_rfl
theorem hty : ∀ t τ, Re.look tyTabA t = some τ → TyOk Try.prog (Re.look tyTabA) t τ := fun _ _ h => tabB_ok tabA_ok _ (look_mem h)
theorem hpos : ∀ t τ, Re.look tyTabA t = some τ → 0 < Try.prog.bytesOf t ∧ 0 < τ.size ∧ τ.isMap = false := fun _ _ h => posB_ok pos_ok _ (look_mem h)
theorem mixed : Try.prog.follows .mixedOrders = true := by kernel_rfl
def bd (f : Func) : Code := match f.body with | some c => c | none => .skip
end Go.Proofs.Ytnhmeldgpgidiaa
