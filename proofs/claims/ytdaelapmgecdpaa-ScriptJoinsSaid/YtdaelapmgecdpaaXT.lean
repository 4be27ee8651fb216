/- Types of the program, as data. Printed by the session's own program. -/
import Derived.Test.YtdaelapmgecdpaaRfH
import Derived.Test.YtdaelapmgecdpaaProg
namespace Go.Proofs.Ytdaelapmgecdpaa
open Go Go.Re
set_option linter.unusedVariables false
set_option linter.unusedSimpArgs false
abbrev T7 : Ty := (.st (.pair (.int .i64) (.pair (.int .i64) (.pair .bool (.pair (.int .u8) .unit)))))
abbrev T13 : Ty := (.st (.pair .str (.pair (.int .u64) .unit)))
abbrev T24 : Ty := (.st (.pair (.int .i64) (.pair (.int .i64) (.pair (.int .i64) (.pair (.int .i64) (.pair (.int .i64) (.pair .bool (.pair (.int .i64) (.pair (.int .u64) (.pair (.sl (.int .u8)) .unit))))))))))
abbrev T50 : Ty := (.st (.pair (.sl (.int .u8)) .unit))
def tyTab : List (Nat × Ty) := [(2, (.int .i64)), (3, (.int .i64)), (4, .bool), (5, (.int .u8)), (6, (.int .u8)), (7, T7), (8, T7), (9, .str), (10, .str), (11, .str), (12, (.int .u64)), (13, T13), (14, T13), (21, (.int .i32)), (22, (.sl (.int .u8))), (23, (.int .u64)), (24, T24), (25, T24), (27, (.int .i64)), (34, (.sl T24)), (43, (.int .u16)), (50, T50), (51, T50), (58, (.sl (.sl (.int .u8)))), (61, (.int .u64)), (71, (.int .u32)), (72, (.int .u8)), (73, (.int .u8)), (76, (.int .i32)), (77, (.int .i32))]
theorem tab_ok : tabB Try.prog tyTab tyTab = true := by kernel_rfl
theorem pos_ok : posB Try.prog tyTab = true := by kernel_rfl
theorem hty : ∀ t τ, Re.look tyTab t = some τ → TyOk Try.prog (Re.look tyTab) t τ := fun _ _ h => tabB_ok tab_ok _ (look_mem h)
theorem hpos : ∀ t τ, Re.look tyTab t = some τ → 0 < Try.prog.bytesOf t ∧ 0 < τ.size := fun _ _ h => posB_ok pos_ok _ (look_mem h)
theorem mixed : Try.prog.follows .mixedOrders = true := by kernel_rfl
def bd (f : Func) : Code := match f.body with | some c => c | none => .skip
end Go.Proofs.Ytdaelapmgecdpaa
