/- Types of the program, as data. Printed by the session's own program. -/
import Derived.Test.YtgceolpeegfkkaaRfH
import Derived.Test.YtgceolpeegfkkaaProg
namespace Go.Proofs.Ytgceolpeegfkkaa
open Go Go.Re
set_option linter.unusedVariables false
set_option linter.unusedSimpArgs false
set_option maxRecDepth 100000
abbrev T7 : Ty := (.st (.pair (.int .i64) (.pair (.int .i64) (.pair .bool (.pair (.int .u8) .unit)))))
abbrev T13 : Ty := (.st (.pair .str (.pair (.int .u64) .unit)))
abbrev T24 : Ty := (.st (.pair (.sl (.st (.pair (.int .i64) (.pair (.int .i64) (.pair (.arr 16 (.int .u8)) (.pair (.int .i64) (.pair (.sl (.int .u8)) (.pair (.st (.pair (.st (.pair (.int .i64) (.pair (.int .u64) (.pair (.int .i64) (.pair (.int .i64) (.pair (.int .i64) .unit)))))) (.pair (.int .i64) (.pair (.int .i64) (.pair (.sl (.int .u8)) (.pair (.st (.pair (.int .i64) (.pair (.int .i64) (.pair (.int .i64) .unit)))) .unit)))))) (.pair (.st (.pair (.int .i64) (.pair (.int .i64) (.pair (.int .i64) .unit)))) .unit))))))))) (.pair (.sl (.st (.pair (.int .i64) (.pair (.int .i64) (.pair (.sl (.int .u8)) .unit))))) .unit)))
abbrev T27 : Ty := (.st (.pair (.int .i64) (.pair (.int .i64) (.pair (.int .i64) (.pair (.int .i64) .unit)))))
abbrev T43 : Ty := (.st (.pair (.sl (.arr 64 (.int .u8))) (.pair (.sl (.st (.pair (.int .i64) (.pair (.arr 64 (.int .u8)) .unit)))) .unit)))
abbrev T45 : Ty := (.st (.pair T43 (.pair .bool (.pair .bool (.pair .bool .unit)))))
abbrev T48 : Ty := (.st (.pair (.int .i64) (.pair (.int .i64) (.pair (.int .i64) .unit))))
abbrev T50 : Ty := (.st (.pair T45 (.pair .bool (.pair (.sl T48) (.pair T48 .unit)))))
abbrev T65 : Ty := (.st (.pair (.int .i64) (.pair (.int .u64) (.pair (.int .i64) (.pair (.int .i64) (.pair (.int .i64) .unit))))))
abbrev T67 : Ty := (.st (.pair T65 (.pair (.int .i64) (.pair (.int .i64) (.pair (.sl (.int .u8)) (.pair T48 .unit))))))
abbrev T69 : Ty := (.st (.pair (.int .i64) (.pair (.int .i64) (.pair (.arr 16 (.int .u8)) (.pair (.int .i64) (.pair (.sl (.int .u8)) (.pair T67 (.pair T48 .unit))))))))
abbrev T74 : Ty := (.st (.pair (.int .i64) (.pair (.int .i64) (.pair (.sl (.int .u8)) .unit))))
abbrev T90 : Ty := (.st (.pair (.int .i64) (.pair (.arr 64 (.int .u8)) .unit)))
def tyTab : List (Nat × Ty) := [(2, (.int .i64)), (3, (.int .i64)), (4, .bool), (5, (.int .u8)), (6, (.int .u8)), (7, T7), (8, T7), (9, .str), (10, .str), (11, .str), (12, (.int .u64)), (13, T13), (14, T13), (21, (.int .i32)), (22, (.sl (.st (.pair (.int .i64) (.pair (.int .i64) (.pair (.arr 16 (.int .u8)) (.pair (.int .i64) (.pair (.sl (.int .u8)) (.pair (.st (.pair (.st (.pair (.int .i64) (.pair (.int .u64) (.pair (.int .i64) (.pair (.int .i64) (.pair (.int .i64) .unit)))))) (.pair (.int .i64) (.pair (.int .i64) (.pair (.sl (.int .u8)) (.pair (.st (.pair (.int .i64) (.pair (.int .i64) (.pair (.int .i64) .unit)))) .unit)))))) (.pair (.st (.pair (.int .i64) (.pair (.int .i64) (.pair (.int .i64) .unit)))) .unit)))))))))), (23, (.sl (.st (.pair (.int .i64) (.pair (.int .i64) (.pair (.sl (.int .u8)) .unit)))))), (24, T24), (25, T24), (26, (.sl (.st (.pair (.st (.pair (.st (.pair (.sl (.arr 64 (.int .u8))) (.pair (.sl (.st (.pair (.int .i64) (.pair (.arr 64 (.int .u8)) .unit)))) .unit))) (.pair .bool (.pair .bool (.pair .bool .unit))))) (.pair .bool (.pair (.sl (.st (.pair (.int .i64) (.pair (.int .i64) (.pair (.int .i64) .unit))))) (.pair (.st (.pair (.int .i64) (.pair (.int .i64) (.pair (.int .i64) .unit)))) .unit))))))), (27, T27), (28, T27), (38, (.sl (.int .i64))), (41, (.sl (.arr 64 (.int .u8)))), (42, (.sl (.st (.pair (.int .i64) (.pair (.arr 64 (.int .u8)) .unit))))), (43, T43), (44, T43), (45, T45), (46, T45), (47, (.sl (.st (.pair (.int .i64) (.pair (.int .i64) (.pair (.int .i64) .unit)))))), (48, T48), (49, T48), (50, T50), (51, T50), (62, (.arr 16 (.int .u8))), (63, (.sl (.int .u8))), (64, (.int .u64)), (65, T65), (66, T65), (67, T67), (68, T67), (69, T69), (70, T69), (71, (.int .i64)), (74, T74), (75, T74), (88, (.arr 64 (.int .u8))), (89, (.arr 64 (.int .u8))), (90, T90), (91, T90), (106, (.arr 2 (.int .u8))), (107, (.arr 2 (.int .u8))), (121, (.int .u64)), (131, (.int .u32)), (132, (.int .u8))]
theorem tab_ok : tabB Try.prog tyTab tyTab = true := by kernel_rfl
theorem pos_ok : posB Try.prog tyTab = true := by kernel_rfl
theorem hty : ∀ t τ, Re.look tyTab t = some τ → TyOk Try.prog (Re.look tyTab) t τ := fun _ _ h => tabB_ok tab_ok _ (look_mem h)
theorem hpos : ∀ t τ, Re.look tyTab t = some τ → 0 < Try.prog.bytesOf t ∧ 0 < τ.size := fun _ _ h => posB_ok pos_ok _ (look_mem h)
theorem mixed : Try.prog.follows .mixedOrders = true := by kernel_rfl
def bd (f : Func) : Code := match f.body with | some c => c | none => .skip
end Go.Proofs.Ytgceolpeegfkkaa
