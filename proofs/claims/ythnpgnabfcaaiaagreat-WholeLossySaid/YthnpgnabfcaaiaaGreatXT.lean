/- Types of the program, as data (printed). -/
import Derived.Test.YthnpgnabfcaaiaaGreatLib4
import Derived.Test.YthnpgnabfcaaiaaGreatXF
import Derived.Test.YthnpgnabfcaaiaaGreatProg
namespace Go.Proofs.YthnpgnabfcaaiaaGreat
open Go Go.Re
set_option linter.unusedVariables false
set_option maxRecDepth 100000
abbrev T7:Ty:=(.st (.pair (.int .i64) (.pair (.int .i64) (.pair .bool (.pair (.int .u8) .unit)))))
abbrev T13:Ty:=(.st (.pair .str (.pair (.int .u64) .unit)))
abbrev T22:Ty:=(.st (.pair (.int .i64) (.pair (.int .i64) (.pair (.int .i64) (.pair .bool (.pair .bool .unit))))))
abbrev T27:Ty:=(.st (.pair (.int .i64) (.pair (.int .i64) (.pair .bool (.pair (.int .i64) (.pair (.int .i64) .unit))))))
abbrev T29:Ty:=(.st (.pair (.int .i64) (.pair (.int .i64) (.pair (.int .i64) (.pair (.int .i64) (.pair (.int .i64) .unit))))))
abbrev T32:Ty:=(.st (.pair (.int .i64) (.pair T29 (.pair (.sl (.int .u8)) (.pair (.int .i64) (.pair .bool .unit))))))
abbrev T36:Ty:=(.st (.pair (.int .u32) (.pair (.int .u32) (.pair .bool (.pair (.int .i64) (.pair (.sl (.int .u8)) .unit))))))
abbrev T39:Ty:=(.st (.pair (.int .i64) (.pair (.int .u64) (.pair (.int .i64) (.pair (.int .i64) (.pair (.int .i64) .unit))))))
abbrev T41:Ty:=(.st (.pair (.int .i64) (.pair (.int .i64) (.pair (.int .i64) .unit))))
abbrev T43:Ty:=(.st (.pair T39 (.pair (.int .i64) (.pair (.int .i64) (.pair (.sl (.int .u8)) (.pair T41 .unit))))))
abbrev T45:Ty:=(.st (.pair (.int .i64) (.pair T36 (.pair (.sl (.int .u8)) (.pair T43 (.pair .bool (.pair (.int .i64) (.pair (.int .i64) (.pair (.int .i64) (.pair T41 (.pair .bool (.pair .bool .unit))))))))))))
abbrev T49:Ty:=(.st (.pair (.sl (.st (.pair (.int .i64) (.pair (.int .i64) (.pair (.arr 16 (.int .u8)) (.pair (.int .i64) (.pair (.sl (.int .u8)) (.pair T43 (.pair T41 .unit))))))))) (.pair (.sl (.st (.pair (.int .i64) (.pair (.int .i64) (.pair (.sl (.int .u8)) .unit))))) .unit)))
abbrev T51:Ty:=(.st (.pair T22 (.pair (.sl (.st (.pair (.st (.pair (.st (.pair (.sl (.arr 64 (.int .u8))) (.pair (.sl (.st (.pair (.int .i64) (.pair (.arr 64 (.int .u8)) .unit)))) .unit))) (.pair .bool (.pair .bool (.pair .bool .unit))))) (.pair .bool (.pair (.sl T41) (.pair T41 .unit)))))) (.pair T27 (.pair T32 (.pair (.sl (.st (.pair .bool (.pair (.int .i64) (.pair .bool (.pair (.int .i64) (.pair (.sl (.int .u8)) .unit))))))) (.pair T45 (.pair T49 .unit))))))))
abbrev T57:Ty:=(.st (.pair (.int .i64) (.pair (.int .i64) (.pair (.sl (.int .u8)) .unit))))
abbrev T61:Ty:=(.st (.pair (.int .i64) (.pair (.int .i64) (.pair (.int .i64) (.pair (.int .i64) (.pair (.int .i64) (.pair .bool (.pair (.int .i64) (.pair (.int .u64) (.pair (.sl (.int .u8)) .unit))))))))))
abbrev T67:Ty:=(.st (.pair .bool (.pair T36 (.pair (.int .i64) (.pair .bool .unit)))))
abbrev T69:Ty:=(.st (.pair (.int .u32) (.pair (.int .u32) (.pair (.int .i64) .unit))))
abbrev T76:Ty:=(.st (.pair T51 (.pair (.sl .bool) (.pair (.int .i64) .unit))))
abbrev T86:Ty:=(.st (.pair (.int .i64) (.pair (.int .i64) (.pair (.arr 16 (.int .u8)) (.pair (.int .i64) (.pair (.sl (.int .u8)) (.pair T43 (.pair T41 .unit))))))))
abbrev T97:Ty:=(.st (.pair (.sl (.arr 64 (.int .u8))) (.pair (.sl (.st (.pair (.int .i64) (.pair (.arr 64 (.int .u8)) .unit)))) .unit)))
abbrev T99:Ty:=(.st (.pair T97 (.pair .bool (.pair .bool (.pair .bool .unit)))))
abbrev T102:Ty:=(.st (.pair T99 (.pair .bool (.pair (.sl T41) (.pair T41 .unit)))))
abbrev T111:Ty:=(.st (.pair T51 (.pair T61 .unit)))
abbrev T114:Ty:=(.st (.pair .bool (.pair (.int .i64) (.pair .bool (.pair (.int .i64) (.pair (.sl (.int .u8)) .unit))))))
abbrev T126:Ty:=(.st (.pair (.int .i64) (.pair (.int .i64) (.pair (.sl (.int .u8)) (.pair T43 (.pair T41 .unit))))))
abbrev T195:Ty:=(.st (.pair (.int .i64) (.pair (.arr 64 (.int .u8)) .unit)))
abbrev T227:Ty:=(.st (.pair (.int .i64) (.pair (.int .i64) .unit)))
abbrev T277:Ty:=(.st (.pair T45 (.pair (.sl T102) (.pair .bool .unit))))
abbrev T288:Ty:=(.st (.pair T49 (.pair (.sl T102) (.pair T22 .unit))))
abbrev T300:Ty:=(.st (.pair (.int .i64) (.pair (.int .i64) (.pair (.int .i64) (.pair (.int .i64) .unit)))))
abbrev T349:Ty:=(.st (.pair (.int .i64) (.pair (.int .i64) (.pair .bool (.pair .bool .unit)))))
abbrev T408:Ty:=(.st (.pair T102 (.pair T43 .unit)))
abbrev T428:Ty:=(.st (.pair T300 (.pair T300 (.pair T300 (.pair T300 (.pair (.mp T300 (.int .u64)) .unit))))))
abbrev T444:Ty:=(.st (.pair T102 (.pair T39 (.pair (.int .i64) (.pair (.int .i64) .unit)))))
def tyTab:List (Nat×Ty):=[(2,(.int .i64)),(3,(.int .i64)),(4,.bool),(5,(.int .u8)),(6,(.int .u8)),(7,T7),(8,T7),(9,.str),(10,.str),(11,.str),(12,(.int .u64)),(13,T13),(14,T13),(21,(.int .i32)),(22,T22),(23,T22),(24,(.sl (.st (.pair (.int .i64) (.pair (.int .i64) (.pair (.int .i64) (.pair (.int .i64) (.pair (.int .i64) (.pair .bool (.pair (.int .i64) (.pair (.int .u64) (.pair (.sl (.int .u8)) .unit)))))))))))),(26,(.sl (.st (.pair (.st (.pair (.st (.pair (.sl (.arr 64 (.int .u8))) (.pair (.sl (.st (.pair (.int .i64) (.pair (.arr 64 (.int .u8)) .unit)))) .unit))) (.pair .bool (.pair .bool (.pair .bool .unit))))) (.pair .bool (.pair (.sl (.st (.pair (.int .i64) (.pair (.int .i64) (.pair (.int .i64) .unit))))) (.pair (.st (.pair (.int .i64) (.pair (.int .i64) (.pair (.int .i64) .unit)))) .unit))))))),(27,T27),(28,T27),(29,T29),(30,T29),(31,(.sl (.int .u8))),(32,T32),(33,T32),(34,(.sl (.st (.pair .bool (.pair (.int .i64) (.pair .bool (.pair (.int .i64) (.pair (.sl (.int .u8)) .unit)))))))),(35,(.int .u32)),(36,T36),(37,T36),(38,(.int .u64)),(39,T39),(40,T39),(41,T41),(42,T41),(43,T43),(44,T43),(45,T45),(46,T45),(47,(.sl (.st (.pair (.int .i64) (.pair (.int .i64) (.pair (.arr 16 (.int .u8)) (.pair (.int .i64) (.pair (.sl (.int .u8)) (.pair T43 (.pair T41 .unit)))))))))),(48,(.sl (.st (.pair (.int .i64) (.pair (.int .i64) (.pair (.sl (.int .u8)) .unit)))))),(49,T49),(50,T49),(51,T51),(52,T51),(53,(.int .i64)),(57,T57),(58,T57),(61,T61),(62,T61),(67,T67),(68,T67),(69,T69),(70,T69),(75,(.sl .bool)),(76,T76),(77,T76),(85,(.arr 16 (.int .u8))),(86,T86),(87,T86),(93,(.sl (.sl (.arr 64 (.int .u8))))),(95,(.sl (.arr 64 (.int .u8)))),(96,(.sl (.st (.pair (.int .i64) (.pair (.arr 64 (.int .u8)) .unit))))),(97,T97),(98,T97),(99,T99),(100,T99),(101,(.sl T41)),(102,T102),(103,T102),(111,T111),(112,T111),(114,T114),(115,T114),(126,T126),(127,T126),(178,(.sl (.sl T61))),(179,(.sl T29)),(185,(.arr 3 (.int .i64))),(188,(.int .u64)),(191,(.arr 64 (.int .u8))),(192,(.arr 64 (.int .u8))),(195,T195),(196,T195),(227,T227),(228,T227),(255,(.int .u16)),(256,(.sl (.sl (.int .u8)))),(277,T277),(278,T277),(288,T288),(289,T288),(292,T57),(293,T57),(300,T300),(301,T300),(322,(.sl (.int .i64))),(344,(.arr 2 (.int .i64))),(346,(.arr 2 (.sl (.int .u8)))),(349,T349),(350,T349),(368,(.arr 2 (.int .u8))),(390,(.arr 20 (.int .u8))),(391,(.arr 12 (.int .u8))),(397,T227),(398,T227),(399,(.mp T227 (.int .i64))),(408,T408),(409,T408),(420,(.sl .str)),(425,T300),(426,T300),(427,(.mp T300 (.int .u64))),(428,T428),(429,T428),(439,(.sl (.sl T86))),(444,T444),(445,T444),(459,(.int .u8)),(460,(.int .u8)),(463,(.int .i32)),(464,(.int .i32))]
theorem tab_ok:tabB Tryz.prog tyTab tyTab=true:=by kernel_rfl
def tyTabA:List (Nat×Ty):=[(2,(.int .i64)),(3,(.int .i64)),(4,.bool),(5,(.int .u8)),(6,(.int .u8)),(7,T7),(8,T7),(9,.str),(10,.str),(11,.str),(12,(.int .u64)),(13,T13),(14,T13),(21,(.int .i32)),(22,T22),(23,T22),(24,(.sl (.st (.pair (.int .i64) (.pair (.int .i64) (.pair (.int .i64) (.pair (.int .i64) (.pair (.int .i64) (.pair .bool (.pair (.int .i64) (.pair (.int .u64) (.pair (.sl (.int .u8)) .unit)))))))))))),(26,(.sl (.st (.pair (.st (.pair (.st (.pair (.sl (.arr 64 (.int .u8))) (.pair (.sl (.st (.pair (.int .i64) (.pair (.arr 64 (.int .u8)) .unit)))) .unit))) (.pair .bool (.pair .bool (.pair .bool .unit))))) (.pair .bool (.pair (.sl (.st (.pair (.int .i64) (.pair (.int .i64) (.pair (.int .i64) .unit))))) (.pair (.st (.pair (.int .i64) (.pair (.int .i64) (.pair (.int .i64) .unit)))) .unit))))))),(27,T27),(28,T27),(29,T29),(30,T29),(31,(.sl (.int .u8))),(32,T32),(33,T32),(34,(.sl (.st (.pair .bool (.pair (.int .i64) (.pair .bool (.pair (.int .i64) (.pair (.sl (.int .u8)) .unit)))))))),(35,(.int .u32)),(36,T36),(37,T36),(38,(.int .u64)),(39,T39),(40,T39),(41,T41),(42,T41),(43,T43),(44,T43),(45,T45),(46,T45),(47,(.sl (.st (.pair (.int .i64) (.pair (.int .i64) (.pair (.arr 16 (.int .u8)) (.pair (.int .i64) (.pair (.sl (.int .u8)) (.pair T43 (.pair T41 .unit)))))))))),(48,(.sl (.st (.pair (.int .i64) (.pair (.int .i64) (.pair (.sl (.int .u8)) .unit)))))),(49,T49),(50,T49),(51,T51),(52,T51),(53,(.int .i64)),(57,T57),(58,T57),(61,T61),(62,T61),(67,T67),(68,T67),(69,T69),(70,T69),(75,(.sl .bool)),(76,T76),(77,T76),(85,(.arr 16 (.int .u8))),(86,T86),(87,T86),(93,(.sl (.sl (.arr 64 (.int .u8))))),(95,(.sl (.arr 64 (.int .u8)))),(96,(.sl (.st (.pair (.int .i64) (.pair (.arr 64 (.int .u8)) .unit))))),(97,T97),(98,T97),(99,T99),(100,T99),(101,(.sl T41)),(102,T102),(103,T102),(111,T111),(112,T111),(114,T114),(115,T114),(126,T126),(127,T126),(178,(.sl (.sl T61))),(179,(.sl T29)),(185,(.arr 3 (.int .i64))),(188,(.int .u64)),(191,(.arr 64 (.int .u8))),(192,(.arr 64 (.int .u8))),(195,T195),(196,T195),(227,T227),(228,T227),(255,(.int .u16)),(256,(.sl (.sl (.int .u8)))),(277,T277),(278,T277),(288,T288),(289,T288),(292,T57),(293,T57),(300,T300),(301,T300),(322,(.sl (.int .i64))),(344,(.arr 2 (.int .i64))),(346,(.arr 2 (.sl (.int .u8)))),(349,T349),(350,T349),(368,(.arr 2 (.int .u8))),(390,(.arr 20 (.int .u8))),(391,(.arr 12 (.int .u8))),(397,T227),(398,T227),(408,T408),(409,T408),(420,(.sl .str)),(425,T300),(426,T300),(439,(.sl (.sl T86))),(444,T444),(445,T444),(459,(.int .u8)),(460,(.int .u8)),(463,(.int .i32)),(464,(.int .i32))]
theorem tabA_ok:tabB Tryz.prog tyTabA tyTabA=true:=by kernel_rfl
theorem pos_ok:posB Tryz.prog tyTabA=true:=by kernel_rfl
theorem hty:∀t τ,Re.look tyTabA t=some τ→TyOk Tryz.prog (Re.look tyTabA) t τ:=fun _ _ h=>tabB_ok tabA_ok _ (look_mem h)
theorem hpos:∀t τ,Re.look tyTabA t=some τ→0<Tryz.prog.bytesOf t∧0<τ.size∧τ.isMap=false:=fun _ _ h=>posB_ok pos_ok _ (look_mem h)
theorem mixed:Tryz.prog.follows .mixedOrders=true:=by kernel_rfl
end Go.Proofs.YthnpgnabfcaaiaaGreat
