/- Each function does what its plain one tells. Printed by the session's own program. -/
import Derived.Test.YtgceolpeegfkkaaXT
import Derived.Test.YtgceolpeegfkkaaXF
namespace Go.Proofs.Ytgceolpeegfkkaa
open Go Go.Re
set_option linter.unusedVariables false
set_option linter.unusedSimpArgs false
set_option maxRecDepth 100000
set_option maxHeartbeats 1000000
/-! reticuleref04_Of: function 26 -/
noncomputable def reticuleref04_Of_fns : List (Nat × Fun) := []
noncomputable def reticuleref04_Of_E : Env := { ty := Re.look tyTab, eq := fun n => memB n [], fn := Re.look reticuleref04_Of_fns, cut := fun n => memB n [], win := fun n => memB n [], one := fun n => memB n [], onc := fun n => memB n [], pre := fun n => memB n [], ptr := fun n => memB n [], psl := fun n => memB n [], parr := Re.look [], mpt := Re.look [], lnd := fun n => memB n [] }
noncomputable def reticuleref04_Of_an : An (Ds ((([.cell 6 T48] : List RV).map RV.pm).map (·.1) ++ ioTys [.val (.int .i64), .val (.int .i64), .val (.int .i64)])) :=
(.seq (.rg [] none)
(.seq (.rg [] none)
.leaf))
theorem reticuleref04_Of_Eok : EnvOk Try.prog reticuleref04_Of_E := env_ok tab_ok (by simp) (allFn_mem (show AllFn Try.prog reticuleref04_Of_fns from trivial)) mixed (by kernel_rfl) (by kernel_rfl) (by kernel_rfl) (by kernel_rfl)
theorem reticuleref04_Of_eq (x : Int × Int × Int) : evF reticuleref04_Of_E 11 (bd Try.f26) [.val (.int .i64), .val (.int .i64), .val (.int .i64)] [.cell 6 T48] reticuleref04_Of_an x = reticuleref04_Of x := by kernel_rfl
theorem reticuleref04_Of_ok : FnOk Try.prog 26 { args := [.val (.int .i64), .val (.int .i64), .val (.int .i64)], res := [(T48, .view)], f := reticuleref04_Of } :=
  fn_ok reticuleref04_Of_Eok Try.func26 rfl (by kernel_rfl) (by kernel_rfl) (by kernel_rfl) (rs := [.cell 6 T48]) (c := bd Try.f26) (an := reticuleref04_Of_an) (ob_flat _ _ _ _ _ _ _ (by kernel_rfl)) reticuleref04_Of_eq
/-! reticuleref02_Make: function 53 -/
noncomputable def reticuleref02_Make_fns : List (Nat × Fun) := []
noncomputable def reticuleref02_Make_E : Env := { ty := Re.look tyTab, eq := fun n => memB n [], fn := Re.look reticuleref02_Make_fns, cut := fun n => memB n [], win := fun n => memB n [], one := fun n => memB n [], onc := fun n => memB n [], pre := fun n => memB n [], ptr := fun n => memB n [], psl := fun n => memB n [], parr := Re.look [], mpt := Re.look [], lnd := fun n => memB n [] }
noncomputable def reticuleref02_Make_an : An (Ds ((([.tmp 4 ((.sl (.arr 64 (.int .u8))), .full), .tmp 5 ((.int .i64), .view)] : List RV).map RV.pm).map (·.1) ++ ioTys [.val (.int .i64), .val (.int .u8)])) :=
(.seq (.rg [] none)
(.seq (.seq (.rg [] (some (.op ⟨[], []⟩ (.op ⟨[], []⟩ (.op ⟨[], []⟩ (.split 11 [(14, .bool)] (.op ⟨[], []⟩ (.op ⟨[], []⟩ (.op ⟨[], []⟩ .done))) .done))))))
(.cond (.seq (.rg [] none)
.leaf) .leaf))
(.seq (.rg [] none)
(.seq (.seq (.rg [] none)
(.loop [.val 0 (.int .i64), .val 1 (.int .u8), .row 6 (.arr 64 (.int .u8)) .full, .val 7 (.int .i64)] [.row 6 (.arr 64 (.int .u8)) .full] reticuleref02_Make_L0
(.seq (.seq (.rg [] none)
(.cond .leaf .leaf))
(.seq (.block (.seq (.rg [] none)
(.loop [.val 0 (.int .i64), .val 1 (.int .u8), .row 6 (.arr 64 (.int .u8)) .full, .val 7 (.int .i64), .val 8 (.int .i64)] [.val 0 (.int .i64), .val 1 (.int .u8), .row 6 (.arr 64 (.int .u8)) .full, .val 7 (.int .i64)] reticuleref02_Make_L1
(.seq (.seq (.rg [] none)
(.cond .leaf .leaf))
(.seq (.block (.rg [] none))
(.rg [] none))))))
(.rg [] none)))))
(.seq (.rg [] none)
.leaf)))))
theorem reticuleref02_Make_Eok : EnvOk Try.prog reticuleref02_Make_E := env_ok tab_ok (by simp) (allFn_mem (show AllFn Try.prog reticuleref02_Make_fns from trivial)) mixed (by kernel_rfl) (by kernel_rfl) (by kernel_rfl) (by kernel_rfl)
theorem reticuleref02_Make_eq (x : Int × (BitVec 8)) : evF reticuleref02_Make_E 33 (bd Try.f53) [.val (.int .i64), .val (.int .u8)] [.tmp 4 ((.sl (.arr 64 (.int .u8))), .full), .tmp 5 ((.int .i64), .view)] reticuleref02_Make_an x = reticuleref02_Make x := by kernel_rfl
theorem reticuleref02_Make_ok : FnOk Try.prog 53 { args := [.val (.int .i64), .val (.int .u8)], res := [((.sl (.arr 64 (.int .u8))), .full), ((.int .i64), .view)], f := reticuleref02_Make } :=
  fn_ok reticuleref02_Make_Eok Try.func53 rfl (by kernel_rfl) (by kernel_rfl) (by kernel_rfl) (rs := [.tmp 4 ((.sl (.arr 64 (.int .u8))), .full), .tmp 5 ((.int .i64), .view)]) (c := bd Try.f53) (an := reticuleref02_Make_an) (show obF reticuleref02_Make_E 33 (bd Try.f53) [.val (.int .i64), .val (.int .u8)] [.tmp 4 ((.sl (.arr 64 (.int .u8))), .full), .tmp 5 ((.int .i64), .view)] reticuleref02_Make_an from (And.intro trivial (And.intro (And.intro trivial (And.intro (And.intro trivial trivial) trivial)) (And.intro trivial (And.intro (And.intro trivial (And.intro (fun _ => rfl) (And.intro (fun n j => by kernel_rfl) (fun n => (And.intro (And.intro trivial (And.intro trivial trivial)) (And.intro (And.intro trivial (And.intro (fun _ => rfl) (And.intro (fun n j => by kernel_rfl) (fun n => (And.intro (And.intro trivial (And.intro trivial trivial)) (And.intro trivial trivial)))))) trivial)))))) (And.intro trivial trivial)))))) reticuleref02_Make_eq
/-! reticuleref12_Make: function 28 -/
noncomputable def reticuleref12_Make_fns : List (Nat × Fun) := [(26, { args := [.val (.int .i64), .val (.int .i64), .val (.int .i64)], res := [(T48, .view)], f := reticuleref04_Of }), (53, { args := [.val (.int .i64), .val (.int .u8)], res := [((.sl (.arr 64 (.int .u8))), .full), ((.int .i64), .view)], f := reticuleref02_Make })]
noncomputable def reticuleref12_Make_E : Env := { ty := Re.look tyTab, eq := fun n => memB n [], fn := Re.look reticuleref12_Make_fns, cut := fun n => memB n [], win := fun n => memB n [], one := fun n => memB n [], onc := fun n => memB n [], pre := fun n => memB n [], ptr := fun n => memB n [], psl := fun n => memB n [], parr := Re.look [], mpt := Re.look [], lnd := fun n => memB n [] }
noncomputable def reticuleref12_Make_an : An (Ds ((([.tmp 4 ((.sl T50), .full), .tmp 5 ((.int .i64), .view)] : List RV).map RV.pm).map (·.1) ++ ioTys [.val (.int .i64), .val (.int .i64)])) :=
(.seq (.rg [] none)
(.seq (.seq (.rg [] (some (.op ⟨[], []⟩ (.op ⟨[], []⟩ (.op ⟨[], []⟩ (.split 11 [(14, .bool)] (.op ⟨[], []⟩ (.op ⟨[], []⟩ (.op ⟨[], []⟩ .done))) (.op ⟨[], []⟩ (.split 15 [(18, .bool)] (.op ⟨[], []⟩ (.op ⟨[], []⟩ (.op ⟨[], []⟩ .done))) (.op ⟨[], []⟩ (.split 19 [(22, .bool)] (.op ⟨[], []⟩ (.op ⟨[], []⟩ (.op ⟨[], []⟩ .done))) .done))))))))))
(.cond (.seq (.rg [] none)
.leaf) .leaf))
(.seq (.rg [] none)
(.seq (.seq (.rg [] none)
(.loop [.val 0 (.int .i64), .val 1 (.int .i64), .row 6 T50 .full, .val 7 (.int .i64)] [.row 6 T50 .full] reticuleref12_Make_L0
(.seq (.seq (.rg [] none)
(.cond .leaf .leaf))
(.seq (.block (.seq (.rg [] none)
(.seq (.rg [] none)
(.seq (.rg [] none)
(.rg [] none)))))
(.rg [] none)))))
(.seq (.rg [] none)
.leaf)))))
theorem reticuleref12_Make_Eok : EnvOk Try.prog reticuleref12_Make_E := env_ok tab_ok (by simp) (allFn_mem (show AllFn Try.prog reticuleref12_Make_fns from ⟨reticuleref04_Of_ok, reticuleref02_Make_ok, trivial⟩)) mixed (by kernel_rfl) (by kernel_rfl) (by kernel_rfl) (by kernel_rfl)
theorem reticuleref12_Make_eq (x : Int × Int) : evF reticuleref12_Make_E 46 (bd Try.f28) [.val (.int .i64), .val (.int .i64)] [.tmp 4 ((.sl T50), .full), .tmp 5 ((.int .i64), .view)] reticuleref12_Make_an x = reticuleref12_Make x := by kernel_rfl
theorem reticuleref12_Make_ok : FnOk Try.prog 28 { args := [.val (.int .i64), .val (.int .i64)], res := [((.sl T50), .full), ((.int .i64), .view)], f := reticuleref12_Make } :=
  fn_ok reticuleref12_Make_Eok Try.func28 rfl (by kernel_rfl) (by kernel_rfl) (by kernel_rfl) (rs := [.tmp 4 ((.sl T50), .full), .tmp 5 ((.int .i64), .view)]) (c := bd Try.f28) (an := reticuleref12_Make_an) (show obF reticuleref12_Make_E 46 (bd Try.f28) [.val (.int .i64), .val (.int .i64)] [.tmp 4 ((.sl T50), .full), .tmp 5 ((.int .i64), .view)] reticuleref12_Make_an from (And.intro trivial (And.intro (And.intro trivial (And.intro (And.intro trivial trivial) trivial)) (And.intro trivial (And.intro (And.intro trivial (And.intro (fun _ => rfl) (And.intro (fun n j => by kernel_rfl) (fun n => (And.intro (And.intro trivial (And.intro trivial trivial)) (And.intro (And.intro trivial (And.intro trivial (And.intro trivial trivial))) trivial)))))) (And.intro trivial trivial)))))) reticuleref12_Make_eq
/-! reticuleref22_two: function 71 -/
noncomputable def reticuleref22_two_fns : List (Nat × Fun) := []
noncomputable def reticuleref22_two_E : Env := { ty := Re.look tyTab, eq := fun n => memB n [], fn := Re.look reticuleref22_two_fns, cut := fun n => memB n [], win := fun n => memB n [], one := fun n => memB n [], onc := fun n => memB n [], pre := fun n => memB n [], ptr := fun n => memB n [], psl := fun n => memB n [], parr := Re.look [], mpt := Re.look [], lnd := fun n => memB n [] }
noncomputable def reticuleref22_two_an : An (Ds ((([.tmp 2 ((.sl (.int .u8)), .full)] : List RV).map RV.pm).map (·.1) ++ ioTys [.val (.int .i64)])) :=
(.seq (.rg [] none)
(.seq (.rg [] none)
.leaf))
theorem reticuleref22_two_Eok : EnvOk Try.prog reticuleref22_two_E := env_ok tab_ok (by simp) (allFn_mem (show AllFn Try.prog reticuleref22_two_fns from trivial)) mixed (by kernel_rfl) (by kernel_rfl) (by kernel_rfl) (by kernel_rfl)
theorem reticuleref22_two_eq (x : Int) : evF reticuleref22_two_E 11 (bd Try.f71) [.val (.int .i64)] [.tmp 2 ((.sl (.int .u8)), .full)] reticuleref22_two_an x = reticuleref22_two x := by kernel_rfl
theorem reticuleref22_two_ok : FnOk Try.prog 71 { args := [.val (.int .i64)], res := [((.sl (.int .u8)), .full)], f := reticuleref22_two } :=
  fn_ok reticuleref22_two_Eok Try.func71 rfl (by kernel_rfl) (by kernel_rfl) (by kernel_rfl) (rs := [.tmp 2 ((.sl (.int .u8)), .full)]) (c := bd Try.f71) (an := reticuleref22_two_an) (ob_flat _ _ _ _ _ _ _ (by kernel_rfl)) reticuleref22_two_eq
/-! reticuleref22_head: function 54 -/
noncomputable def reticuleref22_head_fns : List (Nat × Fun) := [(71, { args := [.val (.int .i64)], res := [((.sl (.int .u8)), .full)], f := reticuleref22_two })]
noncomputable def reticuleref22_head_E : Env := { ty := Re.look tyTab, eq := fun n => memB n [], fn := Re.look reticuleref22_head_fns, cut := fun n => memB n [], win := fun n => memB n [], one := fun n => memB n [], onc := fun n => memB n [], pre := fun n => memB n [], ptr := fun n => memB n [], psl := fun n => memB n [], parr := Re.look [], mpt := Re.look [], lnd := fun n => memB n [] }
noncomputable def reticuleref22_head_an : An (Ds ((([.tmp 4 ((.sl (.int .u8)), .full)] : List RV).map RV.pm).map (·.1) ++ ioTys [.val (.int .u8), .val (.int .i64)])) :=
(.seq (.rg [] none)
(.seq (.rg [] none)
.leaf))
theorem reticuleref22_head_Eok : EnvOk Try.prog reticuleref22_head_E := env_ok tab_ok (by simp) (allFn_mem (show AllFn Try.prog reticuleref22_head_fns from ⟨reticuleref22_two_ok, trivial⟩)) mixed (by kernel_rfl) (by kernel_rfl) (by kernel_rfl) (by kernel_rfl)
theorem reticuleref22_head_eq (x : (BitVec 8) × Int) : evF reticuleref22_head_E 10 (bd Try.f54) [.val (.int .u8), .val (.int .i64)] [.tmp 4 ((.sl (.int .u8)), .full)] reticuleref22_head_an x = reticuleref22_head x := by kernel_rfl
theorem reticuleref22_head_ok : FnOk Try.prog 54 { args := [.val (.int .u8), .val (.int .i64)], res := [((.sl (.int .u8)), .full)], f := reticuleref22_head } :=
  fn_ok reticuleref22_head_Eok Try.func54 rfl (by kernel_rfl) (by kernel_rfl) (by kernel_rfl) (rs := [.tmp 4 ((.sl (.int .u8)), .full)]) (c := bd Try.f54) (an := reticuleref22_head_an) (ob_flat _ _ _ _ _ _ _ (by kernel_rfl)) reticuleref22_head_eq
/-! reticuleref22_Ready: function 29 -/
noncomputable def reticuleref22_Ready_fns : List (Nat × Fun) := [(54, { args := [.val (.int .u8), .val (.int .i64)], res := [((.sl (.int .u8)), .full)], f := reticuleref22_head })]
noncomputable def reticuleref22_Ready_E : Env := { ty := Re.look tyTab, eq := fun n => memB n [], fn := Re.look reticuleref22_Ready_fns, cut := fun n => memB n [], win := fun n => memB n [], one := fun n => memB n [], onc := fun n => memB n [], pre := fun n => memB n [], ptr := fun n => memB n [], psl := fun n => memB n [], parr := Re.look [], mpt := Re.look [], lnd := fun n => memB n [] }
noncomputable def reticuleref22_Ready_an : An (Ds ((([.cell 4 T74] : List RV).map RV.pm).map (·.1) ++ ioTys [.val (.int .i64), .val (.int .i64)])) :=
(.seq (.rg [] none)
(.seq (.rg [] none)
(.join [.val 0 (.int .i64), .box 4 T74, .val 5 (.int .i64)]
(.seq (.rg [] none)
(.cond (.rg [] none) .leaf))
(.seq (.rg [] none)
.leaf))))
theorem reticuleref22_Ready_Eok : EnvOk Try.prog reticuleref22_Ready_E := env_ok tab_ok (by simp) (allFn_mem (show AllFn Try.prog reticuleref22_Ready_fns from ⟨reticuleref22_head_ok, trivial⟩)) mixed (by kernel_rfl) (by kernel_rfl) (by kernel_rfl) (by kernel_rfl)
theorem reticuleref22_Ready_eq (x : Int × Int) : evF reticuleref22_Ready_E 15 (bd Try.f29) [.val (.int .i64), .val (.int .i64)] [.cell 4 T74] reticuleref22_Ready_an x = reticuleref22_Ready x := by kernel_rfl
theorem reticuleref22_Ready_ok : FnOk Try.prog 29 { args := [.val (.int .i64), .val (.int .i64)], res := [(T74, .view)], f := reticuleref22_Ready } :=
  fn_ok reticuleref22_Ready_Eok Try.func29 rfl (by kernel_rfl) (by kernel_rfl) (by kernel_rfl) (rs := [.cell 4 T74]) (c := bd Try.f29) (an := reticuleref22_Ready_an) (ob_flat _ _ _ _ _ _ _ (by kernel_rfl)) reticuleref22_Ready_eq
/-! reticuleref22_Response: function 30 -/
noncomputable def reticuleref22_Response_fns : List (Nat × Fun) := [(54, { args := [.val (.int .u8), .val (.int .i64)], res := [((.sl (.int .u8)), .full)], f := reticuleref22_head })]
noncomputable def reticuleref22_Response_E : Env := { ty := Re.look tyTab, eq := fun n => memB n [], fn := Re.look reticuleref22_Response_fns, cut := fun n => memB n [], win := fun n => memB n [], one := fun n => memB n [], onc := fun n => memB n [], pre := fun n => memB n [], ptr := fun n => memB n [], psl := fun n => memB n [], parr := Re.look [], mpt := Re.look [], lnd := fun n => memB n [] }
noncomputable def reticuleref22_Response_an : An (Ds ((([.cell 4 T74] : List RV).map RV.pm).map (·.1) ++ ioTys [.val (.int .i64), .val (.int .i64)])) :=
(.seq (.rg [] none)
(.seq (.rg [] none)
.leaf))
theorem reticuleref22_Response_Eok : EnvOk Try.prog reticuleref22_Response_E := env_ok tab_ok (by simp) (allFn_mem (show AllFn Try.prog reticuleref22_Response_fns from ⟨reticuleref22_head_ok, trivial⟩)) mixed (by kernel_rfl) (by kernel_rfl) (by kernel_rfl) (by kernel_rfl)
theorem reticuleref22_Response_eq (x : Int × Int) : evF reticuleref22_Response_E 14 (bd Try.f30) [.val (.int .i64), .val (.int .i64)] [.cell 4 T74] reticuleref22_Response_an x = reticuleref22_Response x := by kernel_rfl
theorem reticuleref22_Response_ok : FnOk Try.prog 30 { args := [.val (.int .i64), .val (.int .i64)], res := [(T74, .view)], f := reticuleref22_Response } :=
  fn_ok reticuleref22_Response_Eok Try.func30 rfl (by kernel_rfl) (by kernel_rfl) (by kernel_rfl) (rs := [.cell 4 T74]) (c := bd Try.f30) (an := reticuleref22_Response_an) (ob_flat _ _ _ _ _ _ _ (by kernel_rfl)) reticuleref22_Response_eq
/-! tags_may: function 56 -/
noncomputable def tags_may_fns : List (Nat × Fun) := []
noncomputable def tags_may_E : Env := { ty := Re.look tyTab, eq := fun n => memB n [], fn := Re.look tags_may_fns, cut := fun n => memB n [], win := fun n => memB n [], one := fun n => memB n [], onc := fun n => memB n [], pre := fun n => memB n [], ptr := fun n => memB n [], psl := fun n => memB n [], parr := Re.look [], mpt := Re.look [], lnd := fun n => memB n [] }
noncomputable def tags_may_an : An (Ds ((([.tmp 2 (.bool, .view)] : List RV).map RV.pm).map (·.1) ++ ioTys [.val (.int .i64)])) :=
(.seq (.rg [] none)
(.seq (.rg [] (some (.op ⟨[], []⟩ (.op ⟨[], []⟩ (.op ⟨[], []⟩ (.split 5 [(8, .bool)] (.op ⟨[], []⟩ (.op ⟨[], []⟩ (.op ⟨[], []⟩ .done))) (.op ⟨[], []⟩ .done)))))))
.leaf))
theorem tags_may_Eok : EnvOk Try.prog tags_may_E := env_ok tab_ok (by simp) (allFn_mem (show AllFn Try.prog tags_may_fns from trivial)) mixed (by kernel_rfl) (by kernel_rfl) (by kernel_rfl) (by kernel_rfl)
theorem tags_may_eq (x : Int) : evF tags_may_E 9 (bd Try.f56) [.val (.int .i64)] [.tmp 2 (.bool, .view)] tags_may_an x = tags_may x := by kernel_rfl
theorem tags_may_ok : FnOk Try.prog 56 { args := [.val (.int .i64)], res := [(.bool, .view)], f := tags_may } :=
  fn_ok tags_may_Eok Try.func56 rfl (by kernel_rfl) (by kernel_rfl) (by kernel_rfl) (rs := [.tmp 2 (.bool, .view)]) (c := bd Try.f56) (an := tags_may_an) (ob_flat _ _ _ _ _ _ _ (by kernel_rfl)) tags_may_eq
/-! tags_of: function 60 -/
noncomputable def tags_of_fns : List (Nat × Fun) := []
noncomputable def tags_of_E : Env := { ty := Re.look tyTab, eq := fun n => memB n [], fn := Re.look tags_of_fns, cut := fun n => memB n [], win := fun n => memB n [], one := fun n => memB n [], onc := fun n => memB n [], pre := fun n => memB n [], ptr := fun n => memB n [], psl := fun n => memB n [], parr := Re.look [], mpt := Re.look [], lnd := fun n => memB n [] }
noncomputable def tags_of_an : An (Ds ((([.cell 2 (.arr 2 (.int .u8))] : List RV).map RV.pm).map (·.1) ++ ioTys [.val (.int .i64)])) :=
(.seq (.rg [] none)
(.seq (.rg [] none)
.leaf))
theorem tags_of_Eok : EnvOk Try.prog tags_of_E := env_ok tab_ok (by simp) (allFn_mem (show AllFn Try.prog tags_of_fns from trivial)) mixed (by kernel_rfl) (by kernel_rfl) (by kernel_rfl) (by kernel_rfl)
theorem tags_of_eq (x : Int) : evF tags_of_E 9 (bd Try.f60) [.val (.int .i64)] [.cell 2 (.arr 2 (.int .u8))] tags_of_an x = tags_of x := by kernel_rfl
theorem tags_of_ok : FnOk Try.prog 60 { args := [.val (.int .i64)], res := [((.arr 2 (.int .u8)), .view)], f := tags_of } :=
  fn_ok tags_of_Eok Try.func60 rfl (by kernel_rfl) (by kernel_rfl) (by kernel_rfl) (rs := [.cell 2 (.arr 2 (.int .u8))]) (c := bd Try.f60) (an := tags_of_an) (ob_flat _ _ _ _ _ _ _ (by kernel_rfl)) tags_of_eq
/-! tags_places: function 59 -/
noncomputable def tags_places_fns : List (Nat × Fun) := [(56, { args := [.val (.int .i64)], res := [(.bool, .view)], f := tags_may }), (60, { args := [.val (.int .i64)], res := [((.arr 2 (.int .u8)), .view)], f := tags_of })]
noncomputable def tags_places_E : Env := { ty := Re.look tyTab, eq := fun n => memB n [], fn := Re.look tags_places_fns, cut := fun n => memB n [], win := fun n => memB n [], one := fun n => memB n [], onc := fun n => memB n [], pre := fun n => memB n [], ptr := fun n => memB n [], psl := fun n => memB n [], parr := Re.look [], mpt := Re.look [(104, ((.arr 2 (.int .u8)), (.int .i64)))], lnd := fun n => memB n [] }
noncomputable def tags_places_an : An (Ds ((([.tmp 2 ((.sl (.pair (.arr 2 (.int .u8)) (.int .i64))), .mp)] : List RV).map RV.pm).map (·.1) ++ ioTys [.val (.sl T69)])) :=
(.seq (.rg [] none)
(.seq (.rg [] none)
(.seq (.seq (.rg [] none)
(.loop [.val 0 (.sl T69), .row 3 (.pair (.arr 2 (.int .u8)) (.int .i64)) .mp, .val 4 (.int .i64)] [.row 3 (.pair (.arr 2 (.int .u8)) (.int .i64)) .mp] tags_places_L0
(.seq (.seq (.rg [] none)
(.cond .leaf .leaf))
(.join [.val 0 (.sl T69), .row 3 (.pair (.arr 2 (.int .u8)) (.int .i64)) .mp, .val 4 (.int .i64)]
(.block (.seq (.rg [] none)
(.cond (.rg [] none) .leaf)))
(.rg [] none)))))
(.seq (.rg [] none)
.leaf))))
theorem tags_places_Eok : EnvOk Try.prog tags_places_E := env_ok tab_ok (by simp) (allFn_mem (show AllFn Try.prog tags_places_fns from ⟨tags_may_ok, tags_of_ok, trivial⟩)) mixed (by kernel_rfl) (by kernel_rfl) (by kernel_rfl) (by kernel_rfl)
theorem tags_places_eq (x : (List (Int × (Int × (List (BitVec 8) × (Int × (List (BitVec 8) × (((Int × (BitVec 64 × (Int × (Int × (Int × Unit))))) × (Int × (Int × (List (BitVec 8) × ((Int × (Int × (Int × Unit))) × Unit))))) × ((Int × (Int × (Int × Unit))) × Unit))))))))) : evF tags_places_E 30 (bd Try.f59) [.val (.sl T69)] [.tmp 2 ((.sl (.pair (.arr 2 (.int .u8)) (.int .i64))), .mp)] tags_places_an x = tags_places x := by kernel_rfl
theorem tags_places_ok : FnOk Try.prog 59 { args := [.val (.sl T69)], res := [((.sl (.pair (.arr 2 (.int .u8)) (.int .i64))), .mp)], f := tags_places } :=
  fn_ok tags_places_Eok Try.func59 rfl (by kernel_rfl) (by kernel_rfl) (by kernel_rfl) (rs := [.tmp 2 ((.sl (.pair (.arr 2 (.int .u8)) (.int .i64))), .mp)]) (c := bd Try.f59) (an := tags_places_an) (show obF tags_places_E 30 (bd Try.f59) [.val (.sl T69)] [.tmp 2 ((.sl (.pair (.arr 2 (.int .u8)) (.int .i64))), .mp)] tags_places_an from (And.intro trivial (And.intro trivial (And.intro (And.intro trivial (And.intro (fun _ => rfl) (And.intro (fun n j => by kernel_rfl) (fun n => (And.intro (And.intro trivial (And.intro trivial trivial)) (And.intro (And.intro trivial (And.intro trivial trivial)) trivial)))))) (And.intro trivial trivial))))) tags_places_eq
/-! tags_Find_1: function 58 -/
noncomputable def tags_Find_1_fns : List (Nat × Fun) := []
noncomputable def tags_Find_1_E : Env := { ty := Re.look tyTab, eq := fun n => memB n [], fn := Re.look tags_Find_1_fns, cut := fun n => memB n [], win := fun n => memB n [], one := fun n => memB n [], onc := fun n => memB n [], pre := fun n => memB n [], ptr := fun n => memB n [], psl := fun n => memB n [], parr := Re.look [], mpt := Re.look [], lnd := fun n => memB n [] }
noncomputable def tags_Find_1_an : An (Ds ((([.tmp 3 (.bool, .view)] : List RV).map RV.pm).map (·.1) ++ ioTys [.val T69, .pv (.rp (.int .i64))])) :=
(.seq (.rg [] none)
(.seq (.rg [] none)
.leaf))
theorem tags_Find_1_Eok : EnvOk Try.prog tags_Find_1_E := env_ok tab_ok (by simp) (allFn_mem (show AllFn Try.prog tags_Find_1_fns from trivial)) mixed (by kernel_rfl) (by kernel_rfl) (by kernel_rfl) (by kernel_rfl)
theorem tags_Find_1_eq (x : (Int × (Int × (List (BitVec 8) × (Int × (List (BitVec 8) × (((Int × (BitVec 64 × (Int × (Int × (Int × Unit))))) × (Int × (Int × (List (BitVec 8) × ((Int × (Int × (Int × Unit))) × Unit))))) × ((Int × (Int × (Int × Unit))) × Unit))))))) × Int) : evF tags_Find_1_E 8 (bd Try.f58) [.val T69, .pv (.rp (.int .i64))] [.tmp 3 (.bool, .view)] tags_Find_1_an x = tags_Find_1 x := by kernel_rfl
theorem tags_Find_1_ok : FnOk Try.prog 58 { args := [.val T69, .pv (.rp (.int .i64))], res := [(.bool, .view)], f := tags_Find_1 } :=
  fn_ok tags_Find_1_Eok Try.func58 rfl (by kernel_rfl) (by kernel_rfl) (by kernel_rfl) (rs := [.tmp 3 (.bool, .view)]) (c := bd Try.f58) (an := tags_Find_1_an) (ob_flat _ _ _ _ _ _ _ (by kernel_rfl)) tags_Find_1_eq
/-! slices_IndexFunc_api_Task_c58: function 57 -/
noncomputable def slices_IndexFunc_api_Task_c58_fns : List (Nat × Fun) := [(58, { args := [.val T69, .pv (.rp (.int .i64))], res := [(.bool, .view)], f := tags_Find_1 })]
noncomputable def slices_IndexFunc_api_Task_c58_E : Env := { ty := Re.look tyTab, eq := fun n => memB n [], fn := Re.look slices_IndexFunc_api_Task_c58_fns, cut := fun n => memB n [], win := fun n => memB n [], one := fun n => memB n [], onc := fun n => memB n [], pre := fun n => memB n [], ptr := fun n => memB n [], psl := fun n => memB n [], parr := Re.look [], mpt := Re.look [], lnd := fun n => memB n [] }
noncomputable def slices_IndexFunc_api_Task_c58_an : An (Ds ((([.tmp 4 ((.int .i64), .view)] : List RV).map RV.pm).map (·.1) ++ ioTys [.val (.sl T69), .pv (.clo 58 (.int .i64))])) :=
(.seq (.rg [] none)
(.seq (.seq (.rg [] none)
(.loop [.val 0 (.sl T69), .pv 1 (.clo 58 (.int .i64)), .val 7 (.int .i64), .val 8 (.int .i64)] [] slices_IndexFunc_api_Task_c58_L0
(.seq (.rg [] none)
(.seq (.cond .leaf .leaf)
(.seq (.block (.seq (.rg [] none)
(.seq (.rg [] none)
(.cond (.seq (.rg [] none)
.leaf) .leaf))))
(.rg [] none))))))
(.seq (.rg [] none)
.leaf)))
theorem slices_IndexFunc_api_Task_c58_Eok : EnvOk Try.prog slices_IndexFunc_api_Task_c58_E := env_ok tab_ok (by simp) (allFn_mem (show AllFn Try.prog slices_IndexFunc_api_Task_c58_fns from ⟨tags_Find_1_ok, trivial⟩)) mixed (by kernel_rfl) (by kernel_rfl) (by kernel_rfl) (by kernel_rfl)
theorem slices_IndexFunc_api_Task_c58_eq (x : (List (Int × (Int × (List (BitVec 8) × (Int × (List (BitVec 8) × (((Int × (BitVec 64 × (Int × (Int × (Int × Unit))))) × (Int × (Int × (List (BitVec 8) × ((Int × (Int × (Int × Unit))) × Unit))))) × ((Int × (Int × (Int × Unit))) × Unit)))))))) × Int) : evF slices_IndexFunc_api_Task_c58_E 19 (bd Try.f57) [.val (.sl T69), .pv (.clo 58 (.int .i64))] [.tmp 4 ((.int .i64), .view)] slices_IndexFunc_api_Task_c58_an x = slices_IndexFunc_api_Task_c58 x := by kernel_rfl
theorem slices_IndexFunc_api_Task_c58_ok : FnOk Try.prog 57 { args := [.val (.sl T69), .pv (.clo 58 (.int .i64))], res := [((.int .i64), .view)], f := slices_IndexFunc_api_Task_c58 } :=
  fn_ok slices_IndexFunc_api_Task_c58_Eok Try.func57 rfl (by kernel_rfl) (by kernel_rfl) (by kernel_rfl) (rs := [.tmp 4 ((.int .i64), .view)]) (c := bd Try.f57) (an := slices_IndexFunc_api_Task_c58_an) (show obF slices_IndexFunc_api_Task_c58_E 19 (bd Try.f57) [.val (.sl T69), .pv (.clo 58 (.int .i64))] [.tmp 4 ((.int .i64), .view)] slices_IndexFunc_api_Task_c58_an from (And.intro trivial (And.intro (And.intro trivial (And.intro (fun _ => rfl) (And.intro (fun n j => by kernel_rfl) (fun n => (And.intro trivial (And.intro (And.intro trivial trivial) (And.intro (And.intro trivial (And.intro trivial (And.intro (And.intro trivial trivial) trivial))) trivial))))))) (And.intro trivial trivial)))) slices_IndexFunc_api_Task_c58_eq
/-! tags_Find: function 35 -/
noncomputable def tags_Find_fns : List (Nat × Fun) := [(56, { args := [.val (.int .i64)], res := [(.bool, .view)], f := tags_may }), (59, { args := [.val (.sl T69)], res := [((.sl (.pair (.arr 2 (.int .u8)) (.int .i64))), .mp)], f := tags_places }), (60, { args := [.val (.int .i64)], res := [((.arr 2 (.int .u8)), .view)], f := tags_of }), (57, { args := [.val (.sl T69), .pv (.clo 58 (.int .i64))], res := [((.int .i64), .view)], f := slices_IndexFunc_api_Task_c58 })]
noncomputable def tags_Find_E : Env := { ty := Re.look tyTab, eq := fun n => memB n [], fn := Re.look tags_Find_fns, cut := fun n => memB n [], win := fun n => memB n [], one := fun n => memB n [3], onc := fun n => memB n [], pre := fun n => memB n [], ptr := fun n => memB n [], psl := fun n => memB n [], parr := Re.look [], mpt := Re.look [(104, ((.arr 2 (.int .u8)), (.int .i64)))], lnd := fun n => memB n [12] }
noncomputable def tags_Find_an : An (Ds ((([.tmp 4 ((.int .i64), .view)] : List RV).map RV.pm).map (·.1) ++ ioTys [.val (.sl T69), .val (.int .i64)])) :=
(.seq (.rg [] none)
(.seq (.seq (.rg [] none)
(.cond (.seq (.rg [] none)
.leaf) .leaf))
(.seq (.seq (.rg [] (some (.op ⟨[], []⟩ (.op ⟨[240], [240]⟩ (.op ⟨[], []⟩ (.op ⟨[272], []⟩ (.op ⟨[240], []⟩ (.op ⟨[], []⟩ (.op ⟨[], []⟩ (.op ⟨[], []⟩ (.op ⟨[], []⟩ (.op ⟨[], []⟩ .done))))))))))))
(.seq (.rg [] none)
(.cond (.seq (.rg [] none)
.leaf) .leaf)))
(.seq (.rg [] none)
.leaf))))
theorem tags_Find_Eok : EnvOk Try.prog tags_Find_E := env_ok tab_ok (by simp) (allFn_mem (show AllFn Try.prog tags_Find_fns from ⟨tags_may_ok, tags_places_ok, tags_of_ok, slices_IndexFunc_api_Task_c58_ok, trivial⟩)) mixed (by kernel_rfl) (by kernel_rfl) (by kernel_rfl) (by kernel_rfl)
theorem tags_Find_eq (x : (List (Int × (Int × (List (BitVec 8) × (Int × (List (BitVec 8) × (((Int × (BitVec 64 × (Int × (Int × (Int × Unit))))) × (Int × (Int × (List (BitVec 8) × ((Int × (Int × (Int × Unit))) × Unit))))) × ((Int × (Int × (Int × Unit))) × Unit)))))))) × Int) : evF tags_Find_E 23 (bd Try.f35) [.val (.sl T69), .val (.int .i64)] [.tmp 4 ((.int .i64), .view)] tags_Find_an x = tags_Find x := by kernel_rfl
theorem tags_Find_ok : FnOk Try.prog 35 { args := [.val (.sl T69), .val (.int .i64)], res := [((.int .i64), .view)], f := tags_Find } :=
  fn_ok tags_Find_Eok Try.func35 rfl (by kernel_rfl) (by kernel_rfl) (by kernel_rfl) (rs := [.tmp 4 ((.int .i64), .view)]) (c := bd Try.f35) (an := tags_Find_an) (ob_flat _ _ _ _ _ _ _ (by kernel_rfl)) tags_Find_eq
/-! tags_Tags: function 36 -/
noncomputable def tags_Tags_fns : List (Nat × Fun) := []
noncomputable def tags_Tags_E : Env := { ty := Re.look tyTab, eq := fun n => memB n [], fn := Re.look tags_Tags_fns, cut := fun n => memB n [], win := fun n => memB n [], one := fun n => memB n [], onc := fun n => memB n [], pre := fun n => memB n [], ptr := fun n => memB n [], psl := fun n => memB n [], parr := Re.look [], mpt := Re.look [], lnd := fun n => memB n [] }
noncomputable def tags_Tags_an : An (Ds ((([.tmp 2 ((.sl (.int .i64)), .full)] : List RV).map RV.pm).map (·.1) ++ ioTys [.val (.sl T69)])) :=
(.seq (.rg [] none)
(.seq (.rg [] none)
(.seq (.seq (.rg [] none)
(.loop [.row 3 (.int .i64) .full, .val 6 (.sl T69), .val 7 (.int .i64), .val 8 (.int .i64)] [.row 3 (.int .i64) .full] tags_Tags_L0
(.seq (.rg [] none)
(.seq (.cond .leaf .leaf)
(.seq (.block (.seq (.rg [] none)
(.rg [] none)))
(.rg [] none))))))
(.seq (.rg [] none)
.leaf))))
theorem tags_Tags_Eok : EnvOk Try.prog tags_Tags_E := env_ok tab_ok (by simp) (allFn_mem (show AllFn Try.prog tags_Tags_fns from trivial)) mixed (by kernel_rfl) (by kernel_rfl) (by kernel_rfl) (by kernel_rfl)
theorem tags_Tags_eq (x : (List (Int × (Int × (List (BitVec 8) × (Int × (List (BitVec 8) × (((Int × (BitVec 64 × (Int × (Int × (Int × Unit))))) × (Int × (Int × (List (BitVec 8) × ((Int × (Int × (Int × Unit))) × Unit))))) × ((Int × (Int × (Int × Unit))) × Unit))))))))) : evF tags_Tags_E 19 (bd Try.f36) [.val (.sl T69)] [.tmp 2 ((.sl (.int .i64)), .full)] tags_Tags_an x = tags_Tags x := by kernel_rfl
theorem tags_Tags_ok : FnOk Try.prog 36 { args := [.val (.sl T69)], res := [((.sl (.int .i64)), .full)], f := tags_Tags } :=
  fn_ok tags_Tags_Eok Try.func36 rfl (by kernel_rfl) (by kernel_rfl) (by kernel_rfl) (rs := [.tmp 2 ((.sl (.int .i64)), .full)]) (c := bd Try.f36) (an := tags_Tags_an) (show obF tags_Tags_E 19 (bd Try.f36) [.val (.sl T69)] [.tmp 2 ((.sl (.int .i64)), .full)] tags_Tags_an from (And.intro trivial (And.intro trivial (And.intro (And.intro trivial (And.intro (fun _ => rfl) (And.intro (fun n j => by kernel_rfl) (fun n => (And.intro trivial (And.intro (And.intro trivial trivial) (And.intro (And.intro trivial trivial) trivial))))))) (And.intro trivial trivial))))) tags_Tags_eq
/-! slices_Index_int: function 68 -/
noncomputable def slices_Index_int_fns : List (Nat × Fun) := []
noncomputable def slices_Index_int_E : Env := { ty := Re.look tyTab, eq := fun n => memB n [], fn := Re.look slices_Index_int_fns, cut := fun n => memB n [], win := fun n => memB n [], one := fun n => memB n [], onc := fun n => memB n [], pre := fun n => memB n [], ptr := fun n => memB n [], psl := fun n => memB n [], parr := Re.look [], mpt := Re.look [], lnd := fun n => memB n [] }
noncomputable def slices_Index_int_an : An (Ds ((([.tmp 4 ((.int .i64), .view)] : List RV).map RV.pm).map (·.1) ++ ioTys [.val (.sl (.int .i64)), .val (.int .i64)])) :=
(.seq (.rg [] none)
(.seq (.seq (.rg [] none)
(.loop [.val 0 (.sl (.int .i64)), .val 1 (.int .i64), .val 7 (.int .i64), .val 8 (.int .i64)] [] slices_Index_int_L0
(.seq (.rg [] none)
(.seq (.cond .leaf .leaf)
(.seq (.block (.seq (.rg [] none)
(.seq (.rg [] none)
(.cond (.seq (.rg [] none)
.leaf) .leaf))))
(.rg [] none))))))
(.seq (.rg [] none)
.leaf)))
theorem slices_Index_int_Eok : EnvOk Try.prog slices_Index_int_E := env_ok tab_ok (by simp) (allFn_mem (show AllFn Try.prog slices_Index_int_fns from trivial)) mixed (by kernel_rfl) (by kernel_rfl) (by kernel_rfl) (by kernel_rfl)
theorem slices_Index_int_eq (x : (List Int) × Int) : evF slices_Index_int_E 19 (bd Try.f68) [.val (.sl (.int .i64)), .val (.int .i64)] [.tmp 4 ((.int .i64), .view)] slices_Index_int_an x = slices_Index_int x := by kernel_rfl
theorem slices_Index_int_ok : FnOk Try.prog 68 { args := [.val (.sl (.int .i64)), .val (.int .i64)], res := [((.int .i64), .view)], f := slices_Index_int } :=
  fn_ok slices_Index_int_Eok Try.func68 rfl (by kernel_rfl) (by kernel_rfl) (by kernel_rfl) (rs := [.tmp 4 ((.int .i64), .view)]) (c := bd Try.f68) (an := slices_Index_int_an) (show obF slices_Index_int_E 19 (bd Try.f68) [.val (.sl (.int .i64)), .val (.int .i64)] [.tmp 4 ((.int .i64), .view)] slices_Index_int_an from (And.intro trivial (And.intro (And.intro trivial (And.intro (fun _ => rfl) (And.intro (fun n j => by kernel_rfl) (fun n => (And.intro trivial (And.intro (And.intro trivial trivial) (And.intro (And.intro trivial (And.intro trivial (And.intro (And.intro trivial trivial) trivial))) trivial))))))) (And.intro trivial trivial)))) slices_Index_int_eq
/-! slices_Contains_int: function 47 -/
noncomputable def slices_Contains_int_fns : List (Nat × Fun) := [(68, { args := [.val (.sl (.int .i64)), .val (.int .i64)], res := [((.int .i64), .view)], f := slices_Index_int })]
noncomputable def slices_Contains_int_E : Env := { ty := Re.look tyTab, eq := fun n => memB n [], fn := Re.look slices_Contains_int_fns, cut := fun n => memB n [], win := fun n => memB n [], one := fun n => memB n [], onc := fun n => memB n [], pre := fun n => memB n [], ptr := fun n => memB n [], psl := fun n => memB n [], parr := Re.look [], mpt := Re.look [], lnd := fun n => memB n [] }
noncomputable def slices_Contains_int_an : An (Ds ((([.tmp 4 (.bool, .view)] : List RV).map RV.pm).map (·.1) ++ ioTys [.val (.sl (.int .i64)), .val (.int .i64)])) :=
(.seq (.rg [] none)
(.seq (.rg [] none)
.leaf))
theorem slices_Contains_int_Eok : EnvOk Try.prog slices_Contains_int_E := env_ok tab_ok (by simp) (allFn_mem (show AllFn Try.prog slices_Contains_int_fns from ⟨slices_Index_int_ok, trivial⟩)) mixed (by kernel_rfl) (by kernel_rfl) (by kernel_rfl) (by kernel_rfl)
theorem slices_Contains_int_eq (x : (List Int) × Int) : evF slices_Contains_int_E 9 (bd Try.f47) [.val (.sl (.int .i64)), .val (.int .i64)] [.tmp 4 (.bool, .view)] slices_Contains_int_an x = slices_Contains_int x := by kernel_rfl
theorem slices_Contains_int_ok : FnOk Try.prog 47 { args := [.val (.sl (.int .i64)), .val (.int .i64)], res := [(.bool, .view)], f := slices_Contains_int } :=
  fn_ok slices_Contains_int_Eok Try.func47 rfl (by kernel_rfl) (by kernel_rfl) (by kernel_rfl) (rs := [.tmp 4 (.bool, .view)]) (c := bd Try.f47) (an := slices_Contains_int_an) (ob_flat _ _ _ _ _ _ _ (by kernel_rfl)) slices_Contains_int_eq
/-! manage_Drop: function 16 -/
noncomputable def manage_Drop_fns : List (Nat × Fun) := [(47, { args := [.val (.sl (.int .i64)), .val (.int .i64)], res := [(.bool, .view)], f := slices_Contains_int })]
noncomputable def manage_Drop_E : Env := { ty := Re.look tyTab, eq := fun n => memB n [], fn := Re.look manage_Drop_fns, cut := fun n => memB n [], win := fun n => memB n [], one := fun n => memB n [], onc := fun n => memB n [], pre := fun n => memB n [], ptr := fun n => memB n [], psl := fun n => memB n [], parr := Re.look [], mpt := Re.look [], lnd := fun n => memB n [], gal := fun n => (Re.look ([(5, [(0, 34), (1, 3)])] : List (Nat × List (Nat × Nat))) n).getD [], gld := fun n => memB n [24, 55], gst := fun n => memB n [81, 432, 928], gbd := fun n => (Re.look ([] : List (Nat × List (Nat × Nat))) n).getD [] }
noncomputable def manage_Drop_an : An (Ds ((([.cell 4 T24] : List RV).map RV.pm).map (·.1) ++ ioTys [.val T24, .val (.sl (.int .i64))])) :=
(.seq (.rg [] none)
(.seq (.rg [] none)
(.seq (.seq (.rg [] none)
(.loop [.val 1 (.sl (.int .i64)), .box 2 T24, .box 4 T24, .gbx 5 T24 [(0, 34), (1, 3)], .val 12 (.sl T69), .val 13 (.int .i64), .val 14 (.int .i64)] [.val 1 (.sl (.int .i64)), .box 2 T24, .box 4 T24, .gbx 5 T24 [(0, 34), (1, 3)]] manage_Drop_L0
(.seq (.rg [] none)
(.seq (.cond .leaf .leaf)
(.join [.val 1 (.sl (.int .i64)), .box 2 T24, .box 4 T24, .gbx 5 T24 [(0, 34), (1, 3)], .val 12 (.sl T69), .val 13 (.int .i64), .val 14 (.int .i64)]
(.block (.seq (.rg [] none)
(.seq (.rg [] none)
(.cond (.rg [] none) .leaf))))
(.rg [] none))))))
(.seq (.seq (.rg [] none)
(.loop [.val 1 (.sl (.int .i64)), .box 4 T24, .gbx 5 T24 [(0, 34), (1, 3)], .val 31 (.sl T74), .val 32 (.int .i64), .val 33 (.int .i64)] [.box 4 T24, .gbx 5 T24 [(0, 34), (1, 3)]] manage_Drop_L1
(.seq (.rg [] none)
(.seq (.cond .leaf .leaf)
(.join [.val 1 (.sl (.int .i64)), .box 4 T24, .gbx 5 T24 [(0, 34), (1, 3)], .val 31 (.sl T74), .val 32 (.int .i64), .val 33 (.int .i64)]
(.block (.seq (.rg [] none)
(.seq (.rg [] (some (.op ⟨[144], []⟩ (.op ⟨[144], []⟩ (.op ⟨[], []⟩ (.op ⟨[], []⟩ (.split 40 [(44, .bool)] (.op ⟨[144], []⟩ (.op ⟨[144], []⟩ (.op ⟨[], []⟩ (.op ⟨[], []⟩ .done)))) (.op ⟨[], []⟩ .done))))))))
(.seq (.rg [] (some (.op ⟨[], []⟩ (.op ⟨[], []⟩ (.op ⟨[], []⟩ (.split 47 [(53, .bool)] (.op ⟨[], []⟩ (.op ⟨[144], []⟩ (.op ⟨[144], []⟩ (.op ⟨[816], []⟩ (.op ⟨[], []⟩ (.op ⟨[], []⟩ .done)))))) .done))))))
(.cond (.rg [] none) .leaf)))))
(.rg [] none))))))
(.seq (.rg [] none)
.leaf)))))
theorem manage_Drop_Eok : EnvOk Try.prog manage_Drop_E := env_ok tab_ok (by simp) (allFn_mem (show AllFn Try.prog manage_Drop_fns from ⟨slices_Contains_int_ok, trivial⟩)) mixed (by kernel_rfl) (by kernel_rfl) (by kernel_rfl) (by kernel_rfl)
theorem manage_Drop_eq (x : (List (Int × (Int × (List (BitVec 8) × (Int × (List (BitVec 8) × (((Int × (BitVec 64 × (Int × (Int × (Int × Unit))))) × (Int × (Int × (List (BitVec 8) × ((Int × (Int × (Int × Unit))) × Unit))))) × ((Int × (Int × (Int × Unit))) × Unit))))))) × (List (Int × (Int × (List (BitVec 8) × Unit))) × Unit)) × (List Int)) : evF manage_Drop_E 62 (bd Try.f16) [.val T24, .val (.sl (.int .i64))] [.cell 4 T24] manage_Drop_an x = manage_Drop x := by kernel_rfl
theorem manage_Drop_ok : FnOk Try.prog 16 { args := [.val T24, .val (.sl (.int .i64))], res := [(T24, .view)], f := manage_Drop } :=
  fn_ok manage_Drop_Eok Try.func16 rfl (by kernel_rfl) (by kernel_rfl) (by kernel_rfl) (rs := [.cell 4 T24]) (c := bd Try.f16) (an := manage_Drop_an) (show obF manage_Drop_E 62 (bd Try.f16) [.val T24, .val (.sl (.int .i64))] [.cell 4 T24] manage_Drop_an from (And.intro trivial (And.intro trivial (And.intro (And.intro trivial (And.intro (fun _ => rfl) (And.intro (fun n j => by kernel_rfl) (fun n => (And.intro trivial (And.intro (And.intro trivial trivial) (And.intro (And.intro trivial (And.intro trivial (And.intro trivial trivial))) trivial))))))) (And.intro (And.intro trivial (And.intro (fun _ => rfl) (And.intro (fun n j => by kernel_rfl) (fun n => (And.intro trivial (And.intro (And.intro trivial trivial) (And.intro (And.intro trivial (And.intro trivial (And.intro trivial (And.intro trivial trivial)))) trivial))))))) (And.intro trivial trivial)))))) manage_Drop_eq
/-! sense_reset: function 64 -/
noncomputable def sense_reset_fns : List (Nat × Fun) := []
noncomputable def sense_reset_E : Env := { ty := Re.look tyTab, eq := fun n => memB n [], fn := Re.look sense_reset_fns, cut := fun n => memB n [], win := fun n => memB n [], one := fun n => memB n [], onc := fun n => memB n [], pre := fun n => memB n [], ptr := fun n => memB n [], psl := fun n => memB n [], parr := Re.look [], mpt := Re.look [], lnd := fun n => memB n [] }
noncomputable def sense_reset_an : An (Ds ((([.cell 2 T48] : List RV).map RV.pm).map (·.1) ++ ioTys [.val (.int .i64)])) :=
(.seq (.rg [] none)
(.seq (.rg [] none)
.leaf))
theorem sense_reset_Eok : EnvOk Try.prog sense_reset_E := env_ok tab_ok (by simp) (allFn_mem (show AllFn Try.prog sense_reset_fns from trivial)) mixed (by kernel_rfl) (by kernel_rfl) (by kernel_rfl) (by kernel_rfl)
theorem sense_reset_eq (x : Int) : evF sense_reset_E 5 (bd Try.f64) [.val (.int .i64)] [.cell 2 T48] sense_reset_an x = sense_reset x := by kernel_rfl
theorem sense_reset_ok : FnOk Try.prog 64 { args := [.val (.int .i64)], res := [(T48, .view)], f := sense_reset } :=
  fn_ok sense_reset_Eok Try.func64 rfl (by kernel_rfl) (by kernel_rfl) (by kernel_rfl) (rs := [.cell 2 T48]) (c := bd Try.f64) (an := sense_reset_an) (ob_flat _ _ _ _ _ _ _ (by kernel_rfl)) sense_reset_eq
/-! sense_NexusLoss: function 38 -/
noncomputable def sense_NexusLoss_fns : List (Nat × Fun) := [(64, { args := [.val (.int .i64)], res := [(T48, .view)], f := sense_reset })]
noncomputable def sense_NexusLoss_E : Env := { ty := Re.look tyTab, eq := fun n => memB n [], fn := Re.look sense_NexusLoss_fns, cut := fun n => memB n [], win := fun n => memB n [], one := fun n => memB n [], onc := fun n => memB n [], pre := fun n => memB n [], ptr := fun n => memB n [], psl := fun n => memB n [], parr := Re.look [], mpt := Re.look [], lnd := fun n => memB n [] }
noncomputable def sense_NexusLoss_an : An (Ds ((([.cell 0 T48] : List RV).map RV.pm).map (·.1) ++ ioTys [])) :=
(.seq (.rg [] none)
(.seq (.rg [] none)
.leaf))
theorem sense_NexusLoss_Eok : EnvOk Try.prog sense_NexusLoss_E := env_ok tab_ok (by simp) (allFn_mem (show AllFn Try.prog sense_NexusLoss_fns from ⟨sense_reset_ok, trivial⟩)) mixed (by kernel_rfl) (by kernel_rfl) (by kernel_rfl) (by kernel_rfl)
theorem sense_NexusLoss_eq (x : Unit) : evF sense_NexusLoss_E 2 (bd Try.f38) [] [.cell 0 T48] sense_NexusLoss_an x = sense_NexusLoss x := by kernel_rfl
theorem sense_NexusLoss_ok : FnOk Try.prog 38 { args := [], res := [(T48, .view)], f := sense_NexusLoss } :=
  fn_ok sense_NexusLoss_Eok Try.func38 rfl (by kernel_rfl) (by kernel_rfl) (by kernel_rfl) (rs := [.cell 0 T48]) (c := bd Try.f38) (an := sense_NexusLoss_an) (ob_flat _ _ _ _ _ _ _ (by kernel_rfl)) sense_NexusLoss_eq
/-! unit_there: function 76 -/
noncomputable def unit_there_fns : List (Nat × Fun) := []
noncomputable def unit_there_E : Env := { ty := Re.look tyTab, eq := fun n => memB n [], fn := Re.look unit_there_fns, cut := fun n => memB n [], win := fun n => memB n [], one := fun n => memB n [], onc := fun n => memB n [], pre := fun n => memB n [], ptr := fun n => memB n [], psl := fun n => memB n [], parr := Re.look [], mpt := Re.look [], lnd := fun n => memB n [] }
noncomputable def unit_there_an : An (Ds ((([.tmp 4 (.bool, .view)] : List RV).map RV.pm).map (·.1) ++ ioTys [.val (.sl T50), .val (.int .i64)])) :=
(.seq (.rg [] none)
(.seq (.rg [] (some (.op ⟨[], []⟩ (.op ⟨[], []⟩ (.op ⟨[], []⟩ (.split 7 [(12, .bool)] (.op ⟨[], []⟩ (.op ⟨[], []⟩ (.op ⟨[], []⟩ (.op ⟨[], []⟩ (.op ⟨[], []⟩ .done))))) (.op ⟨[], []⟩ .done)))))))
.leaf))
theorem unit_there_Eok : EnvOk Try.prog unit_there_E := env_ok tab_ok (by simp) (allFn_mem (show AllFn Try.prog unit_there_fns from trivial)) mixed (by kernel_rfl) (by kernel_rfl) (by kernel_rfl) (by kernel_rfl)
theorem unit_there_eq (x : (List (((List (List (BitVec 8)) × (List (Int × (List (BitVec 8) × Unit)) × Unit)) × (Bool × (Bool × (Bool × Unit)))) × (Bool × (List (Int × (Int × (Int × Unit))) × ((Int × (Int × (Int × Unit))) × Unit))))) × Int) : evF unit_there_E 13 (bd Try.f76) [.val (.sl T50), .val (.int .i64)] [.tmp 4 (.bool, .view)] unit_there_an x = unit_there x := by kernel_rfl
theorem unit_there_ok : FnOk Try.prog 76 { args := [.val (.sl T50), .val (.int .i64)], res := [(.bool, .view)], f := unit_there } :=
  fn_ok unit_there_Eok Try.func76 rfl (by kernel_rfl) (by kernel_rfl) (by kernel_rfl) (rs := [.tmp 4 (.bool, .view)]) (c := bd Try.f76) (an := unit_there_an) (ob_flat _ _ _ _ _ _ _ (by kernel_rfl)) unit_there_eq
/-! slices_Clone_api_Unit: function 77 -/
noncomputable def slices_Clone_api_Unit_fns : List (Nat × Fun) := []
noncomputable def slices_Clone_api_Unit_E : Env := { ty := Re.look tyTab, eq := fun n => memB n [], fn := Re.look slices_Clone_api_Unit_fns, cut := fun n => memB n [], win := fun n => memB n [], one := fun n => memB n [], onc := fun n => memB n [], pre := fun n => memB n [], ptr := fun n => memB n [], psl := fun n => memB n [], parr := Re.look [], mpt := Re.look [], lnd := fun n => memB n [] }
noncomputable def slices_Clone_api_Unit_an : An (Ds ((([.tmp 2 ((.sl T50), .full)] : List RV).map RV.pm).map (·.1) ++ ioTys [.val (.sl T50)])) :=
(.seq (.rg [] none)
(.seq (.seq (.rg [] none)
(.cond (.seq (.rg [] none)
.leaf) .leaf))
(.seq (.rg [] none)
.leaf)))
theorem slices_Clone_api_Unit_Eok : EnvOk Try.prog slices_Clone_api_Unit_E := env_ok tab_ok (by simp) (allFn_mem (show AllFn Try.prog slices_Clone_api_Unit_fns from trivial)) mixed (by kernel_rfl) (by kernel_rfl) (by kernel_rfl) (by kernel_rfl)
theorem slices_Clone_api_Unit_eq (x : (List (((List (List (BitVec 8)) × (List (Int × (List (BitVec 8) × Unit)) × Unit)) × (Bool × (Bool × (Bool × Unit)))) × (Bool × (List (Int × (Int × (Int × Unit))) × ((Int × (Int × (Int × Unit))) × Unit)))))) : evF slices_Clone_api_Unit_E 8 (bd Try.f77) [.val (.sl T50)] [.tmp 2 ((.sl T50), .full)] slices_Clone_api_Unit_an x = slices_Clone_api_Unit x := by kernel_rfl
theorem slices_Clone_api_Unit_ok : FnOk Try.prog 77 { args := [.val (.sl T50)], res := [((.sl T50), .full)], f := slices_Clone_api_Unit } :=
  fn_ok slices_Clone_api_Unit_Eok Try.func77 rfl (by kernel_rfl) (by kernel_rfl) (by kernel_rfl) (rs := [.tmp 2 ((.sl T50), .full)]) (c := bd Try.f77) (an := slices_Clone_api_Unit_an) (ob_flat _ _ _ _ _ _ _ (by kernel_rfl)) slices_Clone_api_Unit_eq
/-! slices_Index_api_Sense: function 78 -/
noncomputable def slices_Index_api_Sense_fns : List (Nat × Fun) := []
noncomputable def slices_Index_api_Sense_E : Env := { ty := Re.look tyTab, eq := fun n => memB n [49], fn := Re.look slices_Index_api_Sense_fns, cut := fun n => memB n [], win := fun n => memB n [], one := fun n => memB n [], onc := fun n => memB n [], pre := fun n => memB n [], ptr := fun n => memB n [], psl := fun n => memB n [], parr := Re.look [], mpt := Re.look [], lnd := fun n => memB n [] }
noncomputable def slices_Index_api_Sense_an : An (Ds ((([.tmp 4 ((.int .i64), .view)] : List RV).map RV.pm).map (·.1) ++ ioTys [.val (.sl T48), .val T48])) :=
(.seq (.rg [] none)
(.seq (.seq (.rg [] none)
(.loop [.val 0 (.sl T48), .box 3 T48, .val 7 (.int .i64), .val 8 (.int .i64)] [] slices_Index_api_Sense_L0
(.seq (.rg [] none)
(.seq (.cond .leaf .leaf)
(.seq (.block (.seq (.rg [] none)
(.seq (.rg [] (some (.op ⟨[48], []⟩ (.op ⟨[], []⟩ (.op ⟨[], []⟩ (.op ⟨[], []⟩ (.op ⟨[], []⟩ (.op ⟨[], []⟩ .done))))))))
(.cond (.seq (.rg [] none)
.leaf) .leaf))))
(.rg [] none))))))
(.seq (.rg [] none)
.leaf)))
theorem slices_Index_api_Sense_Eok : EnvOk Try.prog slices_Index_api_Sense_E := env_ok tab_ok (by intro t h; simp only [List.mem_cons, List.mem_nil_iff, or_false, List.not_mem_nil] at h; rcases h with rfl <;> exact ⟨by kernel_rfl, by kernel_rfl, by kernel_rfl⟩) (allFn_mem (show AllFn Try.prog slices_Index_api_Sense_fns from trivial)) mixed (by kernel_rfl) (by kernel_rfl) (by kernel_rfl) (by kernel_rfl)
theorem slices_Index_api_Sense_eq (x : (List (Int × (Int × (Int × Unit)))) × (Int × (Int × (Int × Unit)))) : evF slices_Index_api_Sense_E 19 (bd Try.f78) [.val (.sl T48), .val T48] [.tmp 4 ((.int .i64), .view)] slices_Index_api_Sense_an x = slices_Index_api_Sense x := by kernel_rfl
theorem slices_Index_api_Sense_ok : FnOk Try.prog 78 { args := [.val (.sl T48), .val T48], res := [((.int .i64), .view)], f := slices_Index_api_Sense } :=
  fn_ok slices_Index_api_Sense_Eok Try.func78 rfl (by kernel_rfl) (by kernel_rfl) (by kernel_rfl) (rs := [.tmp 4 ((.int .i64), .view)]) (c := bd Try.f78) (an := slices_Index_api_Sense_an) (show obF slices_Index_api_Sense_E 19 (bd Try.f78) [.val (.sl T48), .val T48] [.tmp 4 ((.int .i64), .view)] slices_Index_api_Sense_an from (And.intro trivial (And.intro (And.intro trivial (And.intro (fun _ => rfl) (And.intro (fun n j => by kernel_rfl) (fun n => (And.intro trivial (And.intro (And.intro trivial trivial) (And.intro (And.intro trivial (And.intro trivial (And.intro (And.intro trivial trivial) trivial))) trivial))))))) (And.intro trivial trivial)))) slices_Index_api_Sense_eq
/-! slices_Contains_api_Sense: function 73 -/
noncomputable def slices_Contains_api_Sense_fns : List (Nat × Fun) := [(78, { args := [.val (.sl T48), .val T48], res := [((.int .i64), .view)], f := slices_Index_api_Sense })]
noncomputable def slices_Contains_api_Sense_E : Env := { ty := Re.look tyTab, eq := fun n => memB n [], fn := Re.look slices_Contains_api_Sense_fns, cut := fun n => memB n [], win := fun n => memB n [], one := fun n => memB n [], onc := fun n => memB n [], pre := fun n => memB n [], ptr := fun n => memB n [], psl := fun n => memB n [], parr := Re.look [], mpt := Re.look [], lnd := fun n => memB n [] }
noncomputable def slices_Contains_api_Sense_an : An (Ds ((([.tmp 4 (.bool, .view)] : List RV).map RV.pm).map (·.1) ++ ioTys [.val (.sl T48), .val T48])) :=
(.seq (.rg [] none)
(.seq (.rg [] none)
.leaf))
theorem slices_Contains_api_Sense_Eok : EnvOk Try.prog slices_Contains_api_Sense_E := env_ok tab_ok (by simp) (allFn_mem (show AllFn Try.prog slices_Contains_api_Sense_fns from ⟨slices_Index_api_Sense_ok, trivial⟩)) mixed (by kernel_rfl) (by kernel_rfl) (by kernel_rfl) (by kernel_rfl)
theorem slices_Contains_api_Sense_eq (x : (List (Int × (Int × (Int × Unit)))) × (Int × (Int × (Int × Unit)))) : evF slices_Contains_api_Sense_E 9 (bd Try.f73) [.val (.sl T48), .val T48] [.tmp 4 (.bool, .view)] slices_Contains_api_Sense_an x = slices_Contains_api_Sense x := by kernel_rfl
theorem slices_Contains_api_Sense_ok : FnOk Try.prog 73 { args := [.val (.sl T48), .val T48], res := [(.bool, .view)], f := slices_Contains_api_Sense } :=
  fn_ok slices_Contains_api_Sense_Eok Try.func73 rfl (by kernel_rfl) (by kernel_rfl) (by kernel_rfl) (rs := [.tmp 4 (.bool, .view)]) (c := bd Try.f73) (an := slices_Contains_api_Sense_an) (ob_flat _ _ _ _ _ _ _ (by kernel_rfl)) slices_Contains_api_Sense_eq
/-! sense_PowerOn: function 74 -/
noncomputable def sense_PowerOn_fns : List (Nat × Fun) := [(64, { args := [.val (.int .i64)], res := [(T48, .view)], f := sense_reset })]
noncomputable def sense_PowerOn_E : Env := { ty := Re.look tyTab, eq := fun n => memB n [], fn := Re.look sense_PowerOn_fns, cut := fun n => memB n [], win := fun n => memB n [], one := fun n => memB n [], onc := fun n => memB n [], pre := fun n => memB n [], ptr := fun n => memB n [], psl := fun n => memB n [], parr := Re.look [], mpt := Re.look [], lnd := fun n => memB n [] }
noncomputable def sense_PowerOn_an : An (Ds ((([.cell 0 T48] : List RV).map RV.pm).map (·.1) ++ ioTys [])) :=
(.seq (.rg [] none)
(.seq (.rg [] none)
.leaf))
theorem sense_PowerOn_Eok : EnvOk Try.prog sense_PowerOn_E := env_ok tab_ok (by simp) (allFn_mem (show AllFn Try.prog sense_PowerOn_fns from ⟨sense_reset_ok, trivial⟩)) mixed (by kernel_rfl) (by kernel_rfl) (by kernel_rfl) (by kernel_rfl)
theorem sense_PowerOn_eq (x : Unit) : evF sense_PowerOn_E 2 (bd Try.f74) [] [.cell 0 T48] sense_PowerOn_an x = sense_PowerOn x := by kernel_rfl
theorem sense_PowerOn_ok : FnOk Try.prog 74 { args := [], res := [(T48, .view)], f := sense_PowerOn } :=
  fn_ok sense_PowerOn_Eok Try.func74 rfl (by kernel_rfl) (by kernel_rfl) (by kernel_rfl) (rs := [.cell 0 T48]) (c := bd Try.f74) (an := sense_PowerOn_an) (ob_flat _ _ _ _ _ _ _ (by kernel_rfl)) sense_PowerOn_eq
/-! slices_Clip_api_Sense: function 75 -/
noncomputable def slices_Clip_api_Sense_fns : List (Nat × Fun) := []
noncomputable def slices_Clip_api_Sense_E : Env := { ty := Re.look tyTab, eq := fun n => memB n [], fn := Re.look slices_Clip_api_Sense_fns, cut := fun n => memB n [], win := fun n => memB n [], one := fun n => memB n [], onc := fun n => memB n [], pre := fun n => memB n [], ptr := fun n => memB n [], psl := fun n => memB n [], parr := Re.look [], mpt := Re.look [], lnd := fun n => memB n [] }
noncomputable def slices_Clip_api_Sense_an : An (Ds ((([.tmp 2 ((.sl T48), .tail)] : List RV).map RV.pm).map (·.1) ++ ioTys [.val (.sl T48)])) :=
(.seq (.rg [] none)
(.seq (.rg [] none)
.leaf))
theorem slices_Clip_api_Sense_Eok : EnvOk Try.prog slices_Clip_api_Sense_E := env_ok tab_ok (by simp) (allFn_mem (show AllFn Try.prog slices_Clip_api_Sense_fns from trivial)) mixed (by kernel_rfl) (by kernel_rfl) (by kernel_rfl) (by kernel_rfl)
theorem slices_Clip_api_Sense_eq (x : (List (Int × (Int × (Int × Unit))))) : evF slices_Clip_api_Sense_E 9 (bd Try.f75) [.val (.sl T48)] [.tmp 2 ((.sl T48), .tail)] slices_Clip_api_Sense_an x = slices_Clip_api_Sense x := by kernel_rfl
theorem slices_Clip_api_Sense_ok : FnOk Try.prog 75 { args := [.val (.sl T48)], res := [((.sl T48), .tail)], f := slices_Clip_api_Sense } :=
  fn_ok slices_Clip_api_Sense_Eok Try.func75 rfl (by kernel_rfl) (by kernel_rfl) (by kernel_rfl) (rs := [.tmp 2 ((.sl T48), .tail)]) (c := bd Try.f75) (an := slices_Clip_api_Sense_an) (ob_flat _ _ _ _ _ _ _ (by kernel_rfl)) slices_Clip_api_Sense_eq
/-! sense_Add: function 62 -/
noncomputable def sense_Add_fns : List (Nat × Fun) := [(73, { args := [.val (.sl T48), .val T48], res := [(.bool, .view)], f := slices_Contains_api_Sense }), (74, { args := [], res := [(T48, .view)], f := sense_PowerOn }), (75, { args := [.val (.sl T48)], res := [((.sl T48), .tail)], f := slices_Clip_api_Sense })]
noncomputable def sense_Add_E : Env := { ty := Re.look tyTab, eq := fun n => memB n [49], fn := Re.look sense_Add_fns, cut := fun n => memB n [], win := fun n => memB n [], one := fun n => memB n [], onc := fun n => memB n [], pre := fun n => memB n [], ptr := fun n => memB n [], psl := fun n => memB n [], parr := Re.look [], mpt := Re.look [], lnd := fun n => memB n [] }
noncomputable def sense_Add_an : An (Ds ((([.tmp 4 ((.sl T48), .view)] : List RV).map RV.pm).map (·.1) ++ ioTys [.val (.sl T48), .val T48])) :=
(.seq (.rg [] none)
(.seq (.block (.seq (.rg [] none)
(.cond (.seq (.rg [] none)
.leaf) (.seq (.rg [] (some (.op ⟨[48], []⟩ (.op ⟨[192], []⟩ (.op ⟨[], []⟩ (.op ⟨[], []⟩ .done))))))
(.cond (.seq (.rg [] none)
.leaf) (.seq (.rg [] none)
(.cond (.seq (.rg [] none)
.leaf) .leaf)))))))
(.seq (.rg [] (some (.op ⟨[], []⟩ (.op ⟨[352], [352]⟩ (.op ⟨[48], []⟩ (.op ⟨[384], [384]⟩ (.op ⟨[352, 384, 400], [352, 400]⟩ (.op ⟨[], []⟩ .done))))))))
.leaf)))
theorem sense_Add_Eok : EnvOk Try.prog sense_Add_E := env_ok tab_ok (by intro t h; simp only [List.mem_cons, List.mem_nil_iff, or_false, List.not_mem_nil] at h; rcases h with rfl <;> exact ⟨by kernel_rfl, by kernel_rfl, by kernel_rfl⟩) (allFn_mem (show AllFn Try.prog sense_Add_fns from ⟨slices_Contains_api_Sense_ok, sense_PowerOn_ok, slices_Clip_api_Sense_ok, trivial⟩)) mixed (by kernel_rfl) (by kernel_rfl) (by kernel_rfl) (by kernel_rfl)
theorem sense_Add_eq (x : (List (Int × (Int × (Int × Unit)))) × (Int × (Int × (Int × Unit)))) : evF sense_Add_E 26 (bd Try.f62) [.val (.sl T48), .val T48] [.tmp 4 ((.sl T48), .view)] sense_Add_an x = sense_Add x := by kernel_rfl
theorem sense_Add_ok : FnOk Try.prog 62 { args := [.val (.sl T48), .val T48], res := [((.sl T48), .view)], f := sense_Add } :=
  fn_ok sense_Add_Eok Try.func62 rfl (by kernel_rfl) (by kernel_rfl) (by kernel_rfl) (rs := [.tmp 4 ((.sl T48), .view)]) (c := bd Try.f62) (an := sense_Add_an) (ob_flat _ _ _ _ _ _ _ (by kernel_rfl)) sense_Add_eq
/-! unit_Attend_1: function 61 -/
noncomputable def unit_Attend_1_fns : List (Nat × Fun) := [(62, { args := [.val (.sl T48), .val T48], res := [((.sl T48), .view)], f := sense_Add })]
noncomputable def unit_Attend_1_E : Env := { ty := Re.look tyTab, eq := fun n => memB n [], fn := Re.look unit_Attend_1_fns, cut := fun n => memB n [], win := fun n => memB n [], one := fun n => memB n [], onc := fun n => memB n [], pre := fun n => memB n [], ptr := fun n => memB n [], psl := fun n => memB n [], parr := Re.look [], mpt := Re.look [], lnd := fun n => memB n [] }
noncomputable def unit_Attend_1_an : An (Ds ((([] : List RV).map RV.pm).map (·.1) ++ ioTys [.box T50, .pv (.rp T48)])) :=
(.rg [] (some (.op ⟨[], []⟩ (.op ⟨[], []⟩ (.op ⟨[0], []⟩ (.op ⟨[0], []⟩ (.op ⟨[0], []⟩ (.op ⟨[], []⟩ (.op ⟨[144], []⟩ (.op ⟨[0], []⟩ (.op ⟨[0], []⟩ (.op ⟨[0], [0]⟩ .done))))))))))))
theorem unit_Attend_1_Eok : EnvOk Try.prog unit_Attend_1_E := env_ok tab_ok (by simp) (allFn_mem (show AllFn Try.prog unit_Attend_1_fns from ⟨sense_Add_ok, trivial⟩)) mixed (by kernel_rfl) (by kernel_rfl) (by kernel_rfl) (by kernel_rfl)
theorem unit_Attend_1_eq (x : (((List (List (BitVec 8)) × (List (Int × (List (BitVec 8) × Unit)) × Unit)) × (Bool × (Bool × (Bool × Unit)))) × (Bool × (List (Int × (Int × (Int × Unit))) × ((Int × (Int × (Int × Unit))) × Unit)))) × (Int × (Int × (Int × Unit)))) : evF unit_Attend_1_E 12 (bd Try.f61) [.box T50, .pv (.rp T48)] [] unit_Attend_1_an x = unit_Attend_1 x := by kernel_rfl
theorem unit_Attend_1_ok : FnOk Try.prog 61 { args := [.box T50, .pv (.rp T48)], res := [], f := unit_Attend_1 } :=
  fn_ok unit_Attend_1_Eok Try.func61 rfl (by kernel_rfl) (by kernel_rfl) (by kernel_rfl) (rs := []) (c := bd Try.f61) (an := unit_Attend_1_an) (ob_flat _ _ _ _ _ _ _ (by kernel_rfl)) unit_Attend_1_eq
/-! unit_change_c61: function 63 -/
noncomputable def unit_change_c61_fns : List (Nat × Fun) := [(76, { args := [.val (.sl T50), .val (.int .i64)], res := [(.bool, .view)], f := unit_there }), (77, { args := [.val (.sl T50)], res := [((.sl T50), .full)], f := slices_Clone_api_Unit }), (61, { args := [.box T50, .pv (.rp T48)], res := [], f := unit_Attend_1 })]
noncomputable def unit_change_c61_E : Env := { ty := Re.look tyTab, eq := fun n => memB n [], fn := Re.look unit_change_c61_fns, cut := fun n => memB n [], win := fun n => memB n [], one := fun n => memB n [], onc := fun n => memB n [], pre := fun n => memB n [], ptr := fun n => memB n [], psl := fun n => memB n [], parr := Re.look [], mpt := Re.look [], lnd := fun n => memB n [] }
noncomputable def unit_change_c61_an : An (Ds ((([.tmp 6 ((.sl T50), .view)] : List RV).map RV.pm).map (·.1) ++ ioTys [.val (.sl T50), .val (.int .i64), .pv (.clo 61 T48)])) :=
(.seq (.rg [] none)
(.seq (.seq (.rg [] none)
(.cond (.seq (.rg [] none)
.leaf) .leaf))
(.seq (.rg [] none)
(.seq (.rg [] none)
(.seq (.rg [] none)
.leaf)))))
theorem unit_change_c61_Eok : EnvOk Try.prog unit_change_c61_E := env_ok tab_ok (by simp) (allFn_mem (show AllFn Try.prog unit_change_c61_fns from ⟨unit_there_ok, slices_Clone_api_Unit_ok, unit_Attend_1_ok, trivial⟩)) mixed (by kernel_rfl) (by kernel_rfl) (by kernel_rfl) (by kernel_rfl)
theorem unit_change_c61_eq (x : (List (((List (List (BitVec 8)) × (List (Int × (List (BitVec 8) × Unit)) × Unit)) × (Bool × (Bool × (Bool × Unit)))) × (Bool × (List (Int × (Int × (Int × Unit))) × ((Int × (Int × (Int × Unit))) × Unit))))) × Int × (Int × (Int × (Int × Unit)))) : evF unit_change_c61_E 20 (bd Try.f63) [.val (.sl T50), .val (.int .i64), .pv (.clo 61 T48)] [.tmp 6 ((.sl T50), .view)] unit_change_c61_an x = unit_change_c61 x := by kernel_rfl
theorem unit_change_c61_ok : FnOk Try.prog 63 { args := [.val (.sl T50), .val (.int .i64), .pv (.clo 61 T48)], res := [((.sl T50), .view)], f := unit_change_c61 } :=
  fn_ok unit_change_c61_Eok Try.func63 rfl (by kernel_rfl) (by kernel_rfl) (by kernel_rfl) (rs := [.tmp 6 ((.sl T50), .view)]) (c := bd Try.f63) (an := unit_change_c61_an) (ob_flat _ _ _ _ _ _ _ (by kernel_rfl)) unit_change_c61_eq
/-! unit_Attend: function 37 -/
noncomputable def unit_Attend_fns : List (Nat × Fun) := [(63, { args := [.val (.sl T50), .val (.int .i64), .pv (.clo 61 T48)], res := [((.sl T50), .view)], f := unit_change_c61 })]
noncomputable def unit_Attend_E : Env := { ty := Re.look tyTab, eq := fun n => memB n [], fn := Re.look unit_Attend_fns, cut := fun n => memB n [], win := fun n => memB n [], one := fun n => memB n [5], onc := fun n => memB n [], pre := fun n => memB n [], ptr := fun n => memB n [], psl := fun n => memB n [], parr := Re.look [], mpt := Re.look [], lnd := fun n => memB n [] }
noncomputable def unit_Attend_an : An (Ds ((([.tmp 6 ((.sl T50), .view)] : List RV).map RV.pm).map (·.1) ++ ioTys [.val (.sl T50), .val (.int .i64), .val T48])) :=
(.seq (.rg [] none)
(.seq (.rg [] none)
(.seq (.seq (.rg [] none)
(.cond (.seq (.rg [] none)
.leaf) .leaf))
(.seq (.seq (.rg [] none)
(.loop [.val 0 (.sl T50), .pv 7 (.clo 61 T48), .val 17 (.int .i64), .val 18 (.int .i64)] [.val 0 (.sl T50)] unit_Attend_L0
(.seq (.rg [] none)
(.seq (.cond .leaf .leaf)
(.seq (.block (.seq (.rg [] none)
(.rg [] none)))
(.rg [] none))))))
(.seq (.rg [] none)
.leaf)))))
theorem unit_Attend_Eok : EnvOk Try.prog unit_Attend_E := env_ok tab_ok (by simp) (allFn_mem (show AllFn Try.prog unit_Attend_fns from ⟨unit_change_c61_ok, trivial⟩)) mixed (by kernel_rfl) (by kernel_rfl) (by kernel_rfl) (by kernel_rfl)
theorem unit_Attend_eq (x : (List (((List (List (BitVec 8)) × (List (Int × (List (BitVec 8) × Unit)) × Unit)) × (Bool × (Bool × (Bool × Unit)))) × (Bool × (List (Int × (Int × (Int × Unit))) × ((Int × (Int × (Int × Unit))) × Unit))))) × Int × (Int × (Int × (Int × Unit)))) : evF unit_Attend_E 27 (bd Try.f37) [.val (.sl T50), .val (.int .i64), .val T48] [.tmp 6 ((.sl T50), .view)] unit_Attend_an x = unit_Attend x := by kernel_rfl
theorem unit_Attend_ok : FnOk Try.prog 37 { args := [.val (.sl T50), .val (.int .i64), .val T48], res := [((.sl T50), .view)], f := unit_Attend } :=
  fn_ok unit_Attend_Eok Try.func37 rfl (by kernel_rfl) (by kernel_rfl) (by kernel_rfl) (rs := [.tmp 6 ((.sl T50), .view)]) (c := bd Try.f37) (an := unit_Attend_an) (show obF unit_Attend_E 27 (bd Try.f37) [.val (.sl T50), .val (.int .i64), .val T48] [.tmp 6 ((.sl T50), .view)] unit_Attend_an from (And.intro trivial (And.intro trivial (And.intro (And.intro trivial (And.intro (And.intro trivial trivial) trivial)) (And.intro (And.intro trivial (And.intro (fun _ => rfl) (And.intro (fun n j => by kernel_rfl) (fun n => (And.intro trivial (And.intro (And.intro trivial trivial) (And.intro (And.intro trivial trivial) trivial))))))) (And.intro trivial trivial)))))) unit_Attend_eq
/-! manage_meant: function 39 -/
noncomputable def manage_meant_fns : List (Nat × Fun) := [(35, { args := [.val (.sl T69), .val (.int .i64)], res := [((.int .i64), .view)], f := tags_Find })]
noncomputable def manage_meant_E : Env := { ty := Re.look tyTab, eq := fun n => memB n [], fn := Re.look manage_meant_fns, cut := fun n => memB n [], win := fun n => memB n [], one := fun n => memB n [], onc := fun n => memB n [], pre := fun n => memB n [], ptr := fun n => memB n [], psl := fun n => memB n [], parr := Re.look [], mpt := Re.look [], lnd := fun n => memB n [] }
noncomputable def manage_meant_an : An (Ds ((([.tmp 4 ((.sl (.int .i64)), .full)] : List RV).map RV.pm).map (·.1) ++ ioTys [.val T24, .val T27])) :=
(.seq (.rg [] none)
(.seq (.seq (.rg [] none)
(.seq (.rg [] (some (.op ⟨[], []⟩ (.op ⟨[], []⟩ (.op ⟨[], []⟩ (.split 13 [(23, .bool)] (.op ⟨[32], []⟩ (.op ⟨[32], []⟩ (.op ⟨[], []⟩ (.op ⟨[], []⟩ (.op ⟨[], []⟩ (.op ⟨[], []⟩ (.op ⟨[48], []⟩ (.op ⟨[48], []⟩ (.op ⟨[], []⟩ (.op ⟨[], []⟩ .done)))))))))) .done))))))
(.cond (.seq (.rg [] none)
.leaf) .leaf)))
(.seq (.rg [] none)
.leaf)))
theorem manage_meant_Eok : EnvOk Try.prog manage_meant_E := env_ok tab_ok (by simp) (allFn_mem (show AllFn Try.prog manage_meant_fns from ⟨tags_Find_ok, trivial⟩)) mixed (by kernel_rfl) (by kernel_rfl) (by kernel_rfl) (by kernel_rfl)
theorem manage_meant_eq (x : (List (Int × (Int × (List (BitVec 8) × (Int × (List (BitVec 8) × (((Int × (BitVec 64 × (Int × (Int × (Int × Unit))))) × (Int × (Int × (List (BitVec 8) × ((Int × (Int × (Int × Unit))) × Unit))))) × ((Int × (Int × (Int × Unit))) × Unit))))))) × (List (Int × (Int × (List (BitVec 8) × Unit))) × Unit)) × (Int × (Int × (Int × (Int × Unit))))) : evF manage_meant_E 27 (bd Try.f39) [.val T24, .val T27] [.tmp 4 ((.sl (.int .i64)), .full)] manage_meant_an x = manage_meant x := by kernel_rfl
theorem manage_meant_ok : FnOk Try.prog 39 { args := [.val T24, .val T27], res := [((.sl (.int .i64)), .full)], f := manage_meant } :=
  fn_ok manage_meant_Eok Try.func39 rfl (by kernel_rfl) (by kernel_rfl) (by kernel_rfl) (rs := [.tmp 4 ((.sl (.int .i64)), .full)]) (c := bd Try.f39) (an := manage_meant_an) (ob_flat _ _ _ _ _ _ _ (by kernel_rfl)) manage_meant_eq
/-! manage_of: function 40 -/
noncomputable def manage_of_fns : List (Nat × Fun) := []
noncomputable def manage_of_E : Env := { ty := Re.look tyTab, eq := fun n => memB n [], fn := Re.look manage_of_fns, cut := fun n => memB n [], win := fun n => memB n [], one := fun n => memB n [], onc := fun n => memB n [], pre := fun n => memB n [], ptr := fun n => memB n [], psl := fun n => memB n [], parr := Re.look [], mpt := Re.look [], lnd := fun n => memB n [] }
noncomputable def manage_of_an : An (Ds ((([.tmp 4 ((.sl (.int .i64)), .full)] : List RV).map RV.pm).map (·.1) ++ ioTys [.val (.sl T69), .val (.int .i64)])) :=
(.seq (.rg [] none)
(.seq (.seq (.rg [] none)
(.loop [.val 1 (.int .i64), .row 4 (.int .i64) .full, .val 7 (.sl T69), .val 8 (.int .i64), .val 9 (.int .i64)] [.row 4 (.int .i64) .full] manage_of_L0
(.seq (.rg [] none)
(.seq (.cond .leaf .leaf)
(.join [.val 1 (.int .i64), .row 4 (.int .i64) .full, .val 7 (.sl T69), .val 8 (.int .i64), .val 9 (.int .i64)]
(.block (.seq (.rg [] none)
(.seq (.rg [] none)
(.cond (.rg [] none) .leaf))))
(.rg [] none))))))
(.seq (.rg [] none)
.leaf)))
theorem manage_of_Eok : EnvOk Try.prog manage_of_E := env_ok tab_ok (by simp) (allFn_mem (show AllFn Try.prog manage_of_fns from trivial)) mixed (by kernel_rfl) (by kernel_rfl) (by kernel_rfl) (by kernel_rfl)
theorem manage_of_eq (x : (List (Int × (Int × (List (BitVec 8) × (Int × (List (BitVec 8) × (((Int × (BitVec 64 × (Int × (Int × (Int × Unit))))) × (Int × (Int × (List (BitVec 8) × ((Int × (Int × (Int × Unit))) × Unit))))) × ((Int × (Int × (Int × Unit))) × Unit)))))))) × Int) : evF manage_of_E 24 (bd Try.f40) [.val (.sl T69), .val (.int .i64)] [.tmp 4 ((.sl (.int .i64)), .full)] manage_of_an x = manage_of x := by kernel_rfl
theorem manage_of_ok : FnOk Try.prog 40 { args := [.val (.sl T69), .val (.int .i64)], res := [((.sl (.int .i64)), .full)], f := manage_of } :=
  fn_ok manage_of_Eok Try.func40 rfl (by kernel_rfl) (by kernel_rfl) (by kernel_rfl) (rs := [.tmp 4 ((.sl (.int .i64)), .full)]) (c := bd Try.f40) (an := manage_of_an) (show obF manage_of_E 24 (bd Try.f40) [.val (.sl T69), .val (.int .i64)] [.tmp 4 ((.sl (.int .i64)), .full)] manage_of_an from (And.intro trivial (And.intro (And.intro trivial (And.intro (fun _ => rfl) (And.intro (fun n j => by kernel_rfl) (fun n => (And.intro trivial (And.intro (And.intro trivial trivial) (And.intro (And.intro trivial (And.intro trivial (And.intro trivial trivial))) trivial))))))) (And.intro trivial trivial)))) manage_of_eq
/-! sense_UnitReset: function 41 -/
noncomputable def sense_UnitReset_fns : List (Nat × Fun) := [(64, { args := [.val (.int .i64)], res := [(T48, .view)], f := sense_reset })]
noncomputable def sense_UnitReset_E : Env := { ty := Re.look tyTab, eq := fun n => memB n [], fn := Re.look sense_UnitReset_fns, cut := fun n => memB n [], win := fun n => memB n [], one := fun n => memB n [], onc := fun n => memB n [], pre := fun n => memB n [], ptr := fun n => memB n [], psl := fun n => memB n [], parr := Re.look [], mpt := Re.look [], lnd := fun n => memB n [] }
noncomputable def sense_UnitReset_an : An (Ds ((([.cell 0 T48] : List RV).map RV.pm).map (·.1) ++ ioTys [])) :=
(.seq (.rg [] none)
(.seq (.rg [] none)
.leaf))
theorem sense_UnitReset_Eok : EnvOk Try.prog sense_UnitReset_E := env_ok tab_ok (by simp) (allFn_mem (show AllFn Try.prog sense_UnitReset_fns from ⟨sense_reset_ok, trivial⟩)) mixed (by kernel_rfl) (by kernel_rfl) (by kernel_rfl) (by kernel_rfl)
theorem sense_UnitReset_eq (x : Unit) : evF sense_UnitReset_E 2 (bd Try.f41) [] [.cell 0 T48] sense_UnitReset_an x = sense_UnitReset x := by kernel_rfl
theorem sense_UnitReset_ok : FnOk Try.prog 41 { args := [], res := [(T48, .view)], f := sense_UnitReset } :=
  fn_ok sense_UnitReset_Eok Try.func41 rfl (by kernel_rfl) (by kernel_rfl) (by kernel_rfl) (rs := [.cell 0 T48]) (c := bd Try.f41) (an := sense_UnitReset_an) (ob_flat _ _ _ _ _ _ _ (by kernel_rfl)) sense_UnitReset_eq
/-! manage_Do: function 12 -/
noncomputable def manage_Do_fns : List (Nat × Fun) := [(35, { args := [.val (.sl T69), .val (.int .i64)], res := [((.int .i64), .view)], f := tags_Find }), (36, { args := [.val (.sl T69)], res := [((.sl (.int .i64)), .full)], f := tags_Tags }), (16, { args := [.val T24, .val (.sl (.int .i64))], res := [(T24, .view)], f := manage_Drop }), (38, { args := [], res := [(T48, .view)], f := sense_NexusLoss }), (37, { args := [.val (.sl T50), .val (.int .i64), .val T48], res := [((.sl T50), .view)], f := unit_Attend }), (39, { args := [.val T24, .val T27], res := [((.sl (.int .i64)), .full)], f := manage_meant }), (40, { args := [.val (.sl T69), .val (.int .i64)], res := [((.sl (.int .i64)), .full)], f := manage_of }), (41, { args := [], res := [(T48, .view)], f := sense_UnitReset })]
noncomputable def manage_Do_E : Env := { ty := Re.look tyTab, eq := fun n => memB n [], fn := Re.look manage_Do_fns, cut := fun n => memB n [], win := fun n => memB n [], one := fun n => memB n [], onc := fun n => memB n [], pre := fun n => memB n [], ptr := fun n => memB n [], psl := fun n => memB n [], parr := Re.look [], mpt := Re.look [], lnd := fun n => memB n [] }
noncomputable def manage_Do_an : An (Ds ((([.cell 6 T24, .tmp 7 ((.sl T50), .view), .tmp 8 ((.int .i64), .view)] : List RV).map RV.pm).map (·.1) ++ ioTys [.val T24, .val (.sl T50), .val T27])) :=
(.seq (.rg [] none)
(.seq (.seq (.rg [] none)
(.cond (.seq (.rg [288] (some (.op ⟨[48], []⟩ (.op ⟨[48], []⟩ (.op ⟨[48], []⟩ (.op ⟨[288], [288]⟩ (.op ⟨[288, 304], [288]⟩ (.op ⟨[], []⟩ (.op ⟨[96], [96]⟩ (.op ⟨[], []⟩ (.op ⟨[], []⟩ .done)))))))))))
.leaf) .leaf))
(.seq (.seq (.rg [] none)
(.block (.seq (.rg [] none)
(.cond (.seq (.rg [] none)
.leaf) (.join [.val 1 (.sl T50), .box 3 T24, .box 5 T27, .box 6 T24, .val 31 .bool]
(.seq (.rg [] none)
(.cond .leaf (.seq (.rg [] none)
(.cond .leaf (.seq (.rg [] none)
(.cond .leaf (.rg [] none)))))))
(.cond .leaf (.seq (.rg [] none)
.leaf)))))))
(.seq (.seq (.rg [] (some (.op ⟨[80], []⟩ (.op ⟨[80], []⟩ (.op ⟨[], []⟩ (.op ⟨[], []⟩ (.split 39 [(45, .bool)] (.op ⟨[80], []⟩ (.op ⟨[80], []⟩ (.op ⟨[], []⟩ (.op ⟨[], []⟩ (.op ⟨[], []⟩ (.op ⟨[], []⟩ .done)))))) .done)))))))
(.cond (.seq (.rg [] none)
.leaf) .leaf))
(.join [.val 1 (.sl T50), .box 3 T24, .box 6 T24]
(.seq (.rg [] none)
(.block (.seq (.rg [] none)
(.cond (.rg [880] (some (.op ⟨[48], []⟩ (.op ⟨[48], []⟩ (.op ⟨[80], []⟩ (.op ⟨[880], [880]⟩ (.op ⟨[880, 896], [880]⟩ (.op ⟨[48], [48]⟩ .done)))))))) (.seq (.rg [] none)
(.cond (.rg [1024] (some (.op ⟨[48], []⟩ (.op ⟨[48], []⟩ (.op ⟨[48], []⟩ (.op ⟨[80], []⟩ (.op ⟨[80], []⟩ (.op ⟨[1024], [1024]⟩ (.op ⟨[1024, 1040], [1024]⟩ (.op ⟨[48], [48]⟩ .done)))))))))) (.seq (.rg [] none)
(.cond (.rg [1168] (some (.op ⟨[48], []⟩ (.op ⟨[48], []⟩ (.op ⟨[48], []⟩ (.op ⟨[80], []⟩ (.op ⟨[80], []⟩ (.op ⟨[1168], [1168]⟩ (.op ⟨[1168, 1184], [1168]⟩ (.op ⟨[], []⟩ (.op ⟨[80], []⟩ (.op ⟨[80], []⟩ (.op ⟨[1248], []⟩ (.op ⟨[1264], []⟩ (.op ⟨[48], [48]⟩ (.op ⟨[], []⟩ .done)))))))))))))))) (.seq (.rg [] none)
(.cond (.seq (.rg [] none)
(.cond (.seq (.rg [] none)
.leaf) .leaf)) .leaf))))))))))
(.seq (.rg [] none)
.leaf))))))
theorem manage_Do_Eok : EnvOk Try.prog manage_Do_E := env_ok tab_ok (by simp) (allFn_mem (show AllFn Try.prog manage_Do_fns from ⟨tags_Find_ok, tags_Tags_ok, manage_Drop_ok, sense_NexusLoss_ok, unit_Attend_ok, manage_meant_ok, manage_of_ok, sense_UnitReset_ok, trivial⟩)) mixed (by kernel_rfl) (by kernel_rfl) (by kernel_rfl) (by kernel_rfl)
theorem manage_Do_eq (x : (List (Int × (Int × (List (BitVec 8) × (Int × (List (BitVec 8) × (((Int × (BitVec 64 × (Int × (Int × (Int × Unit))))) × (Int × (Int × (List (BitVec 8) × ((Int × (Int × (Int × Unit))) × Unit))))) × ((Int × (Int × (Int × Unit))) × Unit))))))) × (List (Int × (Int × (List (BitVec 8) × Unit))) × Unit)) × (List (((List (List (BitVec 8)) × (List (Int × (List (BitVec 8) × Unit)) × Unit)) × (Bool × (Bool × (Bool × Unit)))) × (Bool × (List (Int × (Int × (Int × Unit))) × ((Int × (Int × (Int × Unit))) × Unit))))) × (Int × (Int × (Int × (Int × Unit))))) : evF manage_Do_E 91 (bd Try.f12) [.val T24, .val (.sl T50), .val T27] [.cell 6 T24, .tmp 7 ((.sl T50), .view), .tmp 8 ((.int .i64), .view)] manage_Do_an x = manage_Do x := by kernel_rfl
theorem manage_Do_ok : FnOk Try.prog 12 { args := [.val T24, .val (.sl T50), .val T27], res := [(T24, .view), ((.sl T50), .view), ((.int .i64), .view)], f := manage_Do } :=
  fn_ok manage_Do_Eok Try.func12 rfl (by kernel_rfl) (by kernel_rfl) (by kernel_rfl) (rs := [.cell 6 T24, .tmp 7 ((.sl T50), .view), .tmp 8 ((.int .i64), .view)]) (c := bd Try.f12) (an := manage_Do_an) (ob_flat _ _ _ _ _ _ _ (by kernel_rfl)) manage_Do_eq
/-! reticulelaw24_alive: function 8 -/
noncomputable def reticulelaw24_alive_fns : List (Nat × Fun) := [(28, { args := [.val (.int .i64), .val (.int .i64)], res := [((.sl T50), .full), ((.int .i64), .view)], f := reticuleref12_Make }), (29, { args := [.val (.int .i64), .val (.int .i64)], res := [(T74, .view)], f := reticuleref22_Ready }), (30, { args := [.val (.int .i64), .val (.int .i64)], res := [(T74, .view)], f := reticuleref22_Response }), (12, { args := [.val T24, .val (.sl T50), .val T27], res := [(T24, .view), ((.sl T50), .view), ((.int .i64), .view)], f := manage_Do }), (26, { args := [.val (.int .i64), .val (.int .i64), .val (.int .i64)], res := [(T48, .view)], f := reticuleref04_Of })]
noncomputable def reticulelaw24_alive_E : Env := { ty := Re.look tyTab, eq := fun n => memB n [49], fn := Re.look reticulelaw24_alive_fns, cut := fun n => memB n [], win := fun n => memB n [], one := fun n => memB n [], onc := fun n => memB n [], pre := fun n => memB n [], ptr := fun n => memB n [], psl := fun n => memB n [], parr := Re.look [], mpt := Re.look [], lnd := fun n => memB n [] }
noncomputable def reticulelaw24_alive_an : An (Ds ((([.tmp 0 (.bool, .view)] : List RV).map RV.pm).map (·.1) ++ ioTys [])) :=
(.seq (.rg [] none)
(.seq (.rg [] none)
(.seq (.rg [] none)
(.seq (.rg [] none)
(.seq (.rg [] none)
(.seq (.rg [] none)
(.seq (.rg [] none)
(.seq (.rg [] none)
(.seq (.seq (.rg [] (some (.op ⟨[], []⟩ (.op ⟨[], []⟩ (.op ⟨[], []⟩ (.op ⟨[], []⟩ (.split 73 [(80, .bool)] (.op ⟨[], []⟩ (.op ⟨[], []⟩ (.op ⟨[], []⟩ (.op ⟨[], []⟩ (.op ⟨[], []⟩ (.op ⟨[], []⟩ (.op ⟨[], []⟩ .done))))))) .done)))))))
(.cond (.seq (.rg [] none)
.leaf) .leaf))
(.seq (.rg [] (some (.op ⟨[], []⟩ (.op ⟨[], []⟩ (.op ⟨[], []⟩ (.split 83 [(88, .bool)] (.op ⟨[64], []⟩ (.op ⟨[64], []⟩ (.op ⟨[], []⟩ (.op ⟨[], []⟩ (.op ⟨[], []⟩ .done))))) (.op ⟨[], []⟩ (.split 89 [(94, .bool)] (.op ⟨[64], []⟩ (.op ⟨[64], []⟩ (.op ⟨[], []⟩ (.op ⟨[], []⟩ (.op ⟨[], []⟩ .done))))) (.op ⟨[], []⟩ (.split 95 [(104, .bool)] (.op ⟨[], []⟩ (.op ⟨[], []⟩ (.op ⟨[], []⟩ (.op ⟨[], []⟩ (.op ⟨[], []⟩ (.op ⟨[], []⟩ (.op ⟨[1632], []⟩ (.op ⟨[], []⟩ (.op ⟨[], []⟩ .done))))))))) (.op ⟨[], []⟩ (.split 105 [(108, .bool)] (.op ⟨[], []⟩ (.op ⟨[], []⟩ (.op ⟨[], []⟩ .done))) (.op ⟨[], []⟩ (.split 109 [(114, .bool)] (.op ⟨[112], []⟩ (.op ⟨[112], []⟩ (.op ⟨[], []⟩ (.op ⟨[], []⟩ (.op ⟨[], []⟩ .done))))) (.op ⟨[], []⟩ (.split 115 [(120, .bool)] (.op ⟨[112], []⟩ (.op ⟨[112], []⟩ (.op ⟨[], []⟩ (.op ⟨[], []⟩ (.op ⟨[], []⟩ .done))))) (.op ⟨[], []⟩ (.split 121 [(124, .bool)] (.op ⟨[], []⟩ (.op ⟨[], []⟩ (.op ⟨[], []⟩ .done))) (.op ⟨[], []⟩ (.split 125 [(128, .bool)] (.op ⟨[], []⟩ (.op ⟨[], []⟩ (.op ⟨[], []⟩ .done))) (.op ⟨[], []⟩ (.split 129 [(132, .bool)] (.op ⟨[], []⟩ (.op ⟨[], []⟩ (.op ⟨[], []⟩ .done))) (.op ⟨[], []⟩ .done)))))))))))))))))))))))
.leaf))))))))))
theorem reticulelaw24_alive_Eok : EnvOk Try.prog reticulelaw24_alive_E := env_ok tab_ok (by intro t h; simp only [List.mem_cons, List.mem_nil_iff, or_false, List.not_mem_nil] at h; rcases h with rfl <;> exact ⟨by kernel_rfl, by kernel_rfl, by kernel_rfl⟩) (allFn_mem (show AllFn Try.prog reticulelaw24_alive_fns from ⟨reticuleref12_Make_ok, reticuleref22_Ready_ok, reticuleref22_Response_ok, manage_Do_ok, reticuleref04_Of_ok, trivial⟩)) mixed (by kernel_rfl) (by kernel_rfl) (by kernel_rfl) (by kernel_rfl)
theorem reticulelaw24_alive_eq (x : Unit) : evF reticulelaw24_alive_E 133 (bd Try.f8) [] [.tmp 0 (.bool, .view)] reticulelaw24_alive_an x = reticulelaw24_alive x := by kernel_rfl
theorem reticulelaw24_alive_ok : FnOk Try.prog 8 { args := [], res := [(.bool, .view)], f := reticulelaw24_alive } :=
  fn_ok reticulelaw24_alive_Eok Try.func8 rfl (by kernel_rfl) (by kernel_rfl) (by kernel_rfl) (rs := [.tmp 0 (.bool, .view)]) (c := bd Try.f8) (an := reticulelaw24_alive_an) (ob_flat _ _ _ _ _ _ _ (by kernel_rfl)) reticulelaw24_alive_eq
/-! reticuleref23_Great: function 31 -/
noncomputable def reticuleref23_Great_fns : List (Nat × Fun) := []
noncomputable def reticuleref23_Great_E : Env := { ty := Re.look tyTab, eq := fun n => memB n [], fn := Re.look reticuleref23_Great_fns, cut := fun n => memB n [], win := fun n => memB n [], one := fun n => memB n [], onc := fun n => memB n [], pre := fun n => memB n [], ptr := fun n => memB n [], psl := fun n => memB n [], parr := Re.look [], mpt := Re.look [], lnd := fun n => memB n [] }
noncomputable def reticuleref23_Great_an : An (Ds ((([.tmp 2 (.bool, .view)] : List RV).map RV.pm).map (·.1) ++ ioTys [.val (.sl T69)])) :=
(.seq (.rg [] none)
(.seq (.seq (.rg [] none)
(.cond (.seq (.rg [] none)
.leaf) .leaf))
(.seq (.seq (.rg [] none)
(.loop [.val 0 (.sl T69), .val 3 (.int .i64)] [] reticuleref23_Great_L0
(.seq (.seq (.rg [] none)
(.cond .leaf .leaf))
(.seq (.block (.seq (.rg [] (some (.op ⟨[], []⟩ (.op ⟨[], []⟩ (.op ⟨[], []⟩ (.op ⟨[], []⟩ (.op ⟨[], []⟩ (.op ⟨[], []⟩ (.op ⟨[], []⟩ (.op ⟨[], []⟩ (.split 20 [(29, .bool)] (.op ⟨[], []⟩ (.op ⟨[], []⟩ (.op ⟨[], []⟩ (.op ⟨[], []⟩ (.op ⟨[], []⟩ (.op ⟨[], []⟩ (.op ⟨[], []⟩ (.op ⟨[], []⟩ (.op ⟨[], []⟩ .done))))))))) .done)))))))))))
(.cond (.seq (.rg [] none)
.leaf) .leaf)))
(.rg [] none)))))
(.seq (.rg [] none)
.leaf))))
theorem reticuleref23_Great_Eok : EnvOk Try.prog reticuleref23_Great_E := env_ok tab_ok (by simp) (allFn_mem (show AllFn Try.prog reticuleref23_Great_fns from trivial)) mixed (by kernel_rfl) (by kernel_rfl) (by kernel_rfl) (by kernel_rfl)
theorem reticuleref23_Great_eq (x : (List (Int × (Int × (List (BitVec 8) × (Int × (List (BitVec 8) × (((Int × (BitVec 64 × (Int × (Int × (Int × Unit))))) × (Int × (Int × (List (BitVec 8) × ((Int × (Int × (Int × Unit))) × Unit))))) × ((Int × (Int × (Int × Unit))) × Unit))))))))) : evF reticuleref23_Great_E 30 (bd Try.f31) [.val (.sl T69)] [.tmp 2 (.bool, .view)] reticuleref23_Great_an x = reticuleref23_Great x := by kernel_rfl
theorem reticuleref23_Great_ok : FnOk Try.prog 31 { args := [.val (.sl T69)], res := [(.bool, .view)], f := reticuleref23_Great } :=
  fn_ok reticuleref23_Great_Eok Try.func31 rfl (by kernel_rfl) (by kernel_rfl) (by kernel_rfl) (rs := [.tmp 2 (.bool, .view)]) (c := bd Try.f31) (an := reticuleref23_Great_an) (show obF reticuleref23_Great_E 30 (bd Try.f31) [.val (.sl T69)] [.tmp 2 (.bool, .view)] reticuleref23_Great_an from (And.intro trivial (And.intro (And.intro trivial (And.intro (And.intro trivial trivial) trivial)) (And.intro (And.intro trivial (And.intro (fun _ => rfl) (And.intro (fun n j => by kernel_rfl) (fun n => (And.intro (And.intro trivial (And.intro trivial trivial)) (And.intro (And.intro trivial (And.intro (And.intro trivial trivial) trivial)) trivial)))))) (And.intro trivial trivial))))) reticuleref23_Great_eq
/-! reticuleref12_Great: function 32 -/
noncomputable def reticuleref12_Great_fns : List (Nat × Fun) := []
noncomputable def reticuleref12_Great_E : Env := { ty := Re.look tyTab, eq := fun n => memB n [], fn := Re.look reticuleref12_Great_fns, cut := fun n => memB n [], win := fun n => memB n [], one := fun n => memB n [], onc := fun n => memB n [], pre := fun n => memB n [], ptr := fun n => memB n [], psl := fun n => memB n [], parr := Re.look [], mpt := Re.look [], lnd := fun n => memB n [] }
noncomputable def reticuleref12_Great_an : An (Ds ((([.tmp 2 (.bool, .view)] : List RV).map RV.pm).map (·.1) ++ ioTys [.val (.sl T50)])) :=
(.seq (.rg [] none)
(.seq (.seq (.rg [] none)
(.cond (.seq (.rg [] none)
.leaf) .leaf))
(.seq (.seq (.rg [] none)
(.loop [.val 0 (.sl T50), .val 3 (.int .i64)] [] reticuleref12_Great_L0
(.seq (.seq (.rg [] none)
(.cond .leaf .leaf))
(.seq (.block (.seq (.rg [] (some (.op ⟨[], []⟩ (.op ⟨[], []⟩ (.op ⟨[], []⟩ (.op ⟨[], []⟩ (.op ⟨[], []⟩ (.op ⟨[], []⟩ (.op ⟨[], []⟩ (.op ⟨[], []⟩ (.op ⟨[], []⟩ (.op ⟨[], []⟩ (.split 22 [(32, .bool)] (.op ⟨[], []⟩ (.op ⟨[], []⟩ (.op ⟨[], []⟩ (.op ⟨[], []⟩ (.op ⟨[], []⟩ (.op ⟨[], []⟩ (.op ⟨[], []⟩ (.op ⟨[], []⟩ (.op ⟨[], []⟩ (.op ⟨[], []⟩ .done)))))))))) (.op ⟨[], []⟩ (.split 33 [(41, .bool)] (.op ⟨[], []⟩ (.op ⟨[], []⟩ (.op ⟨[], []⟩ (.op ⟨[], []⟩ (.op ⟨[], []⟩ (.op ⟨[], []⟩ (.op ⟨[], []⟩ (.op ⟨[], []⟩ .done)))))))) .done)))))))))))))))
(.cond (.seq (.rg [] none)
.leaf) .leaf)))
(.rg [] none)))))
(.seq (.rg [] none)
.leaf))))
theorem reticuleref12_Great_Eok : EnvOk Try.prog reticuleref12_Great_E := env_ok tab_ok (by simp) (allFn_mem (show AllFn Try.prog reticuleref12_Great_fns from trivial)) mixed (by kernel_rfl) (by kernel_rfl) (by kernel_rfl) (by kernel_rfl)
theorem reticuleref12_Great_eq (x : (List (((List (List (BitVec 8)) × (List (Int × (List (BitVec 8) × Unit)) × Unit)) × (Bool × (Bool × (Bool × Unit)))) × (Bool × (List (Int × (Int × (Int × Unit))) × ((Int × (Int × (Int × Unit))) × Unit)))))) : evF reticuleref12_Great_E 42 (bd Try.f32) [.val (.sl T50)] [.tmp 2 (.bool, .view)] reticuleref12_Great_an x = reticuleref12_Great x := by kernel_rfl
theorem reticuleref12_Great_ok : FnOk Try.prog 32 { args := [.val (.sl T50)], res := [(.bool, .view)], f := reticuleref12_Great } :=
  fn_ok reticuleref12_Great_Eok Try.func32 rfl (by kernel_rfl) (by kernel_rfl) (by kernel_rfl) (rs := [.tmp 2 (.bool, .view)]) (c := bd Try.f32) (an := reticuleref12_Great_an) (show obF reticuleref12_Great_E 42 (bd Try.f32) [.val (.sl T50)] [.tmp 2 (.bool, .view)] reticuleref12_Great_an from (And.intro trivial (And.intro (And.intro trivial (And.intro (And.intro trivial trivial) trivial)) (And.intro (And.intro trivial (And.intro (fun _ => rfl) (And.intro (fun n j => by kernel_rfl) (fun n => (And.intro (And.intro trivial (And.intro trivial trivial)) (And.intro (And.intro trivial (And.intro (And.intro trivial trivial) trivial)) trivial)))))) (And.intro trivial trivial))))) reticuleref12_Great_eq
/-! reticuleref24_Great: function 9 -/
noncomputable def reticuleref24_Great_fns : List (Nat × Fun) := [(31, { args := [.val (.sl T69)], res := [(.bool, .view)], f := reticuleref23_Great }), (32, { args := [.val (.sl T50)], res := [(.bool, .view)], f := reticuleref12_Great })]
noncomputable def reticuleref24_Great_E : Env := { ty := Re.look tyTab, eq := fun n => memB n [], fn := Re.look reticuleref24_Great_fns, cut := fun n => memB n [], win := fun n => memB n [], one := fun n => memB n [], onc := fun n => memB n [], pre := fun n => memB n [], ptr := fun n => memB n [], psl := fun n => memB n [], parr := Re.look [], mpt := Re.look [], lnd := fun n => memB n [] }
noncomputable def reticuleref24_Great_an : An (Ds ((([.tmp 4 (.bool, .view)] : List RV).map RV.pm).map (·.1) ++ ioTys [.val T24, .val (.sl T50)])) :=
(.seq (.rg [] none)
(.seq (.seq (.rg [] (some (.op ⟨[32], []⟩ (.op ⟨[32], []⟩ (.op ⟨[128], []⟩ (.op ⟨[], []⟩ (.split 9 [(14, .bool)] (.op ⟨[32], []⟩ (.op ⟨[32], []⟩ (.op ⟨[], []⟩ (.op ⟨[], []⟩ (.op ⟨[], []⟩ .done))))) (.op ⟨[], []⟩ (.split 15 [(18, .bool)] (.op ⟨[], []⟩ (.op ⟨[272], []⟩ (.op ⟨[], []⟩ .done))) .done)))))))))
(.cond (.seq (.rg [] none)
.leaf) .leaf))
(.seq (.seq (.rg [] none)
(.loop [.box 2 T24, .val 5 (.int .i64)] [] reticuleref24_Great_L0
(.seq (.seq (.rg [] none)
(.cond .leaf .leaf))
(.seq (.block (.seq (.rg [] none)
(.cond (.seq (.rg [] none)
.leaf) .leaf)))
(.rg [] none)))))
(.seq (.rg [] none)
.leaf))))
theorem reticuleref24_Great_Eok : EnvOk Try.prog reticuleref24_Great_E := env_ok tab_ok (by simp) (allFn_mem (show AllFn Try.prog reticuleref24_Great_fns from ⟨reticuleref23_Great_ok, reticuleref12_Great_ok, trivial⟩)) mixed (by kernel_rfl) (by kernel_rfl) (by kernel_rfl) (by kernel_rfl)
theorem reticuleref24_Great_eq (x : (List (Int × (Int × (List (BitVec 8) × (Int × (List (BitVec 8) × (((Int × (BitVec 64 × (Int × (Int × (Int × Unit))))) × (Int × (Int × (List (BitVec 8) × ((Int × (Int × (Int × Unit))) × Unit))))) × ((Int × (Int × (Int × Unit))) × Unit))))))) × (List (Int × (Int × (List (BitVec 8) × Unit))) × Unit)) × (List (((List (List (BitVec 8)) × (List (Int × (List (BitVec 8) × Unit)) × Unit)) × (Bool × (Bool × (Bool × Unit)))) × (Bool × (List (Int × (Int × (Int × Unit))) × ((Int × (Int × (Int × Unit))) × Unit)))))) : evF reticuleref24_Great_E 34 (bd Try.f9) [.val T24, .val (.sl T50)] [.tmp 4 (.bool, .view)] reticuleref24_Great_an x = reticuleref24_Great x := by kernel_rfl
theorem reticuleref24_Great_ok : FnOk Try.prog 9 { args := [.val T24, .val (.sl T50)], res := [(.bool, .view)], f := reticuleref24_Great } :=
  fn_ok reticuleref24_Great_Eok Try.func9 rfl (by kernel_rfl) (by kernel_rfl) (by kernel_rfl) (rs := [.tmp 4 (.bool, .view)]) (c := bd Try.f9) (an := reticuleref24_Great_an) (show obF reticuleref24_Great_E 34 (bd Try.f9) [.val T24, .val (.sl T50)] [.tmp 4 (.bool, .view)] reticuleref24_Great_an from (And.intro trivial (And.intro (And.intro trivial (And.intro (And.intro trivial trivial) trivial)) (And.intro (And.intro trivial (And.intro (fun _ => rfl) (And.intro (fun n j => by kernel_rfl) (fun n => (And.intro (And.intro trivial (And.intro trivial trivial)) (And.intro (And.intro trivial (And.intro (And.intro trivial trivial) trivial)) trivial)))))) (And.intro trivial trivial))))) reticuleref24_Great_eq
/-! reticuleref23_Copy: function 33 -/
noncomputable def reticuleref23_Copy_fns : List (Nat × Fun) := []
noncomputable def reticuleref23_Copy_E : Env := { ty := Re.look tyTab, eq := fun n => memB n [], fn := Re.look reticuleref23_Copy_fns, cut := fun n => memB n [], win := fun n => memB n [], one := fun n => memB n [], onc := fun n => memB n [], pre := fun n => memB n [], ptr := fun n => memB n [], psl := fun n => memB n [], parr := Re.look [], mpt := Re.look [], lnd := fun n => memB n [] }
noncomputable def reticuleref23_Copy_an : An (Ds ((([.tmp 2 ((.sl T69), .full)] : List RV).map RV.pm).map (·.1) ++ ioTys [.val (.sl T69)])) :=
(.seq (.rg [] none)
(.seq (.rg [] none)
(.seq (.seq (.rg [] none)
(.loop [.val 0 (.sl T69), .row 3 T69 .full, .val 4 (.int .i64)] [.row 3 T69 .full] reticuleref23_Copy_L0
(.seq (.seq (.rg [] none)
(.cond .leaf .leaf))
(.seq (.block (.seq (.rg [] none)
(.seq (.rg [] none)
(.seq (.rg [] none)
(.rg [] none)))))
(.rg [] none)))))
(.seq (.rg [] none)
.leaf))))
theorem reticuleref23_Copy_Eok : EnvOk Try.prog reticuleref23_Copy_E := env_ok tab_ok (by simp) (allFn_mem (show AllFn Try.prog reticuleref23_Copy_fns from trivial)) mixed (by kernel_rfl) (by kernel_rfl) (by kernel_rfl) (by kernel_rfl)
theorem reticuleref23_Copy_eq (x : (List (Int × (Int × (List (BitVec 8) × (Int × (List (BitVec 8) × (((Int × (BitVec 64 × (Int × (Int × (Int × Unit))))) × (Int × (Int × (List (BitVec 8) × ((Int × (Int × (Int × Unit))) × Unit))))) × ((Int × (Int × (Int × Unit))) × Unit))))))))) : evF reticuleref23_Copy_E 33 (bd Try.f33) [.val (.sl T69)] [.tmp 2 ((.sl T69), .full)] reticuleref23_Copy_an x = reticuleref23_Copy x := by kernel_rfl
theorem reticuleref23_Copy_ok : FnOk Try.prog 33 { args := [.val (.sl T69)], res := [((.sl T69), .full)], f := reticuleref23_Copy } :=
  fn_ok reticuleref23_Copy_Eok Try.func33 rfl (by kernel_rfl) (by kernel_rfl) (by kernel_rfl) (rs := [.tmp 2 ((.sl T69), .full)]) (c := bd Try.f33) (an := reticuleref23_Copy_an) (show obF reticuleref23_Copy_E 33 (bd Try.f33) [.val (.sl T69)] [.tmp 2 ((.sl T69), .full)] reticuleref23_Copy_an from (And.intro trivial (And.intro trivial (And.intro (And.intro trivial (And.intro (fun _ => rfl) (And.intro (fun n j => by kernel_rfl) (fun n => (And.intro (And.intro trivial (And.intro trivial trivial)) (And.intro (And.intro trivial (And.intro trivial (And.intro trivial trivial))) trivial)))))) (And.intro trivial trivial))))) reticuleref23_Copy_eq
/-! reticuleref24_Copy: function 10 -/
noncomputable def reticuleref24_Copy_fns : List (Nat × Fun) := [(33, { args := [.val (.sl T69)], res := [((.sl T69), .full)], f := reticuleref23_Copy })]
noncomputable def reticuleref24_Copy_E : Env := { ty := Re.look tyTab, eq := fun n => memB n [], fn := Re.look reticuleref24_Copy_fns, cut := fun n => memB n [], win := fun n => memB n [], one := fun n => memB n [], onc := fun n => memB n [], pre := fun n => memB n [], ptr := fun n => memB n [], psl := fun n => memB n [], parr := Re.look [], mpt := Re.look [], lnd := fun n => memB n [], gal := fun n => (Re.look ([(3, [(1, 3)])] : List (Nat × List (Nat × Nat))) n).getD [], gld := fun n => memB n [28], gst := fun n => memB n [48, 49, 496], gbd := fun n => (Re.look ([(9, [(1, 3)])] : List (Nat × List (Nat × Nat))) n).getD [] }
noncomputable def reticuleref24_Copy_an : An (Ds ((([.cell 2 T24] : List RV).map RV.pm).map (·.1) ++ ioTys [.val T24])) :=
(.seq (.rg [] none)
(.seq (.rg [] none)
(.seq (.seq (.rg [] none)
(.loop [.box 1 T24, .box 2 T24, .gbx 3 T24 [(1, 3)], .val 4 (.int .i64)] [.box 2 T24, .gbx 3 T24 [(1, 3)]] reticuleref24_Copy_L0
(.seq (.seq (.rg [] none)
(.cond .leaf .leaf))
(.seq (.block (.seq (.rg [] none)
(.seq (.rg [] none)
(.rg [] none))))
(.rg [] none)))))
(.seq (.rg [] none)
.leaf))))
theorem reticuleref24_Copy_Eok : EnvOk Try.prog reticuleref24_Copy_E := env_ok tab_ok (by simp) (allFn_mem (show AllFn Try.prog reticuleref24_Copy_fns from ⟨reticuleref23_Copy_ok, trivial⟩)) mixed (by kernel_rfl) (by kernel_rfl) (by kernel_rfl) (by kernel_rfl)
theorem reticuleref24_Copy_eq (x : (List (Int × (Int × (List (BitVec 8) × (Int × (List (BitVec 8) × (((Int × (BitVec 64 × (Int × (Int × (Int × Unit))))) × (Int × (Int × (List (BitVec 8) × ((Int × (Int × (Int × Unit))) × Unit))))) × ((Int × (Int × (Int × Unit))) × Unit))))))) × (List (Int × (Int × (List (BitVec 8) × Unit))) × Unit))) : evF reticuleref24_Copy_E 34 (bd Try.f10) [.val T24] [.cell 2 T24] reticuleref24_Copy_an x = reticuleref24_Copy x := by kernel_rfl
theorem reticuleref24_Copy_ok : FnOk Try.prog 10 { args := [.val T24], res := [(T24, .view)], f := reticuleref24_Copy } :=
  fn_ok reticuleref24_Copy_Eok Try.func10 rfl (by kernel_rfl) (by kernel_rfl) (by kernel_rfl) (rs := [.cell 2 T24]) (c := bd Try.f10) (an := reticuleref24_Copy_an) (show obF reticuleref24_Copy_E 34 (bd Try.f10) [.val T24] [.cell 2 T24] reticuleref24_Copy_an from (And.intro trivial (And.intro trivial (And.intro (And.intro trivial (And.intro (fun _ => rfl) (And.intro (fun n j => by kernel_rfl) (fun n => (And.intro (And.intro trivial (And.intro trivial trivial)) (And.intro (And.intro trivial (And.intro trivial trivial)) trivial)))))) (And.intro trivial trivial))))) reticuleref24_Copy_eq
/-! reticuleref02_Copy: function 50 -/
noncomputable def reticuleref02_Copy_fns : List (Nat × Fun) := []
noncomputable def reticuleref02_Copy_E : Env := { ty := Re.look tyTab, eq := fun n => memB n [], fn := Re.look reticuleref02_Copy_fns, cut := fun n => memB n [], win := fun n => memB n [], one := fun n => memB n [], onc := fun n => memB n [], pre := fun n => memB n [], ptr := fun n => memB n [], psl := fun n => memB n [], parr := Re.look [], mpt := Re.look [], lnd := fun n => memB n [] }
noncomputable def reticuleref02_Copy_an : An (Ds ((([.tmp 2 ((.sl (.arr 64 (.int .u8))), .full)] : List RV).map RV.pm).map (·.1) ++ ioTys [.val (.sl (.arr 64 (.int .u8)))])) :=
(.seq (.rg [] none)
(.seq (.rg [] none)
.leaf))
theorem reticuleref02_Copy_Eok : EnvOk Try.prog reticuleref02_Copy_E := env_ok tab_ok (by simp) (allFn_mem (show AllFn Try.prog reticuleref02_Copy_fns from trivial)) mixed (by kernel_rfl) (by kernel_rfl) (by kernel_rfl) (by kernel_rfl)
theorem reticuleref02_Copy_eq (x : (List (List (BitVec 8)))) : evF reticuleref02_Copy_E 6 (bd Try.f50) [.val (.sl (.arr 64 (.int .u8)))] [.tmp 2 ((.sl (.arr 64 (.int .u8))), .full)] reticuleref02_Copy_an x = reticuleref02_Copy x := by kernel_rfl
theorem reticuleref02_Copy_ok : FnOk Try.prog 50 { args := [.val (.sl (.arr 64 (.int .u8)))], res := [((.sl (.arr 64 (.int .u8))), .full)], f := reticuleref02_Copy } :=
  fn_ok reticuleref02_Copy_Eok Try.func50 rfl (by kernel_rfl) (by kernel_rfl) (by kernel_rfl) (rs := [.tmp 2 ((.sl (.arr 64 (.int .u8))), .full)]) (c := bd Try.f50) (an := reticuleref02_Copy_an) (ob_flat _ _ _ _ _ _ _ (by kernel_rfl)) reticuleref02_Copy_eq
/-! reticuleref03_Copy: function 72 -/
noncomputable def reticuleref03_Copy_fns : List (Nat × Fun) := [(50, { args := [.val (.sl (.arr 64 (.int .u8)))], res := [((.sl (.arr 64 (.int .u8))), .full)], f := reticuleref02_Copy })]
noncomputable def reticuleref03_Copy_E : Env := { ty := Re.look tyTab, eq := fun n => memB n [], fn := Re.look reticuleref03_Copy_fns, cut := fun n => memB n [], win := fun n => memB n [], one := fun n => memB n [], onc := fun n => memB n [], pre := fun n => memB n [], ptr := fun n => memB n [], psl := fun n => memB n [], parr := Re.look [], mpt := Re.look [], lnd := fun n => memB n [] }
noncomputable def reticuleref03_Copy_an : An (Ds ((([.cell 2 T43] : List RV).map RV.pm).map (·.1) ++ ioTys [.val T43])) :=
(.seq (.rg [] none)
(.seq (.rg [80, 144] (some (.op ⟨[16], []⟩ (.op ⟨[16], []⟩ (.op ⟨[80], [80]⟩ (.op ⟨[96], [96]⟩ (.op ⟨[16], []⟩ (.op ⟨[16], []⟩ (.op ⟨[96, 144], [96, 144]⟩ (.op ⟨[80, 144], [80, 144]⟩ (.op ⟨[32], [32]⟩ .done)))))))))))
.leaf))
theorem reticuleref03_Copy_Eok : EnvOk Try.prog reticuleref03_Copy_E := env_ok tab_ok (by simp) (allFn_mem (show AllFn Try.prog reticuleref03_Copy_fns from ⟨reticuleref02_Copy_ok, trivial⟩)) mixed (by kernel_rfl) (by kernel_rfl) (by kernel_rfl) (by kernel_rfl)
theorem reticuleref03_Copy_eq (x : (List (List (BitVec 8)) × (List (Int × (List (BitVec 8) × Unit)) × Unit))) : evF reticuleref03_Copy_E 11 (bd Try.f72) [.val T43] [.cell 2 T43] reticuleref03_Copy_an x = reticuleref03_Copy x := by kernel_rfl
theorem reticuleref03_Copy_ok : FnOk Try.prog 72 { args := [.val T43], res := [(T43, .view)], f := reticuleref03_Copy } :=
  fn_ok reticuleref03_Copy_Eok Try.func72 rfl (by kernel_rfl) (by kernel_rfl) (by kernel_rfl) (rs := [.cell 2 T43]) (c := bd Try.f72) (an := reticuleref03_Copy_an) (ob_flat _ _ _ _ _ _ _ (by kernel_rfl)) reticuleref03_Copy_eq
/-! reticuleref05_Copy: function 55 -/
noncomputable def reticuleref05_Copy_fns : List (Nat × Fun) := [(72, { args := [.val T43], res := [(T43, .view)], f := reticuleref03_Copy })]
noncomputable def reticuleref05_Copy_E : Env := { ty := Re.look tyTab, eq := fun n => memB n [], fn := Re.look reticuleref05_Copy_fns, cut := fun n => memB n [], win := fun n => memB n [], one := fun n => memB n [], onc := fun n => memB n [], pre := fun n => memB n [], ptr := fun n => memB n [], psl := fun n => memB n [], parr := Re.look [], mpt := Re.look [], lnd := fun n => memB n [] }
noncomputable def reticuleref05_Copy_an : An (Ds ((([.cell 2 T45] : List RV).map RV.pm).map (·.1) ++ ioTys [.val T45])) :=
(.seq (.rg [] none)
(.seq (.rg [] none)
(.seq (.rg [] none)
.leaf)))
theorem reticuleref05_Copy_Eok : EnvOk Try.prog reticuleref05_Copy_E := env_ok tab_ok (by simp) (allFn_mem (show AllFn Try.prog reticuleref05_Copy_fns from ⟨reticuleref03_Copy_ok, trivial⟩)) mixed (by kernel_rfl) (by kernel_rfl) (by kernel_rfl) (by kernel_rfl)
theorem reticuleref05_Copy_eq (x : ((List (List (BitVec 8)) × (List (Int × (List (BitVec 8) × Unit)) × Unit)) × (Bool × (Bool × (Bool × Unit))))) : evF reticuleref05_Copy_E 8 (bd Try.f55) [.val T45] [.cell 2 T45] reticuleref05_Copy_an x = reticuleref05_Copy x := by kernel_rfl
theorem reticuleref05_Copy_ok : FnOk Try.prog 55 { args := [.val T45], res := [(T45, .view)], f := reticuleref05_Copy } :=
  fn_ok reticuleref05_Copy_Eok Try.func55 rfl (by kernel_rfl) (by kernel_rfl) (by kernel_rfl) (rs := [.cell 2 T45]) (c := bd Try.f55) (an := reticuleref05_Copy_an) (ob_flat _ _ _ _ _ _ _ (by kernel_rfl)) reticuleref05_Copy_eq
/-! reticuleref10_Copy: function 34 -/
noncomputable def reticuleref10_Copy_fns : List (Nat × Fun) := [(55, { args := [.val T45], res := [(T45, .view)], f := reticuleref05_Copy })]
noncomputable def reticuleref10_Copy_E : Env := { ty := Re.look tyTab, eq := fun n => memB n [], fn := Re.look reticuleref10_Copy_fns, cut := fun n => memB n [], win := fun n => memB n [], one := fun n => memB n [], onc := fun n => memB n [], pre := fun n => memB n [], ptr := fun n => memB n [], psl := fun n => memB n [], parr := Re.look [], mpt := Re.look [], lnd := fun n => memB n [] }
noncomputable def reticuleref10_Copy_an : An (Ds ((([.cell 2 T50] : List RV).map RV.pm).map (·.1) ++ ioTys [.val T50])) :=
(.seq (.rg [] none)
(.seq (.rg [] none)
(.seq (.rg [] none)
(.seq (.rg [] none)
.leaf))))
theorem reticuleref10_Copy_Eok : EnvOk Try.prog reticuleref10_Copy_E := env_ok tab_ok (by simp) (allFn_mem (show AllFn Try.prog reticuleref10_Copy_fns from ⟨reticuleref05_Copy_ok, trivial⟩)) mixed (by kernel_rfl) (by kernel_rfl) (by kernel_rfl) (by kernel_rfl)
theorem reticuleref10_Copy_eq (x : (((List (List (BitVec 8)) × (List (Int × (List (BitVec 8) × Unit)) × Unit)) × (Bool × (Bool × (Bool × Unit)))) × (Bool × (List (Int × (Int × (Int × Unit))) × ((Int × (Int × (Int × Unit))) × Unit))))) : evF reticuleref10_Copy_E 13 (bd Try.f34) [.val T50] [.cell 2 T50] reticuleref10_Copy_an x = reticuleref10_Copy x := by kernel_rfl
theorem reticuleref10_Copy_ok : FnOk Try.prog 34 { args := [.val T50], res := [(T50, .view)], f := reticuleref10_Copy } :=
  fn_ok reticuleref10_Copy_Eok Try.func34 rfl (by kernel_rfl) (by kernel_rfl) (by kernel_rfl) (rs := [.cell 2 T50]) (c := bd Try.f34) (an := reticuleref10_Copy_an) (ob_flat _ _ _ _ _ _ _ (by kernel_rfl)) reticuleref10_Copy_eq
/-! reticuleref12_Copy: function 11 -/
noncomputable def reticuleref12_Copy_fns : List (Nat × Fun) := [(34, { args := [.val T50], res := [(T50, .view)], f := reticuleref10_Copy })]
noncomputable def reticuleref12_Copy_E : Env := { ty := Re.look tyTab, eq := fun n => memB n [], fn := Re.look reticuleref12_Copy_fns, cut := fun n => memB n [], win := fun n => memB n [], one := fun n => memB n [], onc := fun n => memB n [], pre := fun n => memB n [], ptr := fun n => memB n [], psl := fun n => memB n [], parr := Re.look [], mpt := Re.look [], lnd := fun n => memB n [] }
noncomputable def reticuleref12_Copy_an : An (Ds ((([.tmp 2 ((.sl T50), .full)] : List RV).map RV.pm).map (·.1) ++ ioTys [.val (.sl T50)])) :=
(.seq (.rg [] none)
(.seq (.rg [] none)
(.seq (.seq (.rg [] none)
(.loop [.val 0 (.sl T50), .row 3 T50 .full, .val 4 (.int .i64)] [.row 3 T50 .full] reticuleref12_Copy_L0
(.seq (.seq (.rg [] none)
(.cond .leaf .leaf))
(.seq (.block (.rg [] none))
(.rg [] none)))))
(.seq (.rg [] none)
.leaf))))
theorem reticuleref12_Copy_Eok : EnvOk Try.prog reticuleref12_Copy_E := env_ok tab_ok (by simp) (allFn_mem (show AllFn Try.prog reticuleref12_Copy_fns from ⟨reticuleref10_Copy_ok, trivial⟩)) mixed (by kernel_rfl) (by kernel_rfl) (by kernel_rfl) (by kernel_rfl)
theorem reticuleref12_Copy_eq (x : (List (((List (List (BitVec 8)) × (List (Int × (List (BitVec 8) × Unit)) × Unit)) × (Bool × (Bool × (Bool × Unit)))) × (Bool × (List (Int × (Int × (Int × Unit))) × ((Int × (Int × (Int × Unit))) × Unit)))))) : evF reticuleref12_Copy_E 20 (bd Try.f11) [.val (.sl T50)] [.tmp 2 ((.sl T50), .full)] reticuleref12_Copy_an x = reticuleref12_Copy x := by kernel_rfl
theorem reticuleref12_Copy_ok : FnOk Try.prog 11 { args := [.val (.sl T50)], res := [((.sl T50), .full)], f := reticuleref12_Copy } :=
  fn_ok reticuleref12_Copy_Eok Try.func11 rfl (by kernel_rfl) (by kernel_rfl) (by kernel_rfl) (rs := [.tmp 2 ((.sl T50), .full)]) (c := bd Try.f11) (an := reticuleref12_Copy_an) (show obF reticuleref12_Copy_E 20 (bd Try.f11) [.val (.sl T50)] [.tmp 2 ((.sl T50), .full)] reticuleref12_Copy_an from (And.intro trivial (And.intro trivial (And.intro (And.intro trivial (And.intro (fun _ => rfl) (And.intro (fun n j => by kernel_rfl) (fun n => (And.intro (And.intro trivial (And.intro trivial trivial)) (And.intro trivial trivial)))))) (And.intro trivial trivial))))) reticuleref12_Copy_eq
/-! reticuleref23_Find: function 22 -/
noncomputable def reticuleref23_Find_fns : List (Nat × Fun) := []
noncomputable def reticuleref23_Find_E : Env := { ty := Re.look tyTab, eq := fun n => memB n [], fn := Re.look reticuleref23_Find_fns, cut := fun n => memB n [], win := fun n => memB n [], one := fun n => memB n [], onc := fun n => memB n [], pre := fun n => memB n [], ptr := fun n => memB n [], psl := fun n => memB n [], parr := Re.look [], mpt := Re.look [], lnd := fun n => memB n [] }
noncomputable def reticuleref23_Find_an : An (Ds ((([.tmp 4 ((.int .i64), .view)] : List RV).map RV.pm).map (·.1) ++ ioTys [.val (.sl T69), .val (.int .i64)])) :=
(.seq (.rg [] none)
(.seq (.seq (.rg [] none)
(.loop [.val 0 (.sl T69), .val 1 (.int .i64), .val 5 (.int .i64)] [] reticuleref23_Find_L0
(.seq (.seq (.rg [] none)
(.cond .leaf .leaf))
(.seq (.block (.seq (.rg [] none)
(.cond (.seq (.rg [] none)
.leaf) .leaf)))
(.rg [] none)))))
(.seq (.rg [] none)
.leaf)))
theorem reticuleref23_Find_Eok : EnvOk Try.prog reticuleref23_Find_E := env_ok tab_ok (by simp) (allFn_mem (show AllFn Try.prog reticuleref23_Find_fns from trivial)) mixed (by kernel_rfl) (by kernel_rfl) (by kernel_rfl) (by kernel_rfl)
theorem reticuleref23_Find_eq (x : (List (Int × (Int × (List (BitVec 8) × (Int × (List (BitVec 8) × (((Int × (BitVec 64 × (Int × (Int × (Int × Unit))))) × (Int × (Int × (List (BitVec 8) × ((Int × (Int × (Int × Unit))) × Unit))))) × ((Int × (Int × (Int × Unit))) × Unit)))))))) × Int) : evF reticuleref23_Find_E 20 (bd Try.f22) [.val (.sl T69), .val (.int .i64)] [.tmp 4 ((.int .i64), .view)] reticuleref23_Find_an x = reticuleref23_Find x := by kernel_rfl
theorem reticuleref23_Find_ok : FnOk Try.prog 22 { args := [.val (.sl T69), .val (.int .i64)], res := [((.int .i64), .view)], f := reticuleref23_Find } :=
  fn_ok reticuleref23_Find_Eok Try.func22 rfl (by kernel_rfl) (by kernel_rfl) (by kernel_rfl) (rs := [.tmp 4 ((.int .i64), .view)]) (c := bd Try.f22) (an := reticuleref23_Find_an) (show obF reticuleref23_Find_E 20 (bd Try.f22) [.val (.sl T69), .val (.int .i64)] [.tmp 4 ((.int .i64), .view)] reticuleref23_Find_an from (And.intro trivial (And.intro (And.intro trivial (And.intro (fun _ => rfl) (And.intro (fun n j => by kernel_rfl) (fun n => (And.intro (And.intro trivial (And.intro trivial trivial)) (And.intro (And.intro trivial (And.intro (And.intro trivial trivial) trivial)) trivial)))))) (And.intro trivial trivial)))) reticuleref23_Find_eq
/-! reticuleref23_Tags: function 42 -/
noncomputable def reticuleref23_Tags_fns : List (Nat × Fun) := []
noncomputable def reticuleref23_Tags_E : Env := { ty := Re.look tyTab, eq := fun n => memB n [], fn := Re.look reticuleref23_Tags_fns, cut := fun n => memB n [], win := fun n => memB n [], one := fun n => memB n [], onc := fun n => memB n [], pre := fun n => memB n [], ptr := fun n => memB n [], psl := fun n => memB n [], parr := Re.look [], mpt := Re.look [], lnd := fun n => memB n [] }
noncomputable def reticuleref23_Tags_an : An (Ds ((([.tmp 2 ((.sl (.int .i64)), .full)] : List RV).map RV.pm).map (·.1) ++ ioTys [.val (.sl T69)])) :=
(.seq (.rg [] none)
(.seq (.rg [] none)
(.seq (.seq (.rg [] none)
(.loop [.val 0 (.sl T69), .row 3 (.int .i64) .full, .val 4 (.int .i64)] [.row 3 (.int .i64) .full] reticuleref23_Tags_L0
(.seq (.seq (.rg [] none)
(.cond .leaf .leaf))
(.seq (.block (.rg [] none))
(.rg [] none)))))
(.seq (.rg [] none)
.leaf))))
theorem reticuleref23_Tags_Eok : EnvOk Try.prog reticuleref23_Tags_E := env_ok tab_ok (by simp) (allFn_mem (show AllFn Try.prog reticuleref23_Tags_fns from trivial)) mixed (by kernel_rfl) (by kernel_rfl) (by kernel_rfl) (by kernel_rfl)
theorem reticuleref23_Tags_eq (x : (List (Int × (Int × (List (BitVec 8) × (Int × (List (BitVec 8) × (((Int × (BitVec 64 × (Int × (Int × (Int × Unit))))) × (Int × (Int × (List (BitVec 8) × ((Int × (Int × (Int × Unit))) × Unit))))) × ((Int × (Int × (Int × Unit))) × Unit))))))))) : evF reticuleref23_Tags_E 20 (bd Try.f42) [.val (.sl T69)] [.tmp 2 ((.sl (.int .i64)), .full)] reticuleref23_Tags_an x = reticuleref23_Tags x := by kernel_rfl
theorem reticuleref23_Tags_ok : FnOk Try.prog 42 { args := [.val (.sl T69)], res := [((.sl (.int .i64)), .full)], f := reticuleref23_Tags } :=
  fn_ok reticuleref23_Tags_Eok Try.func42 rfl (by kernel_rfl) (by kernel_rfl) (by kernel_rfl) (rs := [.tmp 2 ((.sl (.int .i64)), .full)]) (c := bd Try.f42) (an := reticuleref23_Tags_an) (show obF reticuleref23_Tags_E 20 (bd Try.f42) [.val (.sl T69)] [.tmp 2 ((.sl (.int .i64)), .full)] reticuleref23_Tags_an from (And.intro trivial (And.intro trivial (And.intro (And.intro trivial (And.intro (fun _ => rfl) (And.intro (fun n j => by kernel_rfl) (fun n => (And.intro (And.intro trivial (And.intro trivial trivial)) (And.intro trivial trivial)))))) (And.intro trivial trivial))))) reticuleref23_Tags_eq
/-! reticuleref01_Has: function 48 -/
noncomputable def reticuleref01_Has_fns : List (Nat × Fun) := []
noncomputable def reticuleref01_Has_E : Env := { ty := Re.look tyTab, eq := fun n => memB n [], fn := Re.look reticuleref01_Has_fns, cut := fun n => memB n [], win := fun n => memB n [], one := fun n => memB n [], onc := fun n => memB n [], pre := fun n => memB n [], ptr := fun n => memB n [], psl := fun n => memB n [], parr := Re.look [], mpt := Re.look [], lnd := fun n => memB n [] }
noncomputable def reticuleref01_Has_an : An (Ds ((([.tmp 4 (.bool, .view)] : List RV).map RV.pm).map (·.1) ++ ioTys [.val (.sl (.int .i64)), .val (.int .i64)])) :=
(.seq (.rg [] none)
(.seq (.seq (.rg [] none)
(.loop [.val 0 (.sl (.int .i64)), .val 1 (.int .i64), .val 5 (.int .i64)] [] reticuleref01_Has_L0
(.seq (.seq (.rg [] none)
(.cond .leaf .leaf))
(.seq (.block (.seq (.rg [] none)
(.cond (.seq (.rg [] none)
.leaf) .leaf)))
(.rg [] none)))))
(.seq (.rg [] none)
.leaf)))
theorem reticuleref01_Has_Eok : EnvOk Try.prog reticuleref01_Has_E := env_ok tab_ok (by simp) (allFn_mem (show AllFn Try.prog reticuleref01_Has_fns from trivial)) mixed (by kernel_rfl) (by kernel_rfl) (by kernel_rfl) (by kernel_rfl)
theorem reticuleref01_Has_eq (x : (List Int) × Int) : evF reticuleref01_Has_E 18 (bd Try.f48) [.val (.sl (.int .i64)), .val (.int .i64)] [.tmp 4 (.bool, .view)] reticuleref01_Has_an x = reticuleref01_Has x := by kernel_rfl
theorem reticuleref01_Has_ok : FnOk Try.prog 48 { args := [.val (.sl (.int .i64)), .val (.int .i64)], res := [(.bool, .view)], f := reticuleref01_Has } :=
  fn_ok reticuleref01_Has_Eok Try.func48 rfl (by kernel_rfl) (by kernel_rfl) (by kernel_rfl) (rs := [.tmp 4 (.bool, .view)]) (c := bd Try.f48) (an := reticuleref01_Has_an) (show obF reticuleref01_Has_E 18 (bd Try.f48) [.val (.sl (.int .i64)), .val (.int .i64)] [.tmp 4 (.bool, .view)] reticuleref01_Has_an from (And.intro trivial (And.intro (And.intro trivial (And.intro (fun _ => rfl) (And.intro (fun n j => by kernel_rfl) (fun n => (And.intro (And.intro trivial (And.intro trivial trivial)) (And.intro (And.intro trivial (And.intro (And.intro trivial trivial) trivial)) trivial)))))) (And.intro trivial trivial)))) reticuleref01_Has_eq
/-! reticuleref24_Drop: function 17 -/
noncomputable def reticuleref24_Drop_fns : List (Nat × Fun) := [(48, { args := [.val (.sl (.int .i64)), .val (.int .i64)], res := [(.bool, .view)], f := reticuleref01_Has })]
noncomputable def reticuleref24_Drop_E : Env := { ty := Re.look tyTab, eq := fun n => memB n [], fn := Re.look reticuleref24_Drop_fns, cut := fun n => memB n [], win := fun n => memB n [], one := fun n => memB n [], onc := fun n => memB n [], pre := fun n => memB n [], ptr := fun n => memB n [], psl := fun n => memB n [], parr := Re.look [], mpt := Re.look [], lnd := fun n => memB n [], gal := fun n => (Re.look ([(5, [(0, 34), (1, 3)])] : List (Nat × List (Nat × Nat))) n).getD [], gld := fun n => memB n [26, 63], gst := fun n => memB n [81, 528, 1056], gbd := fun n => (Re.look ([] : List (Nat × List (Nat × Nat))) n).getD [] }
noncomputable def reticuleref24_Drop_an : An (Ds ((([.cell 4 T24] : List RV).map RV.pm).map (·.1) ++ ioTys [.val T24, .val (.sl (.int .i64))])) :=
(.seq (.rg [] none)
(.seq (.rg [] none)
(.seq (.seq (.rg [] none)
(.loop [.val 1 (.sl (.int .i64)), .box 2 T24, .box 4 T24, .gbx 5 T24 [(0, 34), (1, 3)], .val 6 (.int .i64)] [.val 1 (.sl (.int .i64)), .box 2 T24, .box 4 T24, .gbx 5 T24 [(0, 34), (1, 3)]] reticuleref24_Drop_L0
(.seq (.seq (.rg [] none)
(.cond .leaf .leaf))
(.join [.val 1 (.sl (.int .i64)), .box 2 T24, .box 4 T24, .gbx 5 T24 [(0, 34), (1, 3)], .val 6 (.int .i64)]
(.block (.seq (.rg [] none)
(.cond (.rg [] (some (.op ⟨[81], []⟩ (.op ⟨[81, 416], [81, 416]⟩ (.op ⟨[32], []⟩ (.op ⟨[32], []⟩ (.op ⟨[], []⟩ (.op ⟨[], []⟩ (.op ⟨[], []⟩ (.op ⟨[512], [512]⟩ (.op ⟨[416, 512, 528], [416, 528]⟩ (.op ⟨[81], []⟩ (.op ⟨[81, 528], [81, 528]⟩ .done))))))))))))) .leaf)))
(.rg [] none)))))
(.seq (.seq (.rg [] none)
(.loop [.val 1 (.sl (.int .i64)), .box 2 T24, .box 4 T24, .gbx 5 T24 [(0, 34), (1, 3)], .val 7 (.int .i64)] [.box 4 T24, .gbx 5 T24 [(0, 34), (1, 3)]] reticuleref24_Drop_L1
(.seq (.seq (.rg [] none)
(.cond .leaf .leaf))
(.join [.val 1 (.sl (.int .i64)), .box 2 T24, .box 4 T24, .gbx 5 T24 [(0, 34), (1, 3)], .val 7 (.int .i64)]
(.block (.seq (.rg [] none)
(.seq (.rg [] (some (.op ⟨[128], []⟩ (.op ⟨[128], []⟩ (.op ⟨[], []⟩ (.op ⟨[], []⟩ (.split 50 [(54, .bool)] (.op ⟨[128], []⟩ (.op ⟨[128], []⟩ (.op ⟨[], []⟩ (.op ⟨[], []⟩ .done)))) (.op ⟨[], []⟩ (.split 55 [(61, .bool)] (.op ⟨[], []⟩ (.op ⟨[128], []⟩ (.op ⟨[128], []⟩ (.op ⟨[944], []⟩ (.op ⟨[], []⟩ (.op ⟨[], []⟩ .done)))))) .done)))))))))
(.cond (.rg [] none) .leaf))))
(.rg [] none)))))
(.seq (.rg [] none)
.leaf)))))
theorem reticuleref24_Drop_Eok : EnvOk Try.prog reticuleref24_Drop_E := env_ok tab_ok (by simp) (allFn_mem (show AllFn Try.prog reticuleref24_Drop_fns from ⟨reticuleref01_Has_ok, trivial⟩)) mixed (by kernel_rfl) (by kernel_rfl) (by kernel_rfl) (by kernel_rfl)
theorem reticuleref24_Drop_eq (x : (List (Int × (Int × (List (BitVec 8) × (Int × (List (BitVec 8) × (((Int × (BitVec 64 × (Int × (Int × (Int × Unit))))) × (Int × (Int × (List (BitVec 8) × ((Int × (Int × (Int × Unit))) × Unit))))) × ((Int × (Int × (Int × Unit))) × Unit))))))) × (List (Int × (Int × (List (BitVec 8) × Unit))) × Unit)) × (List Int)) : evF reticuleref24_Drop_E 69 (bd Try.f17) [.val T24, .val (.sl (.int .i64))] [.cell 4 T24] reticuleref24_Drop_an x = reticuleref24_Drop x := by kernel_rfl
theorem reticuleref24_Drop_ok : FnOk Try.prog 17 { args := [.val T24, .val (.sl (.int .i64))], res := [(T24, .view)], f := reticuleref24_Drop } :=
  fn_ok reticuleref24_Drop_Eok Try.func17 rfl (by kernel_rfl) (by kernel_rfl) (by kernel_rfl) (rs := [.cell 4 T24]) (c := bd Try.f17) (an := reticuleref24_Drop_an) (show obF reticuleref24_Drop_E 69 (bd Try.f17) [.val T24, .val (.sl (.int .i64))] [.cell 4 T24] reticuleref24_Drop_an from (And.intro trivial (And.intro trivial (And.intro (And.intro trivial (And.intro (fun _ => rfl) (And.intro (fun n j => by kernel_rfl) (fun n => (And.intro (And.intro trivial (And.intro trivial trivial)) (And.intro (And.intro trivial (And.intro trivial trivial)) trivial)))))) (And.intro (And.intro trivial (And.intro (fun _ => rfl) (And.intro (fun n j => by kernel_rfl) (fun n => (And.intro (And.intro trivial (And.intro trivial trivial)) (And.intro (And.intro trivial (And.intro trivial (And.intro trivial trivial))) trivial)))))) (And.intro trivial trivial)))))) reticuleref24_Drop_eq
/-! reticuleref12_There: function 27 -/
noncomputable def reticuleref12_There_fns : List (Nat × Fun) := []
noncomputable def reticuleref12_There_E : Env := { ty := Re.look tyTab, eq := fun n => memB n [], fn := Re.look reticuleref12_There_fns, cut := fun n => memB n [], win := fun n => memB n [], one := fun n => memB n [], onc := fun n => memB n [], pre := fun n => memB n [], ptr := fun n => memB n [], psl := fun n => memB n [], parr := Re.look [], mpt := Re.look [], lnd := fun n => memB n [] }
noncomputable def reticuleref12_There_an : An (Ds ((([.tmp 4 (.bool, .view)] : List RV).map RV.pm).map (·.1) ++ ioTys [.val (.sl T50), .val (.int .i64)])) :=
(.seq (.rg [] none)
(.seq (.rg [] (some (.op ⟨[], []⟩ (.op ⟨[], []⟩ (.op ⟨[], []⟩ (.split 7 [(12, .bool)] (.op ⟨[], []⟩ (.op ⟨[], []⟩ (.op ⟨[], []⟩ (.op ⟨[], []⟩ (.op ⟨[], []⟩ .done))))) (.op ⟨[], []⟩ .done)))))))
.leaf))
theorem reticuleref12_There_Eok : EnvOk Try.prog reticuleref12_There_E := env_ok tab_ok (by simp) (allFn_mem (show AllFn Try.prog reticuleref12_There_fns from trivial)) mixed (by kernel_rfl) (by kernel_rfl) (by kernel_rfl) (by kernel_rfl)
theorem reticuleref12_There_eq (x : (List (((List (List (BitVec 8)) × (List (Int × (List (BitVec 8) × Unit)) × Unit)) × (Bool × (Bool × (Bool × Unit)))) × (Bool × (List (Int × (Int × (Int × Unit))) × ((Int × (Int × (Int × Unit))) × Unit))))) × Int) : evF reticuleref12_There_E 13 (bd Try.f27) [.val (.sl T50), .val (.int .i64)] [.tmp 4 (.bool, .view)] reticuleref12_There_an x = reticuleref12_There x := by kernel_rfl
theorem reticuleref12_There_ok : FnOk Try.prog 27 { args := [.val (.sl T50), .val (.int .i64)], res := [(.bool, .view)], f := reticuleref12_There } :=
  fn_ok reticuleref12_There_Eok Try.func27 rfl (by kernel_rfl) (by kernel_rfl) (by kernel_rfl) (rs := [.tmp 4 (.bool, .view)]) (c := bd Try.f27) (an := reticuleref12_There_an) (ob_flat _ _ _ _ _ _ _ (by kernel_rfl)) reticuleref12_There_eq
/-! reticuleref24_meant: function 43 -/
noncomputable def reticuleref24_meant_fns : List (Nat × Fun) := [(22, { args := [.val (.sl T69), .val (.int .i64)], res := [((.int .i64), .view)], f := reticuleref23_Find })]
noncomputable def reticuleref24_meant_E : Env := { ty := Re.look tyTab, eq := fun n => memB n [], fn := Re.look reticuleref24_meant_fns, cut := fun n => memB n [], win := fun n => memB n [], one := fun n => memB n [], onc := fun n => memB n [], pre := fun n => memB n [], ptr := fun n => memB n [], psl := fun n => memB n [], parr := Re.look [], mpt := Re.look [], lnd := fun n => memB n [] }
noncomputable def reticuleref24_meant_an : An (Ds ((([.tmp 4 (.bool, .view)] : List RV).map RV.pm).map (·.1) ++ ioTys [.val T24, .val T27])) :=
(.seq (.rg [] none)
(.seq (.rg [] none)
(.seq (.rg [] (some (.op ⟨[], []⟩ (.op ⟨[], []⟩ (.op ⟨[], []⟩ (.split 13 [(23, .bool)] (.op ⟨[32], []⟩ (.op ⟨[32], []⟩ (.op ⟨[], []⟩ (.op ⟨[], []⟩ (.op ⟨[], []⟩ (.op ⟨[], []⟩ (.op ⟨[48], []⟩ (.op ⟨[48], []⟩ (.op ⟨[], []⟩ (.op ⟨[], []⟩ .done)))))))))) (.op ⟨[], []⟩ .done)))))))
.leaf)))
theorem reticuleref24_meant_Eok : EnvOk Try.prog reticuleref24_meant_E := env_ok tab_ok (by simp) (allFn_mem (show AllFn Try.prog reticuleref24_meant_fns from ⟨reticuleref23_Find_ok, trivial⟩)) mixed (by kernel_rfl) (by kernel_rfl) (by kernel_rfl) (by kernel_rfl)
theorem reticuleref24_meant_eq (x : (List (Int × (Int × (List (BitVec 8) × (Int × (List (BitVec 8) × (((Int × (BitVec 64 × (Int × (Int × (Int × Unit))))) × (Int × (Int × (List (BitVec 8) × ((Int × (Int × (Int × Unit))) × Unit))))) × ((Int × (Int × (Int × Unit))) × Unit))))))) × (List (Int × (Int × (List (BitVec 8) × Unit))) × Unit)) × (Int × (Int × (Int × (Int × Unit))))) : evF reticuleref24_meant_E 24 (bd Try.f43) [.val T24, .val T27] [.tmp 4 (.bool, .view)] reticuleref24_meant_an x = reticuleref24_meant x := by kernel_rfl
theorem reticuleref24_meant_ok : FnOk Try.prog 43 { args := [.val T24, .val T27], res := [(.bool, .view)], f := reticuleref24_meant } :=
  fn_ok reticuleref24_meant_Eok Try.func43 rfl (by kernel_rfl) (by kernel_rfl) (by kernel_rfl) (rs := [.tmp 4 (.bool, .view)]) (c := bd Try.f43) (an := reticuleref24_meant_an) (ob_flat _ _ _ _ _ _ _ (by kernel_rfl)) reticuleref24_meant_eq
/-! reticuleref24_of: function 44 -/
noncomputable def reticuleref24_of_fns : List (Nat × Fun) := []
noncomputable def reticuleref24_of_E : Env := { ty := Re.look tyTab, eq := fun n => memB n [], fn := Re.look reticuleref24_of_fns, cut := fun n => memB n [], win := fun n => memB n [], one := fun n => memB n [], onc := fun n => memB n [], pre := fun n => memB n [], ptr := fun n => memB n [], psl := fun n => memB n [], parr := Re.look [], mpt := Re.look [], lnd := fun n => memB n [] }
noncomputable def reticuleref24_of_an : An (Ds ((([.tmp 4 ((.sl (.int .i64)), .full)] : List RV).map RV.pm).map (·.1) ++ ioTys [.val (.sl T69), .val (.int .i64)])) :=
(.seq (.rg [] none)
(.seq (.rg [] none)
(.seq (.seq (.rg [] none)
(.loop [.val 0 (.sl T69), .val 1 (.int .i64), .row 5 (.int .i64) .full, .val 6 (.int .i64)] [.row 5 (.int .i64) .full] reticuleref24_of_L0
(.seq (.seq (.rg [] none)
(.cond .leaf .leaf))
(.join [.val 0 (.sl T69), .val 1 (.int .i64), .row 5 (.int .i64) .full, .val 6 (.int .i64)]
(.block (.seq (.rg [] none)
(.cond (.rg [] none) .leaf)))
(.rg [] none)))))
(.seq (.rg [] none)
.leaf))))
theorem reticuleref24_of_Eok : EnvOk Try.prog reticuleref24_of_E := env_ok tab_ok (by simp) (allFn_mem (show AllFn Try.prog reticuleref24_of_fns from trivial)) mixed (by kernel_rfl) (by kernel_rfl) (by kernel_rfl) (by kernel_rfl)
theorem reticuleref24_of_eq (x : (List (Int × (Int × (List (BitVec 8) × (Int × (List (BitVec 8) × (((Int × (BitVec 64 × (Int × (Int × (Int × Unit))))) × (Int × (Int × (List (BitVec 8) × ((Int × (Int × (Int × Unit))) × Unit))))) × ((Int × (Int × (Int × Unit))) × Unit)))))))) × Int) : evF reticuleref24_of_E 29 (bd Try.f44) [.val (.sl T69), .val (.int .i64)] [.tmp 4 ((.sl (.int .i64)), .full)] reticuleref24_of_an x = reticuleref24_of x := by kernel_rfl
theorem reticuleref24_of_ok : FnOk Try.prog 44 { args := [.val (.sl T69), .val (.int .i64)], res := [((.sl (.int .i64)), .full)], f := reticuleref24_of } :=
  fn_ok reticuleref24_of_Eok Try.func44 rfl (by kernel_rfl) (by kernel_rfl) (by kernel_rfl) (rs := [.tmp 4 ((.sl (.int .i64)), .full)]) (c := bd Try.f44) (an := reticuleref24_of_an) (show obF reticuleref24_of_E 29 (bd Try.f44) [.val (.sl T69), .val (.int .i64)] [.tmp 4 ((.sl (.int .i64)), .full)] reticuleref24_of_an from (And.intro trivial (And.intro trivial (And.intro (And.intro trivial (And.intro (fun _ => rfl) (And.intro (fun n j => by kernel_rfl) (fun n => (And.intro (And.intro trivial (And.intro trivial trivial)) (And.intro (And.intro trivial (And.intro trivial trivial)) trivial)))))) (And.intro trivial trivial))))) reticuleref24_of_eq
/-! reticuleref04_Has: function 70 -/
noncomputable def reticuleref04_Has_fns : List (Nat × Fun) := []
noncomputable def reticuleref04_Has_E : Env := { ty := Re.look tyTab, eq := fun n => memB n [49], fn := Re.look reticuleref04_Has_fns, cut := fun n => memB n [], win := fun n => memB n [], one := fun n => memB n [], onc := fun n => memB n [], pre := fun n => memB n [], ptr := fun n => memB n [], psl := fun n => memB n [], parr := Re.look [], mpt := Re.look [], lnd := fun n => memB n [] }
noncomputable def reticuleref04_Has_an : An (Ds ((([.tmp 4 (.bool, .view)] : List RV).map RV.pm).map (·.1) ++ ioTys [.val (.sl T48), .val T48])) :=
(.seq (.rg [] none)
(.seq (.seq (.rg [] none)
(.loop [.val 0 (.sl T48), .box 3 T48, .val 5 (.int .i64)] [] reticuleref04_Has_L0
(.seq (.seq (.rg [] none)
(.cond .leaf .leaf))
(.seq (.block (.seq (.rg [] (some (.op ⟨[], []⟩ (.op ⟨[], []⟩ (.op ⟨[], []⟩ (.op ⟨[], []⟩ (.op ⟨[48], []⟩ (.op ⟨[], []⟩ .done))))))))
(.cond (.seq (.rg [] none)
.leaf) .leaf)))
(.rg [] none)))))
(.seq (.rg [] none)
.leaf)))
theorem reticuleref04_Has_Eok : EnvOk Try.prog reticuleref04_Has_E := env_ok tab_ok (by intro t h; simp only [List.mem_cons, List.mem_nil_iff, or_false, List.not_mem_nil] at h; rcases h with rfl <;> exact ⟨by kernel_rfl, by kernel_rfl, by kernel_rfl⟩) (allFn_mem (show AllFn Try.prog reticuleref04_Has_fns from trivial)) mixed (by kernel_rfl) (by kernel_rfl) (by kernel_rfl) (by kernel_rfl)
theorem reticuleref04_Has_eq (x : (List (Int × (Int × (Int × Unit)))) × (Int × (Int × (Int × Unit)))) : evF reticuleref04_Has_E 18 (bd Try.f70) [.val (.sl T48), .val T48] [.tmp 4 (.bool, .view)] reticuleref04_Has_an x = reticuleref04_Has x := by kernel_rfl
theorem reticuleref04_Has_ok : FnOk Try.prog 70 { args := [.val (.sl T48), .val T48], res := [(.bool, .view)], f := reticuleref04_Has } :=
  fn_ok reticuleref04_Has_Eok Try.func70 rfl (by kernel_rfl) (by kernel_rfl) (by kernel_rfl) (rs := [.tmp 4 (.bool, .view)]) (c := bd Try.f70) (an := reticuleref04_Has_an) (show obF reticuleref04_Has_E 18 (bd Try.f70) [.val (.sl T48), .val T48] [.tmp 4 (.bool, .view)] reticuleref04_Has_an from (And.intro trivial (And.intro (And.intro trivial (And.intro (fun _ => rfl) (And.intro (fun n j => by kernel_rfl) (fun n => (And.intro (And.intro trivial (And.intro trivial trivial)) (And.intro (And.intro trivial (And.intro (And.intro trivial trivial) trivial)) trivial)))))) (And.intro trivial trivial)))) reticuleref04_Has_eq
/-! reticuleref04_Add: function 52 -/
noncomputable def reticuleref04_Add_fns : List (Nat × Fun) := [(70, { args := [.val (.sl T48), .val T48], res := [(.bool, .view)], f := reticuleref04_Has }), (26, { args := [.val (.int .i64), .val (.int .i64), .val (.int .i64)], res := [(T48, .view)], f := reticuleref04_Of })]
noncomputable def reticuleref04_Add_E : Env := { ty := Re.look tyTab, eq := fun n => memB n [49], fn := Re.look reticuleref04_Add_fns, cut := fun n => memB n [], win := fun n => memB n [], one := fun n => memB n [], onc := fun n => memB n [], pre := fun n => memB n [], ptr := fun n => memB n [], psl := fun n => memB n [], parr := Re.look [], mpt := Re.look [], lnd := fun n => memB n [] }
noncomputable def reticuleref04_Add_an : An (Ds ((([.tmp 4 ((.sl T48), .full)] : List RV).map RV.pm).map (·.1) ++ ioTys [.val (.sl T48), .val T48])) :=
(.seq (.rg [] none)
(.seq (.rg [] none)
(.seq (.seq (.rg [] none)
(.cond (.seq (.rg [] none)
.leaf) .leaf))
(.seq (.seq (.rg [] (some (.op ⟨[48], []⟩ (.op ⟨[224], []⟩ (.op ⟨[], []⟩ .done)))))
(.cond (.seq (.rg [] none)
.leaf) .leaf))
(.seq (.seq (.rg [] none)
(.cond (.seq (.rg [] none)
.leaf) .leaf))
(.seq (.rg [] none)
.leaf))))))
theorem reticuleref04_Add_Eok : EnvOk Try.prog reticuleref04_Add_E := env_ok tab_ok (by intro t h; simp only [List.mem_cons, List.mem_nil_iff, or_false, List.not_mem_nil] at h; rcases h with rfl <;> exact ⟨by kernel_rfl, by kernel_rfl, by kernel_rfl⟩) (allFn_mem (show AllFn Try.prog reticuleref04_Add_fns from ⟨reticuleref04_Has_ok, reticuleref04_Of_ok, trivial⟩)) mixed (by kernel_rfl) (by kernel_rfl) (by kernel_rfl) (by kernel_rfl)
theorem reticuleref04_Add_eq (x : (List (Int × (Int × (Int × Unit)))) × (Int × (Int × (Int × Unit)))) : evF reticuleref04_Add_E 26 (bd Try.f52) [.val (.sl T48), .val T48] [.tmp 4 ((.sl T48), .full)] reticuleref04_Add_an x = reticuleref04_Add x := by kernel_rfl
theorem reticuleref04_Add_ok : FnOk Try.prog 52 { args := [.val (.sl T48), .val T48], res := [((.sl T48), .full)], f := reticuleref04_Add } :=
  fn_ok reticuleref04_Add_Eok Try.func52 rfl (by kernel_rfl) (by kernel_rfl) (by kernel_rfl) (rs := [.tmp 4 ((.sl T48), .full)]) (c := bd Try.f52) (an := reticuleref04_Add_an) (ob_flat _ _ _ _ _ _ _ (by kernel_rfl)) reticuleref04_Add_eq
/-! reticuleref12_Attend: function 25 -/
noncomputable def reticuleref12_Attend_fns : List (Nat × Fun) := [(11, { args := [.val (.sl T50)], res := [((.sl T50), .full)], f := reticuleref12_Copy }), (52, { args := [.val (.sl T48), .val T48], res := [((.sl T48), .full)], f := reticuleref04_Add })]
noncomputable def reticuleref12_Attend_E : Env := { ty := Re.look tyTab, eq := fun n => memB n [], fn := Re.look reticuleref12_Attend_fns, cut := fun n => memB n [], win := fun n => memB n [], one := fun n => memB n [], onc := fun n => memB n [], pre := fun n => memB n [], ptr := fun n => memB n [], psl := fun n => memB n [], parr := Re.look [], mpt := Re.look [], lnd := fun n => memB n [] }
noncomputable def reticuleref12_Attend_an : An (Ds ((([.tmp 6 ((.sl T50), .full)] : List RV).map RV.pm).map (·.1) ++ ioTys [.val (.sl T50), .val (.int .i64), .val T48])) :=
(.seq (.rg [] none)
(.seq (.rg [] none)
(.seq (.seq (.rg [] none)
(.loop [.val 1 (.int .i64), .box 5 T48, .row 7 T50 .full, .val 8 (.int .i64)] [.row 7 T50 .full] reticuleref12_Attend_L0
(.seq (.seq (.rg [] none)
(.cond .leaf .leaf))
(.join [.val 1 (.int .i64), .box 5 T48, .row 7 T50 .full, .val 8 (.int .i64)]
(.block (.seq (.rg [] (some (.op ⟨[], []⟩ (.op ⟨[], []⟩ (.op ⟨[], []⟩ (.op ⟨[], []⟩ (.split 20 [(23, .bool)] (.op ⟨[], []⟩ (.op ⟨[], []⟩ (.op ⟨[], []⟩ .done))) .done)))))))
(.cond (.rg [512] (some (.op ⟨[], []⟩ (.op ⟨[], []⟩ (.op ⟨[], []⟩ (.op ⟨[], []⟩ (.op ⟨[112], []⟩ (.op ⟨[112], []⟩ (.op ⟨[112], []⟩ (.op ⟨[80], []⟩ (.op ⟨[512], [512]⟩ (.op ⟨[112], []⟩ (.op ⟨[112], []⟩ (.op ⟨[112, 512], [112, 512]⟩ .done)))))))))))))) .leaf)))
(.rg [] none)))))
(.seq (.rg [] none)
.leaf))))
theorem reticuleref12_Attend_Eok : EnvOk Try.prog reticuleref12_Attend_E := env_ok tab_ok (by simp) (allFn_mem (show AllFn Try.prog reticuleref12_Attend_fns from ⟨reticuleref12_Copy_ok, reticuleref04_Add_ok, trivial⟩)) mixed (by kernel_rfl) (by kernel_rfl) (by kernel_rfl) (by kernel_rfl)
theorem reticuleref12_Attend_eq (x : (List (((List (List (BitVec 8)) × (List (Int × (List (BitVec 8) × Unit)) × Unit)) × (Bool × (Bool × (Bool × Unit)))) × (Bool × (List (Int × (Int × (Int × Unit))) × ((Int × (Int × (Int × Unit))) × Unit))))) × Int × (Int × (Int × (Int × Unit)))) : evF reticuleref12_Attend_E 36 (bd Try.f25) [.val (.sl T50), .val (.int .i64), .val T48] [.tmp 6 ((.sl T50), .full)] reticuleref12_Attend_an x = reticuleref12_Attend x := by kernel_rfl
theorem reticuleref12_Attend_ok : FnOk Try.prog 25 { args := [.val (.sl T50), .val (.int .i64), .val T48], res := [((.sl T50), .full)], f := reticuleref12_Attend } :=
  fn_ok reticuleref12_Attend_Eok Try.func25 rfl (by kernel_rfl) (by kernel_rfl) (by kernel_rfl) (rs := [.tmp 6 ((.sl T50), .full)]) (c := bd Try.f25) (an := reticuleref12_Attend_an) (show obF reticuleref12_Attend_E 36 (bd Try.f25) [.val (.sl T50), .val (.int .i64), .val T48] [.tmp 6 ((.sl T50), .full)] reticuleref12_Attend_an from (And.intro trivial (And.intro trivial (And.intro (And.intro trivial (And.intro (fun _ => rfl) (And.intro (fun n j => by kernel_rfl) (fun n => (And.intro (And.intro trivial (And.intro trivial trivial)) (And.intro (And.intro trivial (And.intro trivial trivial)) trivial)))))) (And.intro trivial trivial))))) reticuleref12_Attend_eq
/-! reticuleref24_Do: function 13 -/
noncomputable def reticuleref24_Do_fns : List (Nat × Fun) := [(22, { args := [.val (.sl T69), .val (.int .i64)], res := [((.int .i64), .view)], f := reticuleref23_Find }), (42, { args := [.val (.sl T69)], res := [((.sl (.int .i64)), .full)], f := reticuleref23_Tags }), (17, { args := [.val T24, .val (.sl (.int .i64))], res := [(T24, .view)], f := reticuleref24_Drop }), (27, { args := [.val (.sl T50), .val (.int .i64)], res := [(.bool, .view)], f := reticuleref12_There }), (43, { args := [.val T24, .val T27], res := [(.bool, .view)], f := reticuleref24_meant }), (44, { args := [.val (.sl T69), .val (.int .i64)], res := [((.sl (.int .i64)), .full)], f := reticuleref24_of }), (26, { args := [.val (.int .i64), .val (.int .i64), .val (.int .i64)], res := [(T48, .view)], f := reticuleref04_Of }), (25, { args := [.val (.sl T50), .val (.int .i64), .val T48], res := [((.sl T50), .full)], f := reticuleref12_Attend })]
noncomputable def reticuleref24_Do_E : Env := { ty := Re.look tyTab, eq := fun n => memB n [], fn := Re.look reticuleref24_Do_fns, cut := fun n => memB n [], win := fun n => memB n [], one := fun n => memB n [], onc := fun n => memB n [], pre := fun n => memB n [], ptr := fun n => memB n [], psl := fun n => memB n [], parr := Re.look [], mpt := Re.look [], lnd := fun n => memB n [] }
noncomputable def reticuleref24_Do_an : An (Ds ((([.cell 6 T24, .tmp 7 ((.sl T50), .view), .tmp 8 ((.int .i64), .view)] : List RV).map RV.pm).map (·.1) ++ ioTys [.val T24, .val (.sl T50), .val T27])) :=
(.seq (.rg [] none)
(.seq (.seq (.rg [] none)
(.cond (.seq (.rg [304] (some (.op ⟨[48], []⟩ (.op ⟨[48], []⟩ (.op ⟨[48], []⟩ (.op ⟨[304], [304]⟩ (.op ⟨[304, 320], [304]⟩ (.op ⟨[], []⟩ (.op ⟨[96], [96]⟩ (.op ⟨[], []⟩ (.op ⟨[], []⟩ .done)))))))))))
.leaf) .leaf))
(.seq (.rg [] none)
(.seq (.seq (.rg [] (some (.op ⟨[], []⟩ (.op ⟨[], []⟩ (.op ⟨[], []⟩ (.split 26 [(29, .bool)] (.op ⟨[], []⟩ (.op ⟨[], []⟩ (.op ⟨[], []⟩ .done))) (.op ⟨[], []⟩ (.split 30 [(33, .bool)] (.op ⟨[], []⟩ (.op ⟨[], []⟩ (.op ⟨[], []⟩ .done))) (.op ⟨[], []⟩ (.split 34 [(37, .bool)] (.op ⟨[], []⟩ (.op ⟨[], []⟩ (.op ⟨[], []⟩ .done))) (.op ⟨[], []⟩ (.split 38 [(41, .bool)] (.op ⟨[], []⟩ (.op ⟨[], []⟩ (.op ⟨[], []⟩ .done))) .done))))))))))))
(.cond (.seq (.rg [] none)
.leaf) .leaf))
(.seq (.seq (.rg [] (some (.op ⟨[], []⟩ (.op ⟨[], []⟩ (.op ⟨[], []⟩ (.split 46 [(52, .bool)] (.op ⟨[], []⟩ (.op ⟨[80], []⟩ (.op ⟨[80], []⟩ (.op ⟨[800], []⟩ (.op ⟨[], []⟩ (.op ⟨[], []⟩ .done)))))) .done))))))
(.cond (.seq (.rg [] none)
.leaf) .leaf))
(.seq (.seq (.rg [] none)
(.block (.seq (.rg [] none)
(.cond (.seq (.seq (.rg [] none)
(.cond (.seq (.rg [] none)
.leaf) .leaf))
(.seq (.rg [] none)
.leaf)) (.seq (.rg [] none)
(.cond (.seq (.rg [1216] (some (.op ⟨[48], []⟩ (.op ⟨[48], []⟩ (.op ⟨[48], []⟩ (.op ⟨[80], []⟩ (.op ⟨[80], []⟩ (.op ⟨[1216], [1216]⟩ (.op ⟨[1216, 1232], [1216]⟩ (.op ⟨[], []⟩ (.op ⟨[96], [96]⟩ (.op ⟨[], []⟩ (.op ⟨[], []⟩ .done)))))))))))))
.leaf) (.seq (.rg [] none)
(.cond (.seq (.rg [1376] (some (.op ⟨[48], []⟩ (.op ⟨[48], []⟩ (.op ⟨[48], []⟩ (.op ⟨[80], []⟩ (.op ⟨[80], []⟩ (.op ⟨[1376], [1376]⟩ (.op ⟨[1376, 1392], [1376]⟩ (.op ⟨[], []⟩ (.op ⟨[80], []⟩ (.op ⟨[80], []⟩ (.op ⟨[1456], []⟩ (.op ⟨[1472], [1472]⟩ (.op ⟨[96], [96]⟩ (.op ⟨[], []⟩ (.op ⟨[], []⟩ .done)))))))))))))))))
.leaf) (.seq (.rg [] none)
(.cond (.seq (.rg [] none)
.leaf) .leaf))))))))))
(.seq (.seq (.rg [] none)
(.cond (.seq (.rg [] none)
.leaf) .leaf))
(.seq (.rg [] none)
.leaf))))))))
theorem reticuleref24_Do_Eok : EnvOk Try.prog reticuleref24_Do_E := env_ok tab_ok (by simp) (allFn_mem (show AllFn Try.prog reticuleref24_Do_fns from ⟨reticuleref23_Find_ok, reticuleref23_Tags_ok, reticuleref24_Drop_ok, reticuleref12_There_ok, reticuleref24_meant_ok, reticuleref24_of_ok, reticuleref04_Of_ok, reticuleref12_Attend_ok, trivial⟩)) mixed (by kernel_rfl) (by kernel_rfl) (by kernel_rfl) (by kernel_rfl)
theorem reticuleref24_Do_eq (x : (List (Int × (Int × (List (BitVec 8) × (Int × (List (BitVec 8) × (((Int × (BitVec 64 × (Int × (Int × (Int × Unit))))) × (Int × (Int × (List (BitVec 8) × ((Int × (Int × (Int × Unit))) × Unit))))) × ((Int × (Int × (Int × Unit))) × Unit))))))) × (List (Int × (Int × (List (BitVec 8) × Unit))) × Unit)) × (List (((List (List (BitVec 8)) × (List (Int × (List (BitVec 8) × Unit)) × Unit)) × (Bool × (Bool × (Bool × Unit)))) × (Bool × (List (Int × (Int × (Int × Unit))) × ((Int × (Int × (Int × Unit))) × Unit))))) × (Int × (Int × (Int × (Int × Unit))))) : evF reticuleref24_Do_E 106 (bd Try.f13) [.val T24, .val (.sl T50), .val T27] [.cell 6 T24, .tmp 7 ((.sl T50), .view), .tmp 8 ((.int .i64), .view)] reticuleref24_Do_an x = reticuleref24_Do x := by kernel_rfl
theorem reticuleref24_Do_ok : FnOk Try.prog 13 { args := [.val T24, .val (.sl T50), .val T27], res := [(T24, .view), ((.sl T50), .view), ((.int .i64), .view)], f := reticuleref24_Do } :=
  fn_ok reticuleref24_Do_Eok Try.func13 rfl (by kernel_rfl) (by kernel_rfl) (by kernel_rfl) (rs := [.cell 6 T24, .tmp 7 ((.sl T50), .view), .tmp 8 ((.int .i64), .view)]) (c := bd Try.f13) (an := reticuleref24_Do_an) (ob_flat _ _ _ _ _ _ _ (by kernel_rfl)) reticuleref24_Do_eq
/-! reticuleref10_Same: function 69 -/
noncomputable def reticuleref10_Same_fns : List (Nat × Fun) := []
noncomputable def reticuleref10_Same_E : Env := { ty := Re.look tyTab, eq := fun n => memB n [49, 66], fn := Re.look reticuleref10_Same_fns, cut := fun n => memB n [], win := fun n => memB n [], one := fun n => memB n [], onc := fun n => memB n [], pre := fun n => memB n [], ptr := fun n => memB n [], psl := fun n => memB n [], parr := Re.look [], mpt := Re.look [], lnd := fun n => memB n [] }
noncomputable def reticuleref10_Same_an : An (Ds ((([.tmp 4 (.bool, .view)] : List RV).map RV.pm).map (·.1) ++ ioTys [.val T67, .val T67])) :=
(.seq (.rg [] none)
(.seq (.rg [] (some (.op ⟨[32], []⟩ (.op ⟨[32], []⟩ (.op ⟨[48], []⟩ (.op ⟨[48], []⟩ (.op ⟨[], []⟩ (.op ⟨[], []⟩ (.split 10 [(16, .bool)] (.op ⟨[32], []⟩ (.op ⟨[32], []⟩ (.op ⟨[48], []⟩ (.op ⟨[48], []⟩ (.op ⟨[], []⟩ (.op ⟨[], []⟩ .done)))))) (.op ⟨[], []⟩ (.split 17 [(23, .bool)] (.op ⟨[32], []⟩ (.op ⟨[32], []⟩ (.op ⟨[48], []⟩ (.op ⟨[48], []⟩ (.op ⟨[], []⟩ (.op ⟨[], []⟩ .done)))))) (.op ⟨[], []⟩ (.split 24 [(32, .bool)] (.op ⟨[32], []⟩ (.op ⟨[32], []⟩ (.op ⟨[], []⟩ (.op ⟨[48], []⟩ (.op ⟨[48], []⟩ (.op ⟨[], []⟩ (.op ⟨[], []⟩ (.op ⟨[], []⟩ .done)))))))) (.op ⟨[], []⟩ (.split 33 [(39, .bool)] (.op ⟨[32], []⟩ (.op ⟨[32], []⟩ (.op ⟨[48], []⟩ (.op ⟨[48], []⟩ (.op ⟨[], []⟩ (.op ⟨[], []⟩ .done)))))) (.op ⟨[], []⟩ .done))))))))))))))))
.leaf))
theorem reticuleref10_Same_Eok : EnvOk Try.prog reticuleref10_Same_E := env_ok tab_ok (by intro t h; simp only [List.mem_cons, List.mem_nil_iff, or_false, List.not_mem_nil] at h; rcases h with rfl | rfl <;> exact ⟨by kernel_rfl, by kernel_rfl, by kernel_rfl⟩) (allFn_mem (show AllFn Try.prog reticuleref10_Same_fns from trivial)) mixed (by kernel_rfl) (by kernel_rfl) (by kernel_rfl) (by kernel_rfl)
theorem reticuleref10_Same_eq (x : ((Int × (BitVec 64 × (Int × (Int × (Int × Unit))))) × (Int × (Int × (List (BitVec 8) × ((Int × (Int × (Int × Unit))) × Unit))))) × ((Int × (BitVec 64 × (Int × (Int × (Int × Unit))))) × (Int × (Int × (List (BitVec 8) × ((Int × (Int × (Int × Unit))) × Unit)))))) : evF reticuleref10_Same_E 40 (bd Try.f69) [.val T67, .val T67] [.tmp 4 (.bool, .view)] reticuleref10_Same_an x = reticuleref10_Same x := by kernel_rfl
theorem reticuleref10_Same_ok : FnOk Try.prog 69 { args := [.val T67, .val T67], res := [(.bool, .view)], f := reticuleref10_Same } :=
  fn_ok reticuleref10_Same_Eok Try.func69 rfl (by kernel_rfl) (by kernel_rfl) (by kernel_rfl) (rs := [.tmp 4 (.bool, .view)]) (c := bd Try.f69) (an := reticuleref10_Same_an) (ob_flat _ _ _ _ _ _ _ (by kernel_rfl)) reticuleref10_Same_eq
/-! reticuleref23_One: function 51 -/
noncomputable def reticuleref23_One_fns : List (Nat × Fun) := [(69, { args := [.val T67, .val T67], res := [(.bool, .view)], f := reticuleref10_Same })]
noncomputable def reticuleref23_One_E : Env := { ty := Re.look tyTab, eq := fun n => memB n [49, 62], fn := Re.look reticuleref23_One_fns, cut := fun n => memB n [], win := fun n => memB n [], one := fun n => memB n [], onc := fun n => memB n [], pre := fun n => memB n [], ptr := fun n => memB n [], psl := fun n => memB n [], parr := Re.look [], mpt := Re.look [], lnd := fun n => memB n [] }
noncomputable def reticuleref23_One_an : An (Ds ((([.tmp 4 (.bool, .view)] : List RV).map RV.pm).map (·.1) ++ ioTys [.val T69, .val T69])) :=
(.seq (.rg [] none)
(.seq (.rg [] (some (.op ⟨[32], []⟩ (.op ⟨[32], []⟩ (.op ⟨[48], []⟩ (.op ⟨[48], []⟩ (.op ⟨[], []⟩ (.op ⟨[], []⟩ (.split 10 [(16, .bool)] (.op ⟨[32], []⟩ (.op ⟨[32], []⟩ (.op ⟨[48], []⟩ (.op ⟨[48], []⟩ (.op ⟨[], []⟩ (.op ⟨[], []⟩ .done)))))) (.op ⟨[], []⟩ (.split 17 [(23, .bool)] (.op ⟨[32], []⟩ (.op ⟨[32], []⟩ (.op ⟨[48], []⟩ (.op ⟨[48], []⟩ (.op ⟨[], []⟩ (.op ⟨[], []⟩ .done)))))) (.op ⟨[], []⟩ (.split 24 [(30, .bool)] (.op ⟨[32], []⟩ (.op ⟨[32], []⟩ (.op ⟨[48], []⟩ (.op ⟨[48], []⟩ (.op ⟨[], []⟩ (.op ⟨[], []⟩ .done)))))) (.op ⟨[], []⟩ (.split 31 [(39, .bool)] (.op ⟨[32], []⟩ (.op ⟨[32], []⟩ (.op ⟨[], []⟩ (.op ⟨[48], []⟩ (.op ⟨[48], []⟩ (.op ⟨[], []⟩ (.op ⟨[], []⟩ (.op ⟨[], []⟩ .done)))))))) (.op ⟨[], []⟩ (.split 40 [(46, .bool)] (.op ⟨[32], []⟩ (.op ⟨[32], []⟩ (.op ⟨[48], []⟩ (.op ⟨[48], []⟩ (.op ⟨[], []⟩ (.op ⟨[], []⟩ .done)))))) (.op ⟨[], []⟩ (.split 47 [(53, .bool)] (.op ⟨[32], []⟩ (.op ⟨[32], []⟩ (.op ⟨[48], []⟩ (.op ⟨[48], []⟩ (.op ⟨[832], []⟩ (.op ⟨[], []⟩ .done)))))) (.op ⟨[], []⟩ .done))))))))))))))))))))
.leaf))
theorem reticuleref23_One_Eok : EnvOk Try.prog reticuleref23_One_E := env_ok tab_ok (by intro t h; simp only [List.mem_cons, List.mem_nil_iff, or_false, List.not_mem_nil] at h; rcases h with rfl | rfl <;> exact ⟨by kernel_rfl, by kernel_rfl, by kernel_rfl⟩) (allFn_mem (show AllFn Try.prog reticuleref23_One_fns from ⟨reticuleref10_Same_ok, trivial⟩)) mixed (by kernel_rfl) (by kernel_rfl) (by kernel_rfl) (by kernel_rfl)
theorem reticuleref23_One_eq (x : (Int × (Int × (List (BitVec 8) × (Int × (List (BitVec 8) × (((Int × (BitVec 64 × (Int × (Int × (Int × Unit))))) × (Int × (Int × (List (BitVec 8) × ((Int × (Int × (Int × Unit))) × Unit))))) × ((Int × (Int × (Int × Unit))) × Unit))))))) × (Int × (Int × (List (BitVec 8) × (Int × (List (BitVec 8) × (((Int × (BitVec 64 × (Int × (Int × (Int × Unit))))) × (Int × (Int × (List (BitVec 8) × ((Int × (Int × (Int × Unit))) × Unit))))) × ((Int × (Int × (Int × Unit))) × Unit)))))))) : evF reticuleref23_One_E 54 (bd Try.f51) [.val T69, .val T69] [.tmp 4 (.bool, .view)] reticuleref23_One_an x = reticuleref23_One x := by kernel_rfl
theorem reticuleref23_One_ok : FnOk Try.prog 51 { args := [.val T69, .val T69], res := [(.bool, .view)], f := reticuleref23_One } :=
  fn_ok reticuleref23_One_Eok Try.func51 rfl (by kernel_rfl) (by kernel_rfl) (by kernel_rfl) (rs := [.tmp 4 (.bool, .view)]) (c := bd Try.f51) (an := reticuleref23_One_an) (ob_flat _ _ _ _ _ _ _ (by kernel_rfl)) reticuleref23_One_eq
/-! reticuleref23_Same: function 23 -/
noncomputable def reticuleref23_Same_fns : List (Nat × Fun) := [(51, { args := [.val T69, .val T69], res := [(.bool, .view)], f := reticuleref23_One })]
noncomputable def reticuleref23_Same_E : Env := { ty := Re.look tyTab, eq := fun n => memB n [], fn := Re.look reticuleref23_Same_fns, cut := fun n => memB n [], win := fun n => memB n [], one := fun n => memB n [], onc := fun n => memB n [], pre := fun n => memB n [], ptr := fun n => memB n [], psl := fun n => memB n [], parr := Re.look [], mpt := Re.look [], lnd := fun n => memB n [] }
noncomputable def reticuleref23_Same_an : An (Ds ((([.tmp 4 (.bool, .view)] : List RV).map RV.pm).map (·.1) ++ ioTys [.val (.sl T69), .val (.sl T69)])) :=
(.seq (.rg [] none)
(.seq (.seq (.rg [] none)
(.cond (.seq (.rg [] none)
.leaf) .leaf))
(.seq (.seq (.rg [] none)
(.loop [.val 0 (.sl T69), .val 1 (.sl T69), .val 5 (.int .i64)] [] reticuleref23_Same_L0
(.seq (.seq (.rg [] none)
(.cond .leaf .leaf))
(.seq (.block (.seq (.rg [] (some (.op ⟨[], []⟩ (.op ⟨[], []⟩ (.op ⟨[], []⟩ (.op ⟨[], []⟩ (.op ⟨[], []⟩ (.op ⟨[], []⟩ (.op ⟨[], []⟩ (.op ⟨[], []⟩ (.op ⟨[400], []⟩ (.op ⟨[], []⟩ .done))))))))))))
(.cond (.seq (.rg [] none)
.leaf) .leaf)))
(.rg [] none)))))
(.seq (.rg [] none)
.leaf))))
theorem reticuleref23_Same_Eok : EnvOk Try.prog reticuleref23_Same_E := env_ok tab_ok (by simp) (allFn_mem (show AllFn Try.prog reticuleref23_Same_fns from ⟨reticuleref23_One_ok, trivial⟩)) mixed (by kernel_rfl) (by kernel_rfl) (by kernel_rfl) (by kernel_rfl)
theorem reticuleref23_Same_eq (x : (List (Int × (Int × (List (BitVec 8) × (Int × (List (BitVec 8) × (((Int × (BitVec 64 × (Int × (Int × (Int × Unit))))) × (Int × (Int × (List (BitVec 8) × ((Int × (Int × (Int × Unit))) × Unit))))) × ((Int × (Int × (Int × Unit))) × Unit)))))))) × (List (Int × (Int × (List (BitVec 8) × (Int × (List (BitVec 8) × (((Int × (BitVec 64 × (Int × (Int × (Int × Unit))))) × (Int × (Int × (List (BitVec 8) × ((Int × (Int × (Int × Unit))) × Unit))))) × ((Int × (Int × (Int × Unit))) × Unit))))))))) : evF reticuleref23_Same_E 27 (bd Try.f23) [.val (.sl T69), .val (.sl T69)] [.tmp 4 (.bool, .view)] reticuleref23_Same_an x = reticuleref23_Same x := by kernel_rfl
theorem reticuleref23_Same_ok : FnOk Try.prog 23 { args := [.val (.sl T69), .val (.sl T69)], res := [(.bool, .view)], f := reticuleref23_Same } :=
  fn_ok reticuleref23_Same_Eok Try.func23 rfl (by kernel_rfl) (by kernel_rfl) (by kernel_rfl) (rs := [.tmp 4 (.bool, .view)]) (c := bd Try.f23) (an := reticuleref23_Same_an) (show obF reticuleref23_Same_E 27 (bd Try.f23) [.val (.sl T69), .val (.sl T69)] [.tmp 4 (.bool, .view)] reticuleref23_Same_an from (And.intro trivial (And.intro (And.intro trivial (And.intro (And.intro trivial trivial) trivial)) (And.intro (And.intro trivial (And.intro (fun _ => rfl) (And.intro (fun n j => by kernel_rfl) (fun n => (And.intro (And.intro trivial (And.intro trivial trivial)) (And.intro (And.intro trivial (And.intro (And.intro trivial trivial) trivial)) trivial)))))) (And.intro trivial trivial))))) reticuleref23_Same_eq
/-! reticuleref22_Same: function 65 -/
noncomputable def reticuleref22_Same_fns : List (Nat × Fun) := []
noncomputable def reticuleref22_Same_E : Env := { ty := Re.look tyTab, eq := fun n => memB n [], fn := Re.look reticuleref22_Same_fns, cut := fun n => memB n [], win := fun n => memB n [], one := fun n => memB n [], onc := fun n => memB n [], pre := fun n => memB n [], ptr := fun n => memB n [], psl := fun n => memB n [], parr := Re.look [], mpt := Re.look [], lnd := fun n => memB n [] }
noncomputable def reticuleref22_Same_an : An (Ds ((([.tmp 4 (.bool, .view)] : List RV).map RV.pm).map (·.1) ++ ioTys [.val T74, .val T74])) :=
(.seq (.rg [] none)
(.seq (.rg [] (some (.op ⟨[32], []⟩ (.op ⟨[32], []⟩ (.op ⟨[48], []⟩ (.op ⟨[48], []⟩ (.op ⟨[], []⟩ (.op ⟨[], []⟩ (.split 10 [(16, .bool)] (.op ⟨[32], []⟩ (.op ⟨[32], []⟩ (.op ⟨[48], []⟩ (.op ⟨[48], []⟩ (.op ⟨[], []⟩ (.op ⟨[], []⟩ .done)))))) (.op ⟨[], []⟩ (.split 17 [(25, .bool)] (.op ⟨[32], []⟩ (.op ⟨[32], []⟩ (.op ⟨[], []⟩ (.op ⟨[48], []⟩ (.op ⟨[48], []⟩ (.op ⟨[], []⟩ (.op ⟨[], []⟩ (.op ⟨[], []⟩ .done)))))))) (.op ⟨[], []⟩ .done))))))))))))
.leaf))
theorem reticuleref22_Same_Eok : EnvOk Try.prog reticuleref22_Same_E := env_ok tab_ok (by simp) (allFn_mem (show AllFn Try.prog reticuleref22_Same_fns from trivial)) mixed (by kernel_rfl) (by kernel_rfl) (by kernel_rfl) (by kernel_rfl)
theorem reticuleref22_Same_eq (x : (Int × (Int × (List (BitVec 8) × Unit))) × (Int × (Int × (List (BitVec 8) × Unit)))) : evF reticuleref22_Same_E 26 (bd Try.f65) [.val T74, .val T74] [.tmp 4 (.bool, .view)] reticuleref22_Same_an x = reticuleref22_Same x := by kernel_rfl
theorem reticuleref22_Same_ok : FnOk Try.prog 65 { args := [.val T74, .val T74], res := [(.bool, .view)], f := reticuleref22_Same } :=
  fn_ok reticuleref22_Same_Eok Try.func65 rfl (by kernel_rfl) (by kernel_rfl) (by kernel_rfl) (rs := [.tmp 4 (.bool, .view)]) (c := bd Try.f65) (an := reticuleref22_Same_an) (ob_flat _ _ _ _ _ _ _ (by kernel_rfl)) reticuleref22_Same_eq
/-! reticuleref24_Queues: function 45 -/
noncomputable def reticuleref24_Queues_fns : List (Nat × Fun) := [(65, { args := [.val T74, .val T74], res := [(.bool, .view)], f := reticuleref22_Same })]
noncomputable def reticuleref24_Queues_E : Env := { ty := Re.look tyTab, eq := fun n => memB n [], fn := Re.look reticuleref24_Queues_fns, cut := fun n => memB n [], win := fun n => memB n [], one := fun n => memB n [], onc := fun n => memB n [], pre := fun n => memB n [], ptr := fun n => memB n [], psl := fun n => memB n [], parr := Re.look [], mpt := Re.look [], lnd := fun n => memB n [] }
noncomputable def reticuleref24_Queues_an : An (Ds ((([.tmp 4 (.bool, .view)] : List RV).map RV.pm).map (·.1) ++ ioTys [.val (.sl T74), .val (.sl T74)])) :=
(.seq (.rg [] none)
(.seq (.seq (.rg [] none)
(.cond (.seq (.rg [] none)
.leaf) .leaf))
(.seq (.seq (.rg [] none)
(.loop [.val 0 (.sl T74), .val 1 (.sl T74), .val 5 (.int .i64)] [] reticuleref24_Queues_L0
(.seq (.seq (.rg [] none)
(.cond .leaf .leaf))
(.seq (.block (.seq (.rg [] (some (.op ⟨[], []⟩ (.op ⟨[], []⟩ (.op ⟨[], []⟩ (.op ⟨[], []⟩ (.op ⟨[], []⟩ (.op ⟨[], []⟩ (.op ⟨[], []⟩ (.op ⟨[], []⟩ (.op ⟨[400], []⟩ (.op ⟨[], []⟩ .done))))))))))))
(.cond (.seq (.rg [] none)
.leaf) .leaf)))
(.rg [] none)))))
(.seq (.rg [] none)
.leaf))))
theorem reticuleref24_Queues_Eok : EnvOk Try.prog reticuleref24_Queues_E := env_ok tab_ok (by simp) (allFn_mem (show AllFn Try.prog reticuleref24_Queues_fns from ⟨reticuleref22_Same_ok, trivial⟩)) mixed (by kernel_rfl) (by kernel_rfl) (by kernel_rfl) (by kernel_rfl)
theorem reticuleref24_Queues_eq (x : (List (Int × (Int × (List (BitVec 8) × Unit)))) × (List (Int × (Int × (List (BitVec 8) × Unit))))) : evF reticuleref24_Queues_E 27 (bd Try.f45) [.val (.sl T74), .val (.sl T74)] [.tmp 4 (.bool, .view)] reticuleref24_Queues_an x = reticuleref24_Queues x := by kernel_rfl
theorem reticuleref24_Queues_ok : FnOk Try.prog 45 { args := [.val (.sl T74), .val (.sl T74)], res := [(.bool, .view)], f := reticuleref24_Queues } :=
  fn_ok reticuleref24_Queues_Eok Try.func45 rfl (by kernel_rfl) (by kernel_rfl) (by kernel_rfl) (rs := [.tmp 4 (.bool, .view)]) (c := bd Try.f45) (an := reticuleref24_Queues_an) (show obF reticuleref24_Queues_E 27 (bd Try.f45) [.val (.sl T74), .val (.sl T74)] [.tmp 4 (.bool, .view)] reticuleref24_Queues_an from (And.intro trivial (And.intro (And.intro trivial (And.intro (And.intro trivial trivial) trivial)) (And.intro (And.intro trivial (And.intro (fun _ => rfl) (And.intro (fun n j => by kernel_rfl) (fun n => (And.intro (And.intro trivial (And.intro trivial trivial)) (And.intro (And.intro trivial (And.intro (And.intro trivial trivial) trivial)) trivial)))))) (And.intro trivial trivial))))) reticuleref24_Queues_eq
/-! reticuleref24_Same: function 14 -/
noncomputable def reticuleref24_Same_fns : List (Nat × Fun) := [(23, { args := [.val (.sl T69), .val (.sl T69)], res := [(.bool, .view)], f := reticuleref23_Same }), (45, { args := [.val (.sl T74), .val (.sl T74)], res := [(.bool, .view)], f := reticuleref24_Queues })]
noncomputable def reticuleref24_Same_E : Env := { ty := Re.look tyTab, eq := fun n => memB n [], fn := Re.look reticuleref24_Same_fns, cut := fun n => memB n [], win := fun n => memB n [], one := fun n => memB n [], onc := fun n => memB n [], pre := fun n => memB n [], ptr := fun n => memB n [], psl := fun n => memB n [], parr := Re.look [], mpt := Re.look [], lnd := fun n => memB n [] }
noncomputable def reticuleref24_Same_an : An (Ds ((([.tmp 4 (.bool, .view)] : List RV).map RV.pm).map (·.1) ++ ioTys [.val T24, .val T24])) :=
(.seq (.rg [] none)
(.seq (.rg [] (some (.op ⟨[32], []⟩ (.op ⟨[32], []⟩ (.op ⟨[48], []⟩ (.op ⟨[48], []⟩ (.op ⟨[144], []⟩ (.op ⟨[], []⟩ (.split 10 [(16, .bool)] (.op ⟨[32], []⟩ (.op ⟨[32], []⟩ (.op ⟨[48], []⟩ (.op ⟨[48], []⟩ (.op ⟨[240], []⟩ (.op ⟨[], []⟩ .done)))))) (.op ⟨[], []⟩ .done))))))))))
.leaf))
theorem reticuleref24_Same_Eok : EnvOk Try.prog reticuleref24_Same_E := env_ok tab_ok (by simp) (allFn_mem (show AllFn Try.prog reticuleref24_Same_fns from ⟨reticuleref23_Same_ok, reticuleref24_Queues_ok, trivial⟩)) mixed (by kernel_rfl) (by kernel_rfl) (by kernel_rfl) (by kernel_rfl)
theorem reticuleref24_Same_eq (x : (List (Int × (Int × (List (BitVec 8) × (Int × (List (BitVec 8) × (((Int × (BitVec 64 × (Int × (Int × (Int × Unit))))) × (Int × (Int × (List (BitVec 8) × ((Int × (Int × (Int × Unit))) × Unit))))) × ((Int × (Int × (Int × Unit))) × Unit))))))) × (List (Int × (Int × (List (BitVec 8) × Unit))) × Unit)) × (List (Int × (Int × (List (BitVec 8) × (Int × (List (BitVec 8) × (((Int × (BitVec 64 × (Int × (Int × (Int × Unit))))) × (Int × (Int × (List (BitVec 8) × ((Int × (Int × (Int × Unit))) × Unit))))) × ((Int × (Int × (Int × Unit))) × Unit))))))) × (List (Int × (Int × (List (BitVec 8) × Unit))) × Unit))) : evF reticuleref24_Same_E 17 (bd Try.f14) [.val T24, .val T24] [.tmp 4 (.bool, .view)] reticuleref24_Same_an x = reticuleref24_Same x := by kernel_rfl
theorem reticuleref24_Same_ok : FnOk Try.prog 14 { args := [.val T24, .val T24], res := [(.bool, .view)], f := reticuleref24_Same } :=
  fn_ok reticuleref24_Same_Eok Try.func14 rfl (by kernel_rfl) (by kernel_rfl) (by kernel_rfl) (rs := [.tmp 4 (.bool, .view)]) (c := bd Try.f14) (an := reticuleref24_Same_an) (ob_flat _ _ _ _ _ _ _ (by kernel_rfl)) reticuleref24_Same_eq
/-! reticuleref02_Same: function 19 -/
noncomputable def reticuleref02_Same_fns : List (Nat × Fun) := []
noncomputable def reticuleref02_Same_E : Env := { ty := Re.look tyTab, eq := fun n => memB n [89], fn := Re.look reticuleref02_Same_fns, cut := fun n => memB n [], win := fun n => memB n [], one := fun n => memB n [], onc := fun n => memB n [], pre := fun n => memB n [], ptr := fun n => memB n [], psl := fun n => memB n [], parr := Re.look [], mpt := Re.look [], lnd := fun n => memB n [] }
noncomputable def reticuleref02_Same_an : An (Ds ((([.tmp 4 (.bool, .view)] : List RV).map RV.pm).map (·.1) ++ ioTys [.val (.sl (.arr 64 (.int .u8))), .val (.sl (.arr 64 (.int .u8)))])) :=
(.seq (.rg [] none)
(.seq (.seq (.rg [] none)
(.cond (.seq (.rg [] none)
.leaf) .leaf))
(.seq (.seq (.rg [] none)
(.loop [.val 0 (.sl (.arr 64 (.int .u8))), .val 1 (.sl (.arr 64 (.int .u8))), .val 5 (.int .i64)] [] reticuleref02_Same_L0
(.seq (.seq (.rg [] none)
(.cond .leaf .leaf))
(.seq (.block (.seq (.rg [] (some (.op ⟨[], []⟩ (.op ⟨[], []⟩ (.op ⟨[], []⟩ (.op ⟨[], []⟩ (.op ⟨[], []⟩ (.op ⟨[], []⟩ (.op ⟨[], []⟩ (.op ⟨[], []⟩ (.op ⟨[], []⟩ .done)))))))))))
(.cond (.seq (.rg [] none)
.leaf) .leaf)))
(.rg [] none)))))
(.seq (.rg [] none)
.leaf))))
theorem reticuleref02_Same_Eok : EnvOk Try.prog reticuleref02_Same_E := env_ok tab_ok (by intro t h; simp only [List.mem_cons, List.mem_nil_iff, or_false, List.not_mem_nil] at h; rcases h with rfl <;> exact ⟨by kernel_rfl, by kernel_rfl, by kernel_rfl⟩) (allFn_mem (show AllFn Try.prog reticuleref02_Same_fns from trivial)) mixed (by kernel_rfl) (by kernel_rfl) (by kernel_rfl) (by kernel_rfl)
theorem reticuleref02_Same_eq (x : (List (List (BitVec 8))) × (List (List (BitVec 8)))) : evF reticuleref02_Same_E 26 (bd Try.f19) [.val (.sl (.arr 64 (.int .u8))), .val (.sl (.arr 64 (.int .u8)))] [.tmp 4 (.bool, .view)] reticuleref02_Same_an x = reticuleref02_Same x := by kernel_rfl
theorem reticuleref02_Same_ok : FnOk Try.prog 19 { args := [.val (.sl (.arr 64 (.int .u8))), .val (.sl (.arr 64 (.int .u8)))], res := [(.bool, .view)], f := reticuleref02_Same } :=
  fn_ok reticuleref02_Same_Eok Try.func19 rfl (by kernel_rfl) (by kernel_rfl) (by kernel_rfl) (rs := [.tmp 4 (.bool, .view)]) (c := bd Try.f19) (an := reticuleref02_Same_an) (show obF reticuleref02_Same_E 26 (bd Try.f19) [.val (.sl (.arr 64 (.int .u8))), .val (.sl (.arr 64 (.int .u8)))] [.tmp 4 (.bool, .view)] reticuleref02_Same_an from (And.intro trivial (And.intro (And.intro trivial (And.intro (And.intro trivial trivial) trivial)) (And.intro (And.intro trivial (And.intro (fun _ => rfl) (And.intro (fun n j => by kernel_rfl) (fun n => (And.intro (And.intro trivial (And.intro trivial trivial)) (And.intro (And.intro trivial (And.intro (And.intro trivial trivial) trivial)) trivial)))))) (And.intro trivial trivial))))) reticuleref02_Same_eq
/-! reticuleref03_Same: function 18 -/
noncomputable def reticuleref03_Same_fns : List (Nat × Fun) := [(19, { args := [.val (.sl (.arr 64 (.int .u8))), .val (.sl (.arr 64 (.int .u8)))], res := [(.bool, .view)], f := reticuleref02_Same })]
noncomputable def reticuleref03_Same_E : Env := { ty := Re.look tyTab, eq := fun n => memB n [89, 91], fn := Re.look reticuleref03_Same_fns, cut := fun n => memB n [], win := fun n => memB n [], one := fun n => memB n [], onc := fun n => memB n [], pre := fun n => memB n [], ptr := fun n => memB n [], psl := fun n => memB n [], parr := Re.look [], mpt := Re.look [], lnd := fun n => memB n [] }
noncomputable def reticuleref03_Same_an : An (Ds ((([.tmp 4 (.bool, .view)] : List RV).map RV.pm).map (·.1) ++ ioTys [.val T43, .val T43])) :=
(.seq (.rg [] none)
(.seq (.seq (.rg [] (some (.op ⟨[32], []⟩ (.op ⟨[32], []⟩ (.op ⟨[48], []⟩ (.op ⟨[48], []⟩ (.op ⟨[160], []⟩ (.op ⟨[], []⟩ (.op ⟨[], []⟩ (.split 12 [(20, .bool)] (.op ⟨[32], []⟩ (.op ⟨[32], []⟩ (.op ⟨[], []⟩ (.op ⟨[48], []⟩ (.op ⟨[48], []⟩ (.op ⟨[], []⟩ (.op ⟨[], []⟩ (.op ⟨[], []⟩ .done)))))))) .done))))))))))
(.cond (.seq (.rg [] none)
.leaf) .leaf))
(.seq (.seq (.rg [] none)
(.loop [.box 2 T43, .box 3 T43, .val 5 (.int .i64)] [] reticuleref03_Same_L0
(.seq (.seq (.rg [] none)
(.cond .leaf .leaf))
(.seq (.block (.seq (.rg [] (some (.op ⟨[32], []⟩ (.op ⟨[32], []⟩ (.op ⟨[], []⟩ (.op ⟨[], []⟩ (.op ⟨[], []⟩ (.op ⟨[48], []⟩ (.op ⟨[48], []⟩ (.op ⟨[], []⟩ (.op ⟨[], []⟩ (.op ⟨[], []⟩ (.op ⟨[], []⟩ .done)))))))))))))
(.cond (.seq (.rg [] none)
.leaf) .leaf)))
(.rg [] none)))))
(.seq (.rg [] none)
.leaf))))
theorem reticuleref03_Same_Eok : EnvOk Try.prog reticuleref03_Same_E := env_ok tab_ok (by intro t h; simp only [List.mem_cons, List.mem_nil_iff, or_false, List.not_mem_nil] at h; rcases h with rfl | rfl <;> exact ⟨by kernel_rfl, by kernel_rfl, by kernel_rfl⟩) (allFn_mem (show AllFn Try.prog reticuleref03_Same_fns from ⟨reticuleref02_Same_ok, trivial⟩)) mixed (by kernel_rfl) (by kernel_rfl) (by kernel_rfl) (by kernel_rfl)
theorem reticuleref03_Same_eq (x : (List (List (BitVec 8)) × (List (Int × (List (BitVec 8) × Unit)) × Unit)) × (List (List (BitVec 8)) × (List (Int × (List (BitVec 8) × Unit)) × Unit))) : evF reticuleref03_Same_E 39 (bd Try.f18) [.val T43, .val T43] [.tmp 4 (.bool, .view)] reticuleref03_Same_an x = reticuleref03_Same x := by kernel_rfl
theorem reticuleref03_Same_ok : FnOk Try.prog 18 { args := [.val T43, .val T43], res := [(.bool, .view)], f := reticuleref03_Same } :=
  fn_ok reticuleref03_Same_Eok Try.func18 rfl (by kernel_rfl) (by kernel_rfl) (by kernel_rfl) (rs := [.tmp 4 (.bool, .view)]) (c := bd Try.f18) (an := reticuleref03_Same_an) (show obF reticuleref03_Same_E 39 (bd Try.f18) [.val T43, .val T43] [.tmp 4 (.bool, .view)] reticuleref03_Same_an from (And.intro trivial (And.intro (And.intro trivial (And.intro (And.intro trivial trivial) trivial)) (And.intro (And.intro trivial (And.intro (fun _ => rfl) (And.intro (fun n j => by kernel_rfl) (fun n => (And.intro (And.intro trivial (And.intro trivial trivial)) (And.intro (And.intro trivial (And.intro (And.intro trivial trivial) trivial)) trivial)))))) (And.intro trivial trivial))))) reticuleref03_Same_eq
/-! reticuleref05_Same: function 66 -/
noncomputable def reticuleref05_Same_fns : List (Nat × Fun) := [(18, { args := [.val T43, .val T43], res := [(.bool, .view)], f := reticuleref03_Same })]
noncomputable def reticuleref05_Same_E : Env := { ty := Re.look tyTab, eq := fun n => memB n [], fn := Re.look reticuleref05_Same_fns, cut := fun n => memB n [], win := fun n => memB n [], one := fun n => memB n [], onc := fun n => memB n [], pre := fun n => memB n [], ptr := fun n => memB n [], psl := fun n => memB n [], parr := Re.look [], mpt := Re.look [], lnd := fun n => memB n [] }
noncomputable def reticuleref05_Same_an : An (Ds ((([.tmp 4 (.bool, .view)] : List RV).map RV.pm).map (·.1) ++ ioTys [.val T45, .val T45])) :=
(.seq (.rg [] none)
(.seq (.rg [] (some (.op ⟨[32], []⟩ (.op ⟨[32], []⟩ (.op ⟨[48], []⟩ (.op ⟨[48], []⟩ (.op ⟨[], []⟩ (.op ⟨[], []⟩ (.split 10 [(16, .bool)] (.op ⟨[32], []⟩ (.op ⟨[32], []⟩ (.op ⟨[48], []⟩ (.op ⟨[48], []⟩ (.op ⟨[], []⟩ (.op ⟨[], []⟩ .done)))))) (.op ⟨[], []⟩ (.split 17 [(23, .bool)] (.op ⟨[32], []⟩ (.op ⟨[32], []⟩ (.op ⟨[48], []⟩ (.op ⟨[48], []⟩ (.op ⟨[], []⟩ (.op ⟨[], []⟩ .done)))))) (.op ⟨[], []⟩ (.split 24 [(30, .bool)] (.op ⟨[32], []⟩ (.op ⟨[32], []⟩ (.op ⟨[48], []⟩ (.op ⟨[48], []⟩ (.op ⟨[464], []⟩ (.op ⟨[], []⟩ .done)))))) (.op ⟨[], []⟩ .done))))))))))))))
.leaf))
theorem reticuleref05_Same_Eok : EnvOk Try.prog reticuleref05_Same_E := env_ok tab_ok (by simp) (allFn_mem (show AllFn Try.prog reticuleref05_Same_fns from ⟨reticuleref03_Same_ok, trivial⟩)) mixed (by kernel_rfl) (by kernel_rfl) (by kernel_rfl) (by kernel_rfl)
theorem reticuleref05_Same_eq (x : ((List (List (BitVec 8)) × (List (Int × (List (BitVec 8) × Unit)) × Unit)) × (Bool × (Bool × (Bool × Unit)))) × ((List (List (BitVec 8)) × (List (Int × (List (BitVec 8) × Unit)) × Unit)) × (Bool × (Bool × (Bool × Unit))))) : evF reticuleref05_Same_E 31 (bd Try.f66) [.val T45, .val T45] [.tmp 4 (.bool, .view)] reticuleref05_Same_an x = reticuleref05_Same x := by kernel_rfl
theorem reticuleref05_Same_ok : FnOk Try.prog 66 { args := [.val T45, .val T45], res := [(.bool, .view)], f := reticuleref05_Same } :=
  fn_ok reticuleref05_Same_Eok Try.func66 rfl (by kernel_rfl) (by kernel_rfl) (by kernel_rfl) (rs := [.tmp 4 (.bool, .view)]) (c := bd Try.f66) (an := reticuleref05_Same_an) (ob_flat _ _ _ _ _ _ _ (by kernel_rfl)) reticuleref05_Same_eq
/-! reticuleref04_Same: function 67 -/
noncomputable def reticuleref04_Same_fns : List (Nat × Fun) := []
noncomputable def reticuleref04_Same_E : Env := { ty := Re.look tyTab, eq := fun n => memB n [49], fn := Re.look reticuleref04_Same_fns, cut := fun n => memB n [], win := fun n => memB n [], one := fun n => memB n [], onc := fun n => memB n [], pre := fun n => memB n [], ptr := fun n => memB n [], psl := fun n => memB n [], parr := Re.look [], mpt := Re.look [], lnd := fun n => memB n [] }
noncomputable def reticuleref04_Same_an : An (Ds ((([.tmp 4 (.bool, .view)] : List RV).map RV.pm).map (·.1) ++ ioTys [.val (.sl T48), .val (.sl T48)])) :=
(.seq (.rg [] none)
(.seq (.seq (.rg [] none)
(.cond (.seq (.rg [] none)
.leaf) .leaf))
(.seq (.seq (.rg [] none)
(.loop [.val 0 (.sl T48), .val 1 (.sl T48), .val 5 (.int .i64)] [] reticuleref04_Same_L0
(.seq (.seq (.rg [] none)
(.cond .leaf .leaf))
(.seq (.block (.seq (.rg [] (some (.op ⟨[], []⟩ (.op ⟨[], []⟩ (.op ⟨[], []⟩ (.op ⟨[], []⟩ (.op ⟨[], []⟩ (.op ⟨[], []⟩ (.op ⟨[], []⟩ (.op ⟨[], []⟩ (.op ⟨[], []⟩ .done)))))))))))
(.cond (.seq (.rg [] none)
.leaf) .leaf)))
(.rg [] none)))))
(.seq (.rg [] none)
.leaf))))
theorem reticuleref04_Same_Eok : EnvOk Try.prog reticuleref04_Same_E := env_ok tab_ok (by intro t h; simp only [List.mem_cons, List.mem_nil_iff, or_false, List.not_mem_nil] at h; rcases h with rfl <;> exact ⟨by kernel_rfl, by kernel_rfl, by kernel_rfl⟩) (allFn_mem (show AllFn Try.prog reticuleref04_Same_fns from trivial)) mixed (by kernel_rfl) (by kernel_rfl) (by kernel_rfl) (by kernel_rfl)
theorem reticuleref04_Same_eq (x : (List (Int × (Int × (Int × Unit)))) × (List (Int × (Int × (Int × Unit))))) : evF reticuleref04_Same_E 26 (bd Try.f67) [.val (.sl T48), .val (.sl T48)] [.tmp 4 (.bool, .view)] reticuleref04_Same_an x = reticuleref04_Same x := by kernel_rfl
theorem reticuleref04_Same_ok : FnOk Try.prog 67 { args := [.val (.sl T48), .val (.sl T48)], res := [(.bool, .view)], f := reticuleref04_Same } :=
  fn_ok reticuleref04_Same_Eok Try.func67 rfl (by kernel_rfl) (by kernel_rfl) (by kernel_rfl) (rs := [.tmp 4 (.bool, .view)]) (c := bd Try.f67) (an := reticuleref04_Same_an) (show obF reticuleref04_Same_E 26 (bd Try.f67) [.val (.sl T48), .val (.sl T48)] [.tmp 4 (.bool, .view)] reticuleref04_Same_an from (And.intro trivial (And.intro (And.intro trivial (And.intro (And.intro trivial trivial) trivial)) (And.intro (And.intro trivial (And.intro (fun _ => rfl) (And.intro (fun n j => by kernel_rfl) (fun n => (And.intro (And.intro trivial (And.intro trivial trivial)) (And.intro (And.intro trivial (And.intro (And.intro trivial trivial) trivial)) trivial)))))) (And.intro trivial trivial))))) reticuleref04_Same_eq
/-! reticuleref10_Unit: function 46 -/
noncomputable def reticuleref10_Unit_fns : List (Nat × Fun) := [(66, { args := [.val T45, .val T45], res := [(.bool, .view)], f := reticuleref05_Same }), (67, { args := [.val (.sl T48), .val (.sl T48)], res := [(.bool, .view)], f := reticuleref04_Same })]
noncomputable def reticuleref10_Unit_E : Env := { ty := Re.look tyTab, eq := fun n => memB n [49], fn := Re.look reticuleref10_Unit_fns, cut := fun n => memB n [], win := fun n => memB n [], one := fun n => memB n [], onc := fun n => memB n [], pre := fun n => memB n [], ptr := fun n => memB n [], psl := fun n => memB n [], parr := Re.look [], mpt := Re.look [], lnd := fun n => memB n [] }
noncomputable def reticuleref10_Unit_an : An (Ds ((([.tmp 4 (.bool, .view)] : List RV).map RV.pm).map (·.1) ++ ioTys [.val T50, .val T50])) :=
(.seq (.rg [] none)
(.seq (.rg [] (some (.op ⟨[32], []⟩ (.op ⟨[32], []⟩ (.op ⟨[48], []⟩ (.op ⟨[48], []⟩ (.op ⟨[144], []⟩ (.op ⟨[], []⟩ (.split 10 [(16, .bool)] (.op ⟨[32], []⟩ (.op ⟨[32], []⟩ (.op ⟨[48], []⟩ (.op ⟨[48], []⟩ (.op ⟨[], []⟩ (.op ⟨[], []⟩ .done)))))) (.op ⟨[], []⟩ (.split 17 [(23, .bool)] (.op ⟨[32], []⟩ (.op ⟨[32], []⟩ (.op ⟨[48], []⟩ (.op ⟨[48], []⟩ (.op ⟨[], []⟩ (.op ⟨[], []⟩ .done)))))) (.op ⟨[], []⟩ (.split 24 [(30, .bool)] (.op ⟨[32], []⟩ (.op ⟨[32], []⟩ (.op ⟨[48], []⟩ (.op ⟨[48], []⟩ (.op ⟨[464], []⟩ (.op ⟨[], []⟩ .done)))))) (.op ⟨[], []⟩ .done))))))))))))))
.leaf))
theorem reticuleref10_Unit_Eok : EnvOk Try.prog reticuleref10_Unit_E := env_ok tab_ok (by intro t h; simp only [List.mem_cons, List.mem_nil_iff, or_false, List.not_mem_nil] at h; rcases h with rfl <;> exact ⟨by kernel_rfl, by kernel_rfl, by kernel_rfl⟩) (allFn_mem (show AllFn Try.prog reticuleref10_Unit_fns from ⟨reticuleref05_Same_ok, reticuleref04_Same_ok, trivial⟩)) mixed (by kernel_rfl) (by kernel_rfl) (by kernel_rfl) (by kernel_rfl)
theorem reticuleref10_Unit_eq (x : (((List (List (BitVec 8)) × (List (Int × (List (BitVec 8) × Unit)) × Unit)) × (Bool × (Bool × (Bool × Unit)))) × (Bool × (List (Int × (Int × (Int × Unit))) × ((Int × (Int × (Int × Unit))) × Unit)))) × (((List (List (BitVec 8)) × (List (Int × (List (BitVec 8) × Unit)) × Unit)) × (Bool × (Bool × (Bool × Unit)))) × (Bool × (List (Int × (Int × (Int × Unit))) × ((Int × (Int × (Int × Unit))) × Unit))))) : evF reticuleref10_Unit_E 31 (bd Try.f46) [.val T50, .val T50] [.tmp 4 (.bool, .view)] reticuleref10_Unit_an x = reticuleref10_Unit x := by kernel_rfl
theorem reticuleref10_Unit_ok : FnOk Try.prog 46 { args := [.val T50, .val T50], res := [(.bool, .view)], f := reticuleref10_Unit } :=
  fn_ok reticuleref10_Unit_Eok Try.func46 rfl (by kernel_rfl) (by kernel_rfl) (by kernel_rfl) (rs := [.tmp 4 (.bool, .view)]) (c := bd Try.f46) (an := reticuleref10_Unit_an) (ob_flat _ _ _ _ _ _ _ (by kernel_rfl)) reticuleref10_Unit_eq
/-! reticuleref12_Same: function 15 -/
noncomputable def reticuleref12_Same_fns : List (Nat × Fun) := [(46, { args := [.val T50, .val T50], res := [(.bool, .view)], f := reticuleref10_Unit })]
noncomputable def reticuleref12_Same_E : Env := { ty := Re.look tyTab, eq := fun n => memB n [], fn := Re.look reticuleref12_Same_fns, cut := fun n => memB n [], win := fun n => memB n [], one := fun n => memB n [], onc := fun n => memB n [], pre := fun n => memB n [], ptr := fun n => memB n [], psl := fun n => memB n [], parr := Re.look [], mpt := Re.look [], lnd := fun n => memB n [] }
noncomputable def reticuleref12_Same_an : An (Ds ((([.tmp 4 (.bool, .view)] : List RV).map RV.pm).map (·.1) ++ ioTys [.val (.sl T50), .val (.sl T50)])) :=
(.seq (.rg [] none)
(.seq (.seq (.rg [] none)
(.cond (.seq (.rg [] none)
.leaf) .leaf))
(.seq (.seq (.rg [] none)
(.loop [.val 0 (.sl T50), .val 1 (.sl T50), .val 5 (.int .i64)] [] reticuleref12_Same_L0
(.seq (.seq (.rg [] none)
(.cond .leaf .leaf))
(.seq (.block (.seq (.rg [] (some (.op ⟨[], []⟩ (.op ⟨[], []⟩ (.op ⟨[], []⟩ (.op ⟨[], []⟩ (.op ⟨[], []⟩ (.op ⟨[], []⟩ (.op ⟨[], []⟩ (.op ⟨[], []⟩ (.op ⟨[400], []⟩ (.op ⟨[], []⟩ .done))))))))))))
(.cond (.seq (.rg [] none)
.leaf) .leaf)))
(.rg [] none)))))
(.seq (.rg [] none)
.leaf))))
theorem reticuleref12_Same_Eok : EnvOk Try.prog reticuleref12_Same_E := env_ok tab_ok (by simp) (allFn_mem (show AllFn Try.prog reticuleref12_Same_fns from ⟨reticuleref10_Unit_ok, trivial⟩)) mixed (by kernel_rfl) (by kernel_rfl) (by kernel_rfl) (by kernel_rfl)
theorem reticuleref12_Same_eq (x : (List (((List (List (BitVec 8)) × (List (Int × (List (BitVec 8) × Unit)) × Unit)) × (Bool × (Bool × (Bool × Unit)))) × (Bool × (List (Int × (Int × (Int × Unit))) × ((Int × (Int × (Int × Unit))) × Unit))))) × (List (((List (List (BitVec 8)) × (List (Int × (List (BitVec 8) × Unit)) × Unit)) × (Bool × (Bool × (Bool × Unit)))) × (Bool × (List (Int × (Int × (Int × Unit))) × ((Int × (Int × (Int × Unit))) × Unit)))))) : evF reticuleref12_Same_E 27 (bd Try.f15) [.val (.sl T50), .val (.sl T50)] [.tmp 4 (.bool, .view)] reticuleref12_Same_an x = reticuleref12_Same x := by kernel_rfl
theorem reticuleref12_Same_ok : FnOk Try.prog 15 { args := [.val (.sl T50), .val (.sl T50)], res := [(.bool, .view)], f := reticuleref12_Same } :=
  fn_ok reticuleref12_Same_Eok Try.func15 rfl (by kernel_rfl) (by kernel_rfl) (by kernel_rfl) (rs := [.tmp 4 (.bool, .view)]) (c := bd Try.f15) (an := reticuleref12_Same_an) (show obF reticuleref12_Same_E 27 (bd Try.f15) [.val (.sl T50), .val (.sl T50)] [.tmp 4 (.bool, .view)] reticuleref12_Same_an from (And.intro trivial (And.intro (And.intro trivial (And.intro (And.intro trivial trivial) trivial)) (And.intro (And.intro trivial (And.intro (fun _ => rfl) (And.intro (fun n j => by kernel_rfl) (fun n => (And.intro (And.intro trivial (And.intro trivial trivial)) (And.intro (And.intro trivial (And.intro (And.intro trivial trivial) trivial)) trivial)))))) (And.intro trivial trivial))))) reticuleref12_Same_eq
/-! reticulelaw24_ManageDoes: function 3 -/
noncomputable def reticulelaw24_ManageDoes_fns : List (Nat × Fun) := [(8, { args := [], res := [(.bool, .view)], f := reticulelaw24_alive }), (9, { args := [.val T24, .val (.sl T50)], res := [(.bool, .view)], f := reticuleref24_Great }), (10, { args := [.val T24], res := [(T24, .view)], f := reticuleref24_Copy }), (11, { args := [.val (.sl T50)], res := [((.sl T50), .full)], f := reticuleref12_Copy }), (12, { args := [.val T24, .val (.sl T50), .val T27], res := [(T24, .view), ((.sl T50), .view), ((.int .i64), .view)], f := manage_Do }), (13, { args := [.val T24, .val (.sl T50), .val T27], res := [(T24, .view), ((.sl T50), .view), ((.int .i64), .view)], f := reticuleref24_Do }), (14, { args := [.val T24, .val T24], res := [(.bool, .view)], f := reticuleref24_Same }), (15, { args := [.val (.sl T50), .val (.sl T50)], res := [(.bool, .view)], f := reticuleref12_Same })]
noncomputable def reticulelaw24_ManageDoes_E : Env := { ty := Re.look tyTab, eq := fun n => memB n [], fn := Re.look reticulelaw24_ManageDoes_fns, cut := fun n => memB n [], win := fun n => memB n [], one := fun n => memB n [], onc := fun n => memB n [], pre := fun n => memB n [], ptr := fun n => memB n [], psl := fun n => memB n [], parr := Re.look [], mpt := Re.look [], lnd := fun n => memB n [] }
noncomputable def reticulelaw24_ManageDoes_an : An (Ds ((([.tmp 6 (.bool, .view)] : List RV).map RV.pm).map (·.1) ++ ioTys [.val T24, .val (.sl T50), .val T27])) :=
(.seq (.rg [] none)
(.seq (.seq (.rg [] none)
(.cond (.seq (.rg [] none)
.leaf) .leaf))
(.seq (.seq (.rg [] none)
(.cond (.seq (.rg [] none)
.leaf) .leaf))
(.seq (.rg [] none)
(.seq (.rg [] none)
(.seq (.rg [] none)
(.seq (.rg [] (some (.op ⟨[144], []⟩ (.op ⟨[192], []⟩ (.op ⟨[672], []⟩ (.op ⟨[], []⟩ (.split 43 [(47, .bool)] (.op ⟨[], []⟩ (.op ⟨[], []⟩ (.op ⟨[736], []⟩ (.op ⟨[], []⟩ .done)))) (.op ⟨[], []⟩ (.split 48 [(52, .bool)] (.op ⟨[], []⟩ (.op ⟨[], []⟩ (.op ⟨[], []⟩ (.op ⟨[], []⟩ .done)))) (.op ⟨[], []⟩ (.split 53 [(57, .bool)] (.op ⟨[112], []⟩ (.op ⟨[48], []⟩ (.op ⟨[896], []⟩ (.op ⟨[], []⟩ .done)))) (.op ⟨[], []⟩ (.split 58 [(62, .bool)] (.op ⟨[], []⟩ (.op ⟨[], []⟩ (.op ⟨[368, 976], []⟩ (.op ⟨[], []⟩ .done)))) (.op ⟨[], []⟩ .done))))))))))))))
.leaf)))))))
theorem reticulelaw24_ManageDoes_Eok : EnvOk Try.prog reticulelaw24_ManageDoes_E := env_ok tab_ok (by simp) (allFn_mem (show AllFn Try.prog reticulelaw24_ManageDoes_fns from ⟨reticulelaw24_alive_ok, reticuleref24_Great_ok, reticuleref24_Copy_ok, reticuleref12_Copy_ok, manage_Do_ok, reticuleref24_Do_ok, reticuleref24_Same_ok, reticuleref12_Same_ok, trivial⟩)) mixed (by kernel_rfl) (by kernel_rfl) (by kernel_rfl) (by kernel_rfl)
theorem reticulelaw24_ManageDoes_eq (x : (List (Int × (Int × (List (BitVec 8) × (Int × (List (BitVec 8) × (((Int × (BitVec 64 × (Int × (Int × (Int × Unit))))) × (Int × (Int × (List (BitVec 8) × ((Int × (Int × (Int × Unit))) × Unit))))) × ((Int × (Int × (Int × Unit))) × Unit))))))) × (List (Int × (Int × (List (BitVec 8) × Unit))) × Unit)) × (List (((List (List (BitVec 8)) × (List (Int × (List (BitVec 8) × Unit)) × Unit)) × (Bool × (Bool × (Bool × Unit)))) × (Bool × (List (Int × (Int × (Int × Unit))) × ((Int × (Int × (Int × Unit))) × Unit))))) × (Int × (Int × (Int × (Int × Unit))))) : evF reticulelaw24_ManageDoes_E 63 (bd Try.f3) [.val T24, .val (.sl T50), .val T27] [.tmp 6 (.bool, .view)] reticulelaw24_ManageDoes_an x = reticulelaw24_ManageDoes x := by kernel_rfl
theorem reticulelaw24_ManageDoes_ok : FnOk Try.prog 3 { args := [.val T24, .val (.sl T50), .val T27], res := [(.bool, .view)], f := reticulelaw24_ManageDoes } :=
  fn_ok reticulelaw24_ManageDoes_Eok Try.func3 rfl (by kernel_rfl) (by kernel_rfl) (by kernel_rfl) (rs := [.tmp 6 (.bool, .view)]) (c := bd Try.f3) (an := reticulelaw24_ManageDoes_an) (ob_flat _ _ _ _ _ _ _ (by kernel_rfl)) reticulelaw24_ManageDoes_eq
/-! reticulelaw24_ManageDrops: function 4 -/
noncomputable def reticulelaw24_ManageDrops_fns : List (Nat × Fun) := [(8, { args := [], res := [(.bool, .view)], f := reticulelaw24_alive }), (9, { args := [.val T24, .val (.sl T50)], res := [(.bool, .view)], f := reticuleref24_Great }), (10, { args := [.val T24], res := [(T24, .view)], f := reticuleref24_Copy }), (16, { args := [.val T24, .val (.sl (.int .i64))], res := [(T24, .view)], f := manage_Drop }), (17, { args := [.val T24, .val (.sl (.int .i64))], res := [(T24, .view)], f := reticuleref24_Drop }), (14, { args := [.val T24, .val T24], res := [(.bool, .view)], f := reticuleref24_Same })]
noncomputable def reticulelaw24_ManageDrops_E : Env := { ty := Re.look tyTab, eq := fun n => memB n [], fn := Re.look reticulelaw24_ManageDrops_fns, cut := fun n => memB n [], win := fun n => memB n [], one := fun n => memB n [], onc := fun n => memB n [], pre := fun n => memB n [], ptr := fun n => memB n [], psl := fun n => memB n [], parr := Re.look [], mpt := Re.look [], lnd := fun n => memB n [] }
noncomputable def reticulelaw24_ManageDrops_an : An (Ds ((([.tmp 4 (.bool, .view)] : List RV).map RV.pm).map (·.1) ++ ioTys [.val T24, .val (.sl (.int .i64))])) :=
(.seq (.rg [] none)
(.seq (.seq (.rg [] none)
(.cond (.seq (.rg [] none)
.leaf) .leaf))
(.seq (.seq (.rg [] (some (.op ⟨[32], []⟩ (.op ⟨[144], []⟩ (.op ⟨[], []⟩ (.split 10 [(14, .bool)] (.op ⟨[], []⟩ (.op ⟨[], []⟩ (.op ⟨[], []⟩ (.op ⟨[], []⟩ .done)))) .done))))))
(.cond (.seq (.rg [] none)
.leaf) .leaf))
(.seq (.rg [] none)
(.seq (.rg [] (some (.op ⟨[80], []⟩ (.op ⟨[], []⟩ (.op ⟨[304], []⟩ (.op ⟨[32], []⟩ (.op ⟨[], []⟩ (.op ⟨[352], []⟩ (.op ⟨[368], []⟩ (.op ⟨[], []⟩ (.split 24 [(28, .bool)] (.op ⟨[80], []⟩ (.op ⟨[32], []⟩ (.op ⟨[432], []⟩ (.op ⟨[], []⟩ .done)))) (.op ⟨[], []⟩ .done))))))))))))
.leaf)))))
theorem reticulelaw24_ManageDrops_Eok : EnvOk Try.prog reticulelaw24_ManageDrops_E := env_ok tab_ok (by simp) (allFn_mem (show AllFn Try.prog reticulelaw24_ManageDrops_fns from ⟨reticulelaw24_alive_ok, reticuleref24_Great_ok, reticuleref24_Copy_ok, manage_Drop_ok, reticuleref24_Drop_ok, reticuleref24_Same_ok, trivial⟩)) mixed (by kernel_rfl) (by kernel_rfl) (by kernel_rfl) (by kernel_rfl)
theorem reticulelaw24_ManageDrops_eq (x : (List (Int × (Int × (List (BitVec 8) × (Int × (List (BitVec 8) × (((Int × (BitVec 64 × (Int × (Int × (Int × Unit))))) × (Int × (Int × (List (BitVec 8) × ((Int × (Int × (Int × Unit))) × Unit))))) × ((Int × (Int × (Int × Unit))) × Unit))))))) × (List (Int × (Int × (List (BitVec 8) × Unit))) × Unit)) × (List Int)) : evF reticulelaw24_ManageDrops_E 29 (bd Try.f4) [.val T24, .val (.sl (.int .i64))] [.tmp 4 (.bool, .view)] reticulelaw24_ManageDrops_an x = reticulelaw24_ManageDrops x := by kernel_rfl
theorem reticulelaw24_ManageDrops_ok : FnOk Try.prog 4 { args := [.val T24, .val (.sl (.int .i64))], res := [(.bool, .view)], f := reticulelaw24_ManageDrops } :=
  fn_ok reticulelaw24_ManageDrops_Eok Try.func4 rfl (by kernel_rfl) (by kernel_rfl) (by kernel_rfl) (rs := [.tmp 4 (.bool, .view)]) (c := bd Try.f4) (an := reticulelaw24_ManageDrops_an) (ob_flat _ _ _ _ _ _ _ (by kernel_rfl)) reticulelaw24_ManageDrops_eq
/-! reticuleref03_Right: function 49 -/
noncomputable def reticuleref03_Right_fns : List (Nat × Fun) := []
noncomputable def reticuleref03_Right_E : Env := { ty := Re.look tyTab, eq := fun n => memB n [], fn := Re.look reticuleref03_Right_fns, cut := fun n => memB n [], win := fun n => memB n [], one := fun n => memB n [], onc := fun n => memB n [], pre := fun n => memB n [], ptr := fun n => memB n [], psl := fun n => memB n [], parr := Re.look [], mpt := Re.look [], lnd := fun n => memB n [] }
noncomputable def reticuleref03_Right_an : An (Ds ((([.tmp 2 (.bool, .view)] : List RV).map RV.pm).map (·.1) ++ ioTys [.val T43])) :=
(.seq (.rg [] none)
(.seq (.seq (.rg [] (some (.op ⟨[16], []⟩ (.op ⟨[16], []⟩ (.op ⟨[], []⟩ (.op ⟨[], []⟩ (.op ⟨[], []⟩ (.split 8 [(13, .bool)] (.op ⟨[16], []⟩ (.op ⟨[16], []⟩ (.op ⟨[], []⟩ (.op ⟨[], []⟩ (.op ⟨[], []⟩ .done))))) .done))))))))
(.cond (.seq (.rg [] none)
.leaf) .leaf))
(.seq (.seq (.rg [] none)
(.loop [.box 1 T43, .val 3 (.int .i64)] [] reticuleref03_Right_L0
(.seq (.seq (.rg [] none)
(.cond .leaf .leaf))
(.seq (.block (.seq (.rg [] (some (.op ⟨[16], []⟩ (.op ⟨[16], []⟩ (.op ⟨[], []⟩ (.op ⟨[], []⟩ (.op ⟨[], []⟩ (.op ⟨[], []⟩ (.op ⟨[], []⟩ (.op ⟨[], []⟩ (.split 28 [(39, .bool)] (.op ⟨[16], []⟩ (.op ⟨[16], []⟩ (.op ⟨[], []⟩ (.op ⟨[], []⟩ (.op ⟨[], []⟩ (.op ⟨[], []⟩ (.op ⟨[16], []⟩ (.op ⟨[16], []⟩ (.op ⟨[], []⟩ (.op ⟨[], []⟩ (.op ⟨[], []⟩ .done))))))))))) .done)))))))))))
(.cond (.seq (.rg [] none)
.leaf) .leaf)))
(.rg [] none)))))
(.seq (.rg [] none)
.leaf))))
theorem reticuleref03_Right_Eok : EnvOk Try.prog reticuleref03_Right_E := env_ok tab_ok (by simp) (allFn_mem (show AllFn Try.prog reticuleref03_Right_fns from trivial)) mixed (by kernel_rfl) (by kernel_rfl) (by kernel_rfl) (by kernel_rfl)
theorem reticuleref03_Right_eq (x : (List (List (BitVec 8)) × (List (Int × (List (BitVec 8) × Unit)) × Unit))) : evF reticuleref03_Right_E 40 (bd Try.f49) [.val T43] [.tmp 2 (.bool, .view)] reticuleref03_Right_an x = reticuleref03_Right x := by kernel_rfl
theorem reticuleref03_Right_ok : FnOk Try.prog 49 { args := [.val T43], res := [(.bool, .view)], f := reticuleref03_Right } :=
  fn_ok reticuleref03_Right_Eok Try.func49 rfl (by kernel_rfl) (by kernel_rfl) (by kernel_rfl) (rs := [.tmp 2 (.bool, .view)]) (c := bd Try.f49) (an := reticuleref03_Right_an) (show obF reticuleref03_Right_E 40 (bd Try.f49) [.val T43] [.tmp 2 (.bool, .view)] reticuleref03_Right_an from (And.intro trivial (And.intro (And.intro trivial (And.intro (And.intro trivial trivial) trivial)) (And.intro (And.intro trivial (And.intro (fun _ => rfl) (And.intro (fun n j => by kernel_rfl) (fun n => (And.intro (And.intro trivial (And.intro trivial trivial)) (And.intro (And.intro trivial (And.intro (And.intro trivial trivial) trivial)) trivial)))))) (And.intro trivial trivial))))) reticuleref03_Right_eq
/-! reticuleref03_All: function 20 -/
noncomputable def reticuleref03_All_fns : List (Nat × Fun) := [(49, { args := [.val T43], res := [(.bool, .view)], f := reticuleref03_Right }), (50, { args := [.val (.sl (.arr 64 (.int .u8)))], res := [((.sl (.arr 64 (.int .u8))), .full)], f := reticuleref02_Copy })]
noncomputable def reticuleref03_All_E : Env := { ty := Re.look tyTab, eq := fun n => memB n [], fn := Re.look reticuleref03_All_fns, cut := fun n => memB n [], win := fun n => memB n [], one := fun n => memB n [], onc := fun n => memB n [], pre := fun n => memB n [], ptr := fun n => memB n [], psl := fun n => memB n [], parr := Re.look [], mpt := Re.look [], lnd := fun n => memB n [] }
noncomputable def reticuleref03_All_an : An (Ds ((([.tmp 2 ((.sl (.arr 64 (.int .u8))), .full)] : List RV).map RV.pm).map (·.1) ++ ioTys [.val T43])) :=
(.seq (.rg [] none)
(.seq (.seq (.rg [] none)
(.cond (.seq (.rg [] none)
.leaf) .leaf))
(.seq (.rg [] none)
(.seq (.seq (.rg [] none)
(.loop [.box 1 T43, .row 3 (.arr 64 (.int .u8)) .full, .val 4 (.int .i64)] [.row 3 (.arr 64 (.int .u8)) .full] reticuleref03_All_L0
(.seq (.seq (.rg [] none)
(.cond .leaf .leaf))
(.seq (.block (.rg [] (some (.op ⟨[], []⟩ (.op ⟨[16], []⟩ (.op ⟨[16], []⟩ (.op ⟨[], []⟩ (.op ⟨[], []⟩ (.op ⟨[], []⟩ (.op ⟨[], []⟩ (.op ⟨[16], []⟩ (.op ⟨[16], []⟩ (.op ⟨[], []⟩ (.op ⟨[], []⟩ (.op ⟨[], []⟩ (.op ⟨[], []⟩ (.op ⟨[48], []⟩ (.op ⟨[48], [48]⟩ .done))))))))))))))))))
(.rg [] none)))))
(.seq (.rg [] none)
.leaf)))))
theorem reticuleref03_All_Eok : EnvOk Try.prog reticuleref03_All_E := env_ok tab_ok (by simp) (allFn_mem (show AllFn Try.prog reticuleref03_All_fns from ⟨reticuleref03_Right_ok, reticuleref02_Copy_ok, trivial⟩)) mixed (by kernel_rfl) (by kernel_rfl) (by kernel_rfl) (by kernel_rfl)
theorem reticuleref03_All_eq (x : (List (List (BitVec 8)) × (List (Int × (List (BitVec 8) × Unit)) × Unit))) : evF reticuleref03_All_E 33 (bd Try.f20) [.val T43] [.tmp 2 ((.sl (.arr 64 (.int .u8))), .full)] reticuleref03_All_an x = reticuleref03_All x := by kernel_rfl
theorem reticuleref03_All_ok : FnOk Try.prog 20 { args := [.val T43], res := [((.sl (.arr 64 (.int .u8))), .full)], f := reticuleref03_All } :=
  fn_ok reticuleref03_All_Eok Try.func20 rfl (by kernel_rfl) (by kernel_rfl) (by kernel_rfl) (rs := [.tmp 2 ((.sl (.arr 64 (.int .u8))), .full)]) (c := bd Try.f20) (an := reticuleref03_All_an) (show obF reticuleref03_All_E 33 (bd Try.f20) [.val T43] [.tmp 2 ((.sl (.arr 64 (.int .u8))), .full)] reticuleref03_All_an from (And.intro trivial (And.intro (And.intro trivial (And.intro (And.intro trivial trivial) trivial)) (And.intro trivial (And.intro (And.intro trivial (And.intro (fun _ => rfl) (And.intro (fun n j => by kernel_rfl) (fun n => (And.intro (And.intro trivial (And.intro trivial trivial)) (And.intro trivial trivial)))))) (And.intro trivial trivial)))))) reticuleref03_All_eq
/-! reticuleref23_Right: function 21 -/
noncomputable def reticuleref23_Right_fns : List (Nat × Fun) := [(22, { args := [.val (.sl T69), .val (.int .i64)], res := [((.int .i64), .view)], f := reticuleref23_Find })]
noncomputable def reticuleref23_Right_E : Env := { ty := Re.look tyTab, eq := fun n => memB n [], fn := Re.look reticuleref23_Right_fns, cut := fun n => memB n [], win := fun n => memB n [], one := fun n => memB n [], onc := fun n => memB n [], pre := fun n => memB n [], ptr := fun n => memB n [], psl := fun n => memB n [], parr := Re.look [], mpt := Re.look [], lnd := fun n => memB n [] }
noncomputable def reticuleref23_Right_an : An (Ds ((([.tmp 2 (.bool, .view)] : List RV).map RV.pm).map (·.1) ++ ioTys [.val (.sl T69)])) :=
(.seq (.rg [] none)
(.seq (.seq (.rg [] none)
(.cond (.seq (.rg [] none)
.leaf) .leaf))
(.seq (.seq (.rg [] none)
(.loop [.val 0 (.sl T69), .val 3 (.int .i64)] [] reticuleref23_Right_L0
(.seq (.seq (.rg [] none)
(.cond .leaf .leaf))
(.seq (.block (.seq (.rg [] (some (.op ⟨[], []⟩ (.op ⟨[], []⟩ (.op ⟨[], []⟩ (.op ⟨[], []⟩ (.op ⟨[], []⟩ (.op ⟨[], []⟩ (.op ⟨[], []⟩ (.split 19 [(26, .bool)] (.op ⟨[], []⟩ (.op ⟨[], []⟩ (.op ⟨[], []⟩ (.op ⟨[], []⟩ (.op ⟨[], []⟩ (.op ⟨[], []⟩ (.op ⟨[], []⟩ .done))))))) (.op ⟨[], []⟩ (.split 27 [(37, .bool)] (.op ⟨[], []⟩ (.op ⟨[], []⟩ (.op ⟨[], []⟩ (.op ⟨[], []⟩ (.op ⟨[], []⟩ (.op ⟨[], []⟩ (.op ⟨[544], []⟩ (.op ⟨[], []⟩ (.op ⟨[], []⟩ (.op ⟨[], []⟩ .done)))))))))) .done))))))))))))
(.cond (.seq (.rg [] none)
.leaf) .leaf)))
(.rg [] none)))))
(.seq (.rg [] none)
.leaf))))
theorem reticuleref23_Right_Eok : EnvOk Try.prog reticuleref23_Right_E := env_ok tab_ok (by simp) (allFn_mem (show AllFn Try.prog reticuleref23_Right_fns from ⟨reticuleref23_Find_ok, trivial⟩)) mixed (by kernel_rfl) (by kernel_rfl) (by kernel_rfl) (by kernel_rfl)
theorem reticuleref23_Right_eq (x : (List (Int × (Int × (List (BitVec 8) × (Int × (List (BitVec 8) × (((Int × (BitVec 64 × (Int × (Int × (Int × Unit))))) × (Int × (Int × (List (BitVec 8) × ((Int × (Int × (Int × Unit))) × Unit))))) × ((Int × (Int × (Int × Unit))) × Unit))))))))) : evF reticuleref23_Right_E 38 (bd Try.f21) [.val (.sl T69)] [.tmp 2 (.bool, .view)] reticuleref23_Right_an x = reticuleref23_Right x := by kernel_rfl
theorem reticuleref23_Right_ok : FnOk Try.prog 21 { args := [.val (.sl T69)], res := [(.bool, .view)], f := reticuleref23_Right } :=
  fn_ok reticuleref23_Right_Eok Try.func21 rfl (by kernel_rfl) (by kernel_rfl) (by kernel_rfl) (rs := [.tmp 2 (.bool, .view)]) (c := bd Try.f21) (an := reticuleref23_Right_an) (show obF reticuleref23_Right_E 38 (bd Try.f21) [.val (.sl T69)] [.tmp 2 (.bool, .view)] reticuleref23_Right_an from (And.intro trivial (And.intro (And.intro trivial (And.intro (And.intro trivial trivial) trivial)) (And.intro (And.intro trivial (And.intro (fun _ => rfl) (And.intro (fun n j => by kernel_rfl) (fun n => (And.intro (And.intro trivial (And.intro trivial trivial)) (And.intro (And.intro trivial (And.intro (And.intro trivial trivial) trivial)) trivial)))))) (And.intro trivial trivial))))) reticuleref23_Right_eq
/-! reticuleref23_Sweep: function 24 -/
noncomputable def reticuleref23_Sweep_fns : List (Nat × Fun) := []
noncomputable def reticuleref23_Sweep_E : Env := { ty := Re.look tyTab, eq := fun n => memB n [], fn := Re.look reticuleref23_Sweep_fns, cut := fun n => memB n [], win := fun n => memB n [], one := fun n => memB n [], onc := fun n => memB n [], pre := fun n => memB n [], ptr := fun n => memB n [], psl := fun n => memB n [], parr := Re.look [], mpt := Re.look [], lnd := fun n => memB n [] }
noncomputable def reticuleref23_Sweep_an : An (Ds ((([.tmp 4 ((.sl T69), .full)] : List RV).map RV.pm).map (·.1) ++ ioTys [.val (.sl T69), .val (.int .i64)])) :=
(.seq (.rg [] none)
(.seq (.rg [] none)
(.seq (.seq (.rg [] none)
(.loop [.val 0 (.sl T69), .val 1 (.int .i64), .row 5 T69 .full, .val 6 (.int .i64)] [.row 5 T69 .full] reticuleref23_Sweep_L0
(.seq (.seq (.rg [] none)
(.cond .leaf .leaf))
(.join [.val 0 (.sl T69), .val 1 (.int .i64), .row 5 T69 .full, .val 6 (.int .i64)]
(.block (.seq (.rg [] (some (.op ⟨[], []⟩ (.op ⟨[], []⟩ (.op ⟨[], []⟩ (.split 15 [(23, .bool)] (.op ⟨[], []⟩ (.op ⟨[], []⟩ (.op ⟨[], []⟩ (.op ⟨[], []⟩ (.op ⟨[], []⟩ (.op ⟨[], []⟩ (.op ⟨[], []⟩ (.op ⟨[], []⟩ .done)))))))) .done))))))
(.cond (.rg [] none) .leaf)))
(.rg [] none)))))
(.seq (.rg [] none)
.leaf))))
theorem reticuleref23_Sweep_Eok : EnvOk Try.prog reticuleref23_Sweep_E := env_ok tab_ok (by simp) (allFn_mem (show AllFn Try.prog reticuleref23_Sweep_fns from trivial)) mixed (by kernel_rfl) (by kernel_rfl) (by kernel_rfl) (by kernel_rfl)
theorem reticuleref23_Sweep_eq (x : (List (Int × (Int × (List (BitVec 8) × (Int × (List (BitVec 8) × (((Int × (BitVec 64 × (Int × (Int × (Int × Unit))))) × (Int × (Int × (List (BitVec 8) × ((Int × (Int × (Int × Unit))) × Unit))))) × ((Int × (Int × (Int × Unit))) × Unit)))))))) × Int) : evF reticuleref23_Sweep_E 32 (bd Try.f24) [.val (.sl T69), .val (.int .i64)] [.tmp 4 ((.sl T69), .full)] reticuleref23_Sweep_an x = reticuleref23_Sweep x := by kernel_rfl
theorem reticuleref23_Sweep_ok : FnOk Try.prog 24 { args := [.val (.sl T69), .val (.int .i64)], res := [((.sl T69), .full)], f := reticuleref23_Sweep } :=
  fn_ok reticuleref23_Sweep_Eok Try.func24 rfl (by kernel_rfl) (by kernel_rfl) (by kernel_rfl) (rs := [.tmp 4 ((.sl T69), .full)]) (c := bd Try.f24) (an := reticuleref23_Sweep_an) (show obF reticuleref23_Sweep_E 32 (bd Try.f24) [.val (.sl T69), .val (.int .i64)] [.tmp 4 ((.sl T69), .full)] reticuleref23_Sweep_an from (And.intro trivial (And.intro trivial (And.intro (And.intro trivial (And.intro (fun _ => rfl) (And.intro (fun n j => by kernel_rfl) (fun n => (And.intro (And.intro trivial (And.intro trivial trivial)) (And.intro (And.intro trivial (And.intro trivial trivial)) trivial)))))) (And.intro trivial trivial))))) reticuleref23_Sweep_eq
/-! reticulelaw24_ManageAlone: function 5 -/
noncomputable def reticulelaw24_ManageAlone_fns : List (Nat × Fun) := [(8, { args := [], res := [(.bool, .view)], f := reticulelaw24_alive }), (9, { args := [.val T24, .val (.sl T50)], res := [(.bool, .view)], f := reticuleref24_Great }), (12, { args := [.val T24, .val (.sl T50), .val T27], res := [(T24, .view), ((.sl T50), .view), ((.int .i64), .view)], f := manage_Do }), (18, { args := [.val T43, .val T43], res := [(.bool, .view)], f := reticuleref03_Same }), (20, { args := [.val T43], res := [((.sl (.arr 64 (.int .u8))), .full)], f := reticuleref03_All }), (19, { args := [.val (.sl (.arr 64 (.int .u8))), .val (.sl (.arr 64 (.int .u8)))], res := [(.bool, .view)], f := reticuleref02_Same }), (21, { args := [.val (.sl T69)], res := [(.bool, .view)], f := reticuleref23_Right }), (22, { args := [.val (.sl T69), .val (.int .i64)], res := [((.int .i64), .view)], f := reticuleref23_Find }), (24, { args := [.val (.sl T69), .val (.int .i64)], res := [((.sl T69), .full)], f := reticuleref23_Sweep }), (23, { args := [.val (.sl T69), .val (.sl T69)], res := [(.bool, .view)], f := reticuleref23_Same })]
noncomputable def reticulelaw24_ManageAlone_E : Env := { ty := Re.look tyTab, eq := fun n => memB n [], fn := Re.look reticulelaw24_ManageAlone_fns, cut := fun n => memB n [], win := fun n => memB n [], one := fun n => memB n [], onc := fun n => memB n [], pre := fun n => memB n [], ptr := fun n => memB n [], psl := fun n => memB n [], parr := Re.look [], mpt := Re.look [], lnd := fun n => memB n [] }
noncomputable def reticulelaw24_ManageAlone_an : An (Ds ((([.tmp 6 (.bool, .view)] : List RV).map RV.pm).map (·.1) ++ ioTys [.val T24, .val (.sl T50), .val T27])) :=
(.seq (.rg [] none)
(.seq (.seq (.rg [] none)
(.cond (.seq (.rg [] none)
.leaf) .leaf))
(.seq (.seq (.rg [] none)
(.cond (.seq (.rg [] none)
.leaf) .leaf))
(.seq (.rg [] none)
(.seq (.seq (.rg [] none)
(.cond (.seq (.rg [] none)
.leaf) .leaf))
(.seq (.seq (.rg [] none)
(.loop [.val 1 (.sl T50), .box 3 T24, .box 5 T27, .box 7 T24, .val 8 (.sl T50), .val 10 (.int .i64)] [.box 3 T24, .box 5 T27, .box 7 T24] reticulelaw24_ManageAlone_L0
(.seq (.seq (.rg [] none)
(.cond .leaf .leaf))
(.seq (.block (.seq (.rg [] (some (.op ⟨[], []⟩ (.op ⟨[], []⟩ (.op ⟨[], []⟩ (.op ⟨[], []⟩ (.op ⟨[], []⟩ (.op ⟨[], []⟩ (.op ⟨[], []⟩ (.op ⟨[], []⟩ (.op ⟨[176], [176]⟩ (.op ⟨[192], [192]⟩ (.op ⟨[176], [176]⟩ (.op ⟨[192], [192]⟩ .done))))))))))))))
(.seq (.rg [1344, 1408] (some (.op ⟨[176], []⟩ (.op ⟨[176], []⟩ (.op ⟨[176], []⟩ (.op ⟨[192], []⟩ (.op ⟨[192], []⟩ (.op ⟨[192], []⟩ (.op ⟨[816], []⟩ (.op ⟨[], []⟩ (.op ⟨[], []⟩ (.split 53 [(61, .bool)] (.op ⟨[176], []⟩ (.op ⟨[176], []⟩ (.op ⟨[176], []⟩ (.op ⟨[192], []⟩ (.op ⟨[192], []⟩ (.op ⟨[192], []⟩ (.op ⟨[], []⟩ (.op ⟨[], []⟩ .done)))))))) (.op ⟨[], []⟩ (.split 62 [(70, .bool)] (.op ⟨[176], []⟩ (.op ⟨[176], []⟩ (.op ⟨[176], []⟩ (.op ⟨[192], []⟩ (.op ⟨[192], []⟩ (.op ⟨[192], []⟩ (.op ⟨[], []⟩ (.op ⟨[], []⟩ .done)))))))) (.op ⟨[], []⟩ (.split 71 [(79, .bool)] (.op ⟨[176], []⟩ (.op ⟨[176], []⟩ (.op ⟨[176], []⟩ (.op ⟨[192], []⟩ (.op ⟨[192], []⟩ (.op ⟨[192], []⟩ (.op ⟨[], []⟩ (.op ⟨[], []⟩ .done)))))))) (.op ⟨[], []⟩ (.split 80 [(91, .bool)] (.op ⟨[176], []⟩ (.op ⟨[176], []⟩ (.op ⟨[176], []⟩ (.op ⟨[1344], [1344]⟩ (.op ⟨[192], []⟩ (.op ⟨[192], []⟩ (.op ⟨[192], []⟩ (.op ⟨[1408], [1408]⟩ (.op ⟨[1344, 1408, 1424], [1344, 1408]⟩ (.op ⟨[], []⟩ (.op ⟨[], []⟩ .done))))))))))) .done))))))))))))))))))
(.cond (.seq (.rg [] none)
.leaf) .leaf))))
(.rg [] none)))))
(.seq (.seq (.rg [] (some (.op ⟨[48], []⟩ (.op ⟨[48], []⟩ (.op ⟨[1504], []⟩ (.op ⟨[], []⟩ (.op ⟨[], []⟩ (.split 96 [(103, .bool)] (.op ⟨[48], []⟩ (.op ⟨[48], []⟩ (.op ⟨[80], []⟩ (.op ⟨[80], []⟩ (.op ⟨[1616], []⟩ (.op ⟨[], []⟩ (.op ⟨[], []⟩ .done))))))) (.op ⟨[], []⟩ (.split 104 [(108, .bool)] (.op ⟨[80], []⟩ (.op ⟨[80], []⟩ (.op ⟨[], []⟩ (.op ⟨[], []⟩ .done)))) .done))))))))))
(.cond (.seq (.rg [] none)
.leaf) .leaf))
(.seq (.rg [1808, 1888] (some (.op ⟨[112], []⟩ (.op ⟨[112], []⟩ (.op ⟨[80], []⟩ (.op ⟨[80], []⟩ (.op ⟨[1808], [1808]⟩ (.op ⟨[48], []⟩ (.op ⟨[48], []⟩ (.op ⟨[80], []⟩ (.op ⟨[80], []⟩ (.op ⟨[1888], [1888]⟩ (.op ⟨[1808, 1888, 1904], [1808, 1888]⟩ (.op ⟨[], []⟩ .done))))))))))))))
.leaf))))))))
theorem reticulelaw24_ManageAlone_Eok : EnvOk Try.prog reticulelaw24_ManageAlone_E := env_ok tab_ok (by simp) (allFn_mem (show AllFn Try.prog reticulelaw24_ManageAlone_fns from ⟨reticulelaw24_alive_ok, reticuleref24_Great_ok, manage_Do_ok, reticuleref03_Same_ok, reticuleref03_All_ok, reticuleref02_Same_ok, reticuleref23_Right_ok, reticuleref23_Find_ok, reticuleref23_Sweep_ok, reticuleref23_Same_ok, trivial⟩)) mixed (by kernel_rfl) (by kernel_rfl) (by kernel_rfl) (by kernel_rfl)
theorem reticulelaw24_ManageAlone_eq (x : (List (Int × (Int × (List (BitVec 8) × (Int × (List (BitVec 8) × (((Int × (BitVec 64 × (Int × (Int × (Int × Unit))))) × (Int × (Int × (List (BitVec 8) × ((Int × (Int × (Int × Unit))) × Unit))))) × ((Int × (Int × (Int × Unit))) × Unit))))))) × (List (Int × (Int × (List (BitVec 8) × Unit))) × Unit)) × (List (((List (List (BitVec 8)) × (List (Int × (List (BitVec 8) × Unit)) × Unit)) × (Bool × (Bool × (Bool × Unit)))) × (Bool × (List (Int × (Int × (Int × Unit))) × ((Int × (Int × (Int × Unit))) × Unit))))) × (Int × (Int × (Int × (Int × Unit))))) : evF reticulelaw24_ManageAlone_E 120 (bd Try.f5) [.val T24, .val (.sl T50), .val T27] [.tmp 6 (.bool, .view)] reticulelaw24_ManageAlone_an x = reticulelaw24_ManageAlone x := by kernel_rfl
theorem reticulelaw24_ManageAlone_ok : FnOk Try.prog 5 { args := [.val T24, .val (.sl T50), .val T27], res := [(.bool, .view)], f := reticulelaw24_ManageAlone } :=
  fn_ok reticulelaw24_ManageAlone_Eok Try.func5 rfl (by kernel_rfl) (by kernel_rfl) (by kernel_rfl) (rs := [.tmp 6 (.bool, .view)]) (c := bd Try.f5) (an := reticulelaw24_ManageAlone_an) (show obF reticulelaw24_ManageAlone_E 120 (bd Try.f5) [.val T24, .val (.sl T50), .val T27] [.tmp 6 (.bool, .view)] reticulelaw24_ManageAlone_an from (And.intro trivial (And.intro (And.intro trivial (And.intro (And.intro trivial trivial) trivial)) (And.intro (And.intro trivial (And.intro (And.intro trivial trivial) trivial)) (And.intro trivial (And.intro (And.intro trivial (And.intro (And.intro trivial trivial) trivial)) (And.intro (And.intro trivial (And.intro (fun _ => rfl) (And.intro (fun n j => by kernel_rfl) (fun n => (And.intro (And.intro trivial (And.intro trivial trivial)) (And.intro (And.intro trivial (And.intro trivial (And.intro (And.intro trivial trivial) trivial))) trivial)))))) (And.intro (And.intro trivial (And.intro (And.intro trivial trivial) trivial)) (And.intro trivial trivial))))))))) reticulelaw24_ManageAlone_eq
/-! reticulelaw24_ManageGone: function 6 -/
noncomputable def reticulelaw24_ManageGone_fns : List (Nat × Fun) := [(8, { args := [], res := [(.bool, .view)], f := reticulelaw24_alive }), (9, { args := [.val T24, .val (.sl T50)], res := [(.bool, .view)], f := reticuleref24_Great }), (12, { args := [.val T24, .val (.sl T50), .val T27], res := [(T24, .view), ((.sl T50), .view), ((.int .i64), .view)], f := manage_Do }), (22, { args := [.val (.sl T69), .val (.int .i64)], res := [((.int .i64), .view)], f := reticuleref23_Find }), (15, { args := [.val (.sl T50), .val (.sl T50)], res := [(.bool, .view)], f := reticuleref12_Same }), (26, { args := [.val (.int .i64), .val (.int .i64), .val (.int .i64)], res := [(T48, .view)], f := reticuleref04_Of }), (25, { args := [.val (.sl T50), .val (.int .i64), .val T48], res := [((.sl T50), .full)], f := reticuleref12_Attend })]
noncomputable def reticulelaw24_ManageGone_E : Env := { ty := Re.look tyTab, eq := fun n => memB n [], fn := Re.look reticulelaw24_ManageGone_fns, cut := fun n => memB n [], win := fun n => memB n [], one := fun n => memB n [], onc := fun n => memB n [], pre := fun n => memB n [], ptr := fun n => memB n [], psl := fun n => memB n [], parr := Re.look [], mpt := Re.look [], lnd := fun n => memB n [] }
noncomputable def reticulelaw24_ManageGone_an : An (Ds ((([.tmp 6 (.bool, .view)] : List RV).map RV.pm).map (·.1) ++ ioTys [.val T24, .val (.sl T50), .val T27])) :=
(.seq (.rg [] none)
(.seq (.seq (.rg [] none)
(.cond (.seq (.rg [] none)
.leaf) .leaf))
(.seq (.seq (.rg [] none)
(.cond (.seq (.rg [] none)
.leaf) .leaf))
(.seq (.rg [] none)
(.seq (.rg [] none)
(.seq (.seq (.rg [] none)
(.cond (.seq (.rg [] (some (.op ⟨[], []⟩ (.op ⟨[], []⟩ (.op ⟨[], []⟩ (.split 32 [(37, .bool)] (.op ⟨[112], []⟩ (.op ⟨[112], []⟩ (.op ⟨[], []⟩ (.op ⟨[], []⟩ (.op ⟨[], []⟩ .done))))) (.op ⟨[], []⟩ (.split 38 [(42, .bool)] (.op ⟨[], []⟩ (.op ⟨[], []⟩ (.op ⟨[656], []⟩ (.op ⟨[], []⟩ .done)))) (.op ⟨[], []⟩ .done)))))))))
.leaf) .leaf))
(.seq (.rg [976] (some (.op ⟨[], []⟩ (.op ⟨[], []⟩ (.op ⟨[], []⟩ (.split 45 [(50, .bool)] (.op ⟨[112], []⟩ (.op ⟨[112], []⟩ (.op ⟨[], []⟩ (.op ⟨[], []⟩ (.op ⟨[], []⟩ .done))))) (.op ⟨[], []⟩ (.split 51 [(56, .bool)] (.op ⟨[112], []⟩ (.op ⟨[112], []⟩ (.op ⟨[], []⟩ (.op ⟨[], []⟩ (.op ⟨[], []⟩ .done))))) (.op ⟨[], []⟩ (.split 57 [(63, .bool)] (.op ⟨[], []⟩ (.op ⟨[], []⟩ (.op ⟨[960], []⟩ (.op ⟨[976], [976]⟩ (.op ⟨[976, 992], [976]⟩ (.op ⟨[], []⟩ .done)))))) (.op ⟨[], []⟩ .done)))))))))))
.leaf)))))))
theorem reticulelaw24_ManageGone_Eok : EnvOk Try.prog reticulelaw24_ManageGone_E := env_ok tab_ok (by simp) (allFn_mem (show AllFn Try.prog reticulelaw24_ManageGone_fns from ⟨reticulelaw24_alive_ok, reticuleref24_Great_ok, manage_Do_ok, reticuleref23_Find_ok, reticuleref12_Same_ok, reticuleref04_Of_ok, reticuleref12_Attend_ok, trivial⟩)) mixed (by kernel_rfl) (by kernel_rfl) (by kernel_rfl) (by kernel_rfl)
theorem reticulelaw24_ManageGone_eq (x : (List (Int × (Int × (List (BitVec 8) × (Int × (List (BitVec 8) × (((Int × (BitVec 64 × (Int × (Int × (Int × Unit))))) × (Int × (Int × (List (BitVec 8) × ((Int × (Int × (Int × Unit))) × Unit))))) × ((Int × (Int × (Int × Unit))) × Unit))))))) × (List (Int × (Int × (List (BitVec 8) × Unit))) × Unit)) × (List (((List (List (BitVec 8)) × (List (Int × (List (BitVec 8) × Unit)) × Unit)) × (Bool × (Bool × (Bool × Unit)))) × (Bool × (List (Int × (Int × (Int × Unit))) × ((Int × (Int × (Int × Unit))) × Unit))))) × (Int × (Int × (Int × (Int × Unit))))) : evF reticulelaw24_ManageGone_E 64 (bd Try.f6) [.val T24, .val (.sl T50), .val T27] [.tmp 6 (.bool, .view)] reticulelaw24_ManageGone_an x = reticulelaw24_ManageGone x := by kernel_rfl
theorem reticulelaw24_ManageGone_ok : FnOk Try.prog 6 { args := [.val T24, .val (.sl T50), .val T27], res := [(.bool, .view)], f := reticulelaw24_ManageGone } :=
  fn_ok reticulelaw24_ManageGone_Eok Try.func6 rfl (by kernel_rfl) (by kernel_rfl) (by kernel_rfl) (rs := [.tmp 6 (.bool, .view)]) (c := bd Try.f6) (an := reticulelaw24_ManageGone_an) (ob_flat _ _ _ _ _ _ _ (by kernel_rfl)) reticulelaw24_ManageGone_eq
/-! reticulelaw24_ManageAsks: function 7 -/
noncomputable def reticulelaw24_ManageAsks_fns : List (Nat × Fun) := [(8, { args := [], res := [(.bool, .view)], f := reticulelaw24_alive }), (9, { args := [.val T24, .val (.sl T50)], res := [(.bool, .view)], f := reticuleref24_Great }), (21, { args := [.val (.sl T69)], res := [(.bool, .view)], f := reticuleref23_Right }), (22, { args := [.val (.sl T69), .val (.int .i64)], res := [((.int .i64), .view)], f := reticuleref23_Find }), (27, { args := [.val (.sl T50), .val (.int .i64)], res := [(.bool, .view)], f := reticuleref12_There }), (12, { args := [.val T24, .val (.sl T50), .val T27], res := [(T24, .view), ((.sl T50), .view), ((.int .i64), .view)], f := manage_Do })]
noncomputable def reticulelaw24_ManageAsks_E : Env := { ty := Re.look tyTab, eq := fun n => memB n [], fn := Re.look reticulelaw24_ManageAsks_fns, cut := fun n => memB n [], win := fun n => memB n [], one := fun n => memB n [], onc := fun n => memB n [], pre := fun n => memB n [], ptr := fun n => memB n [], psl := fun n => memB n [], parr := Re.look [], mpt := Re.look [], lnd := fun n => memB n [] }
noncomputable def reticulelaw24_ManageAsks_an : An (Ds ((([.tmp 6 (.bool, .view)] : List RV).map RV.pm).map (·.1) ++ ioTys [.val T24, .val (.sl T50), .val T27])) :=
(.seq (.rg [] none)
(.seq (.seq (.rg [] none)
(.cond (.seq (.rg [] none)
.leaf) .leaf))
(.seq (.seq (.rg [] (some (.op ⟨[48], []⟩ (.op ⟨[], []⟩ (.op ⟨[352], []⟩ (.op ⟨[], []⟩ (.split 23 [(28, .bool)] (.op ⟨[48], []⟩ (.op ⟨[48], []⟩ (.op ⟨[416], []⟩ (.op ⟨[], []⟩ (.op ⟨[], []⟩ .done))))) (.op ⟨[], []⟩ (.split 29 [(36, .bool)] (.op ⟨[48], []⟩ (.op ⟨[48], []⟩ (.op ⟨[80], []⟩ (.op ⟨[80], []⟩ (.op ⟨[544], []⟩ (.op ⟨[], []⟩ (.op ⟨[], []⟩ .done))))))) (.op ⟨[], []⟩ (.split 37 [(43, .bool)] (.op ⟨[], []⟩ (.op ⟨[80], []⟩ (.op ⟨[80], []⟩ (.op ⟨[656], []⟩ (.op ⟨[], []⟩ (.op ⟨[], []⟩ .done)))))) .done)))))))))))
(.cond (.seq (.rg [] none)
.leaf) .leaf))
(.seq (.rg [] none)
(.seq (.rg [] none)
(.seq (.rg [] none)
(.seq (.rg [] none)
(.seq (.rg [] none)
(.seq (.rg [] none)
(.seq (.rg [] none)
(.seq (.rg [] (some (.op ⟨[], []⟩ (.op ⟨[], []⟩ (.op ⟨[], []⟩ (.split 78 [(88, .bool)] (.op ⟨[48], []⟩ (.op ⟨[48], []⟩ (.op ⟨[], []⟩ (.op ⟨[], []⟩ (.op ⟨[], []⟩ (.op ⟨[], []⟩ (.op ⟨[80], []⟩ (.op ⟨[80], []⟩ (.op ⟨[], []⟩ (.op ⟨[], []⟩ .done)))))))))) (.op ⟨[], []⟩ .done)))))))
(.seq (.seq (.rg [] none)
(.cond (.seq (.rg [] (some (.op ⟨[], []⟩ (.op ⟨[], []⟩ (.op ⟨[], []⟩ (.split 93 [(96, .bool)] (.op ⟨[], []⟩ (.op ⟨[], []⟩ (.op ⟨[], []⟩ .done))) (.op ⟨[], []⟩ (.split 97 [(100, .bool)] (.op ⟨[], []⟩ (.op ⟨[], []⟩ (.op ⟨[], []⟩ .done))) (.op ⟨[], []⟩ (.split 101 [(109, .bool)] (.op ⟨[160], []⟩ (.op ⟨[160], []⟩ (.op ⟨[], []⟩ (.op ⟨[48], []⟩ (.op ⟨[48], []⟩ (.op ⟨[], []⟩ (.op ⟨[], []⟩ (.op ⟨[], []⟩ .done)))))))) (.op ⟨[], []⟩ .done)))))))))))
.leaf) .leaf))
(.seq (.rg [] (some (.op ⟨[], []⟩ (.op ⟨[], []⟩ (.op ⟨[], []⟩ (.split 112 [(115, .bool)] (.op ⟨[], []⟩ (.op ⟨[], []⟩ (.op ⟨[], []⟩ .done))) (.op ⟨[], []⟩ (.split 116 [(119, .bool)] (.op ⟨[], []⟩ (.op ⟨[], []⟩ (.op ⟨[], []⟩ .done))) (.op ⟨[], []⟩ (.split 120 [(129, .bool)] (.op ⟨[160], []⟩ (.op ⟨[160], []⟩ (.op ⟨[], []⟩ (.op ⟨[48], []⟩ (.op ⟨[48], []⟩ (.op ⟨[], []⟩ (.op ⟨[], []⟩ (.op ⟨[], []⟩ (.op ⟨[], []⟩ .done))))))))) (.op ⟨[], []⟩ .done)))))))))))
.leaf)))))))))))))
theorem reticulelaw24_ManageAsks_Eok : EnvOk Try.prog reticulelaw24_ManageAsks_E := env_ok tab_ok (by simp) (allFn_mem (show AllFn Try.prog reticulelaw24_ManageAsks_fns from ⟨reticulelaw24_alive_ok, reticuleref24_Great_ok, reticuleref23_Right_ok, reticuleref23_Find_ok, reticuleref12_There_ok, manage_Do_ok, trivial⟩)) mixed (by kernel_rfl) (by kernel_rfl) (by kernel_rfl) (by kernel_rfl)
theorem reticulelaw24_ManageAsks_eq (x : (List (Int × (Int × (List (BitVec 8) × (Int × (List (BitVec 8) × (((Int × (BitVec 64 × (Int × (Int × (Int × Unit))))) × (Int × (Int × (List (BitVec 8) × ((Int × (Int × (Int × Unit))) × Unit))))) × ((Int × (Int × (Int × Unit))) × Unit))))))) × (List (Int × (Int × (List (BitVec 8) × Unit))) × Unit)) × (List (((List (List (BitVec 8)) × (List (Int × (List (BitVec 8) × Unit)) × Unit)) × (Bool × (Bool × (Bool × Unit)))) × (Bool × (List (Int × (Int × (Int × Unit))) × ((Int × (Int × (Int × Unit))) × Unit))))) × (Int × (Int × (Int × (Int × Unit))))) : evF reticulelaw24_ManageAsks_E 130 (bd Try.f7) [.val T24, .val (.sl T50), .val T27] [.tmp 6 (.bool, .view)] reticulelaw24_ManageAsks_an x = reticulelaw24_ManageAsks x := by kernel_rfl
theorem reticulelaw24_ManageAsks_ok : FnOk Try.prog 7 { args := [.val T24, .val (.sl T50), .val T27], res := [(.bool, .view)], f := reticulelaw24_ManageAsks } :=
  fn_ok reticulelaw24_ManageAsks_Eok Try.func7 rfl (by kernel_rfl) (by kernel_rfl) (by kernel_rfl) (rs := [.tmp 6 (.bool, .view)]) (c := bd Try.f7) (an := reticulelaw24_ManageAsks_an) (ob_flat _ _ _ _ _ _ _ (by kernel_rfl)) reticulelaw24_ManageAsks_eq
end Go.Proofs.Ytgceolpeegfkkaa
