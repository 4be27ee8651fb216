/- Each function does what its plain one tells. Printed by the session's own program. -/
import Derived.Test.YtnhcdenlbabelaaXT
import Derived.Test.YtnhcdenlbabelaaXF
namespace Go.Proofs.Ytnhcdenlbabelaa
open Go Go.Re
set_option linter.unusedVariables false
set_option linter.unusedSimpArgs false
set_option maxRecDepth 100000
set_option maxHeartbeats 1000000
/-! setup_Right: function 41 -/
noncomputable def setup_Right_fns : List (Nat × Fun) := []
noncomputable def setup_Right_E : Env := { ty := Re.look tyTab, eq := fun n => memB n [], fn := Re.look setup_Right_fns, cut := fun n => memB n [], win := fun n => memB n [], one := fun n => memB n [], onc := fun n => memB n [], pre := fun n => memB n [], ptr := fun n => memB n [], psl := fun n => memB n [], parr := Re.look [] }
noncomputable def setup_Right_an : An (Ds ((([.tmp 2 (.bool, .view)] : List RV).map RV.pm).map (·.1) ++ ioTys [.val T22])) :=
(.seq (.rg [] none)
(.seq (.rg [] (some (.op ⟨[16], []⟩ (.op ⟨[16], []⟩ (.op ⟨[16], []⟩ (.op ⟨[16], []⟩ (.op ⟨[], []⟩ (.op ⟨[], []⟩ (.op ⟨[], []⟩ (.op ⟨[], []⟩ (.split 10 [(18, .bool)] (.op ⟨[16], []⟩ (.op ⟨[16], []⟩ (.op ⟨[16], []⟩ (.op ⟨[16], []⟩ (.op ⟨[], []⟩ (.op ⟨[], []⟩ (.op ⟨[], []⟩ (.op ⟨[], []⟩ .done)))))))) (.op ⟨[], []⟩ (.split 19 [(27, .bool)] (.op ⟨[16], []⟩ (.op ⟨[16], []⟩ (.op ⟨[16], []⟩ (.op ⟨[16], []⟩ (.op ⟨[], []⟩ (.op ⟨[], []⟩ (.op ⟨[], []⟩ (.op ⟨[], []⟩ .done)))))))) (.op ⟨[], []⟩ (.split 28 [(36, .bool)] (.op ⟨[16], []⟩ (.op ⟨[16], []⟩ (.op ⟨[16], []⟩ (.op ⟨[16], []⟩ (.op ⟨[], []⟩ (.op ⟨[], []⟩ (.op ⟨[], []⟩ (.op ⟨[], []⟩ .done)))))))) (.op ⟨[], []⟩ (.split 37 [(45, .bool)] (.op ⟨[16], []⟩ (.op ⟨[16], []⟩ (.op ⟨[16], []⟩ (.op ⟨[16], []⟩ (.op ⟨[], []⟩ (.op ⟨[], []⟩ (.op ⟨[], []⟩ (.op ⟨[], []⟩ .done)))))))) (.op ⟨[], []⟩ .done))))))))))))))))))
.leaf))
theorem setup_Right_Eok : EnvOk Try.prog setup_Right_E := env_ok tab_ok (by simp) (allFn_mem (show AllFn Try.prog setup_Right_fns from trivial)) mixed (by kernel_rfl) (by kernel_rfl) (by kernel_rfl)
theorem setup_Right_eq (x : (Int × (Int × (Int × (Int × (Int × Unit)))))) : evF setup_Right_E 46 (bd Try.f41) [.val T22] [.tmp 2 (.bool, .view)] setup_Right_an x = setup_Right x := by kernel_rfl
theorem setup_Right_ok : FnOk Try.prog 41 { args := [.val T22], res := [(.bool, .view)], f := setup_Right } :=
  fn_ok setup_Right_Eok Try.func41 rfl (by kernel_rfl) (by kernel_rfl) (by kernel_rfl) (rs := [.tmp 2 (.bool, .view)]) (c := bd Try.f41) (an := setup_Right_an) (ob_flat _ _ _ _ _ _ _ (by kernel_rfl)) setup_Right_eq
/-! number_PutLittle: function 43 -/
noncomputable def number_PutLittle_fns : List (Nat × Fun) := []
noncomputable def number_PutLittle_E : Env := { ty := Re.look tyTab, eq := fun n => memB n [], fn := Re.look number_PutLittle_fns, cut := fun n => memB n [], win := fun n => memB n [], one := fun n => memB n [], onc := fun n => memB n [], pre := fun n => memB n [], ptr := fun n => memB n [], psl := fun n => memB n [], parr := Re.look [] }
noncomputable def number_PutLittle_an : An (Ds ((([.tmp 4 ((.sl (.int .u8)), .full)] : List RV).map RV.pm).map (·.1) ++ ioTys [.val (.int .u64), .val (.int .i64)])) :=
(.seq (.rg [] none)
(.seq (.seq (.rg [] (some (.op ⟨[], []⟩ (.op ⟨[], []⟩ (.op ⟨[], []⟩ (.split 7 [(10, .bool)] (.op ⟨[], []⟩ (.op ⟨[], []⟩ (.op ⟨[], []⟩ .done))) .done))))))
(.cond (.seq (.rg [] none)
.leaf) .leaf))
(.seq (.seq (.rg [] none)
(.loop [.val 0 (.int .u64), .row 4 (.int .u8) .full, .val 11 (.int .i64), .val 12 (.int .i64)] [.row 4 (.int .u8) .full] number_PutLittle_L0
(.seq (.rg [] none)
(.seq (.cond .leaf .leaf)
(.seq (.block (.seq (.rg [] none)
(.rg [] none)))
(.rg [] none))))))
(.seq (.rg [] none)
.leaf))))
theorem number_PutLittle_Eok : EnvOk Try.prog number_PutLittle_E := env_ok tab_ok (by simp) (allFn_mem (show AllFn Try.prog number_PutLittle_fns from trivial)) mixed (by kernel_rfl) (by kernel_rfl) (by kernel_rfl)
theorem number_PutLittle_eq (x : (BitVec 64) × Int) : evF number_PutLittle_E 23 (bd Try.f43) [.val (.int .u64), .val (.int .i64)] [.tmp 4 ((.sl (.int .u8)), .full)] number_PutLittle_an x = number_PutLittle x := by kernel_rfl
theorem number_PutLittle_ok : FnOk Try.prog 43 { args := [.val (.int .u64), .val (.int .i64)], res := [((.sl (.int .u8)), .full)], f := number_PutLittle } :=
  fn_ok number_PutLittle_Eok Try.func43 rfl (by kernel_rfl) (by kernel_rfl) (by kernel_rfl) (rs := [.tmp 4 ((.sl (.int .u8)), .full)]) (c := bd Try.f43) (an := number_PutLittle_an) (show obF number_PutLittle_E 23 (bd Try.f43) [.val (.int .u64), .val (.int .i64)] [.tmp 4 ((.sl (.int .u8)), .full)] number_PutLittle_an from (And.intro trivial (And.intro (And.intro trivial (And.intro (And.intro trivial trivial) trivial)) (And.intro (And.intro trivial (And.intro (fun _ => rfl) (And.intro (fun n j => by kernel_rfl) (fun n => (And.intro trivial (And.intro (And.intro trivial trivial) (And.intro (And.intro trivial trivial) trivial))))))) (And.intro trivial trivial))))) number_PutLittle_eq
/-! slices_Grow_byte: function 56 -/
noncomputable def slices_Grow_byte_fns : List (Nat × Fun) := []
noncomputable def slices_Grow_byte_E : Env := { ty := Re.look tyTab, eq := fun n => memB n [], fn := Re.look slices_Grow_byte_fns, cut := fun n => memB n [25], win := fun n => memB n [], one := fun n => memB n [], onc := fun n => memB n [], pre := fun n => memB n [], ptr := fun n => memB n [], psl := fun n => memB n [], parr := Re.look [] }
noncomputable def slices_Grow_byte_an : An (Ds ((([.tmp 4 ((.sl (.int .u8)), .full)] : List RV).map RV.pm).map (·.1) ++ ioTys [.nils (.int .u8), .val (.int .i64)])) :=
(.seq (.rg [] none)
(.seq (.seq (.rg [] none)
(.cond .leaf .leaf))
(.join [.row 0 (.int .u8) .full]
(.seq (.rg [] none)
(.seq (.rg [] none)
(.cond (.rg [] none) .leaf)))
(.seq (.rg [] none)
.leaf))))
theorem slices_Grow_byte_Eok : EnvOk Try.prog slices_Grow_byte_E := env_ok tab_ok (by simp) (allFn_mem (show AllFn Try.prog slices_Grow_byte_fns from trivial)) mixed (by kernel_rfl) (by kernel_rfl) (by kernel_rfl)
theorem slices_Grow_byte_eq (x : Unit × Int) : evF slices_Grow_byte_E 27 (bd Try.f56) [.nils (.int .u8), .val (.int .i64)] [.tmp 4 ((.sl (.int .u8)), .full)] slices_Grow_byte_an x = slices_Grow_byte x := by kernel_rfl
theorem slices_Grow_byte_ok : FnOk Try.prog 56 { args := [.nils (.int .u8), .val (.int .i64)], res := [((.sl (.int .u8)), .full)], f := slices_Grow_byte } :=
  fn_ok slices_Grow_byte_Eok Try.func56 rfl (by kernel_rfl) (by kernel_rfl) (by kernel_rfl) (rs := [.tmp 4 ((.sl (.int .u8)), .full)]) (c := bd Try.f56) (an := slices_Grow_byte_an) (ob_flat _ _ _ _ _ _ _ (by kernel_rfl)) slices_Grow_byte_eq
/-! slices_Concat_byte: function 42 -/
noncomputable def slices_Concat_byte_fns : List (Nat × Fun) := [(56, { args := [.nils (.int .u8), .val (.int .i64)], res := [((.sl (.int .u8)), .full)], f := slices_Grow_byte })]
noncomputable def slices_Concat_byte_E : Env := { ty := Re.look tyTab, eq := fun n => memB n [], fn := Re.look slices_Concat_byte_fns, cut := fun n => memB n [], win := fun n => memB n [], one := fun n => memB n [], onc := fun n => memB n [], pre := fun n => memB n [], ptr := fun n => memB n [], psl := fun n => memB n [], parr := Re.look [] }
noncomputable def slices_Concat_byte_an : An (Ds ((([.tmp 2 ((.sl (.int .u8)), .full)] : List RV).map RV.pm).map (·.1) ++ ioTys [.val (.sl (.sl (.int .u8)))])) :=
(.seq (.rg [] none)
(.seq (.rg [] none)
(.seq (.seq (.rg [] none)
(.loop [.val 0 (.sl (.sl (.int .u8))), .val 3 (.int .i64), .val 9 (.sl (.sl (.int .u8))), .val 10 (.int .i64), .val 11 (.int .i64)] [.val 0 (.sl (.sl (.int .u8))), .val 3 (.int .i64)] slices_Concat_byte_L0
(.seq (.rg [] none)
(.seq (.cond .leaf .leaf)
(.seq (.block (.seq (.rg [] none)
(.seq (.rg [] none)
(.seq (.rg [] none)
(.cond .leaf .leaf)))))
(.rg [] none))))))
(.seq (.rg [] none)
(.seq (.seq (.rg [] none)
(.loop [.row 6 (.int .u8) .full, .val 25 (.sl (.sl (.int .u8))), .val 26 (.int .i64), .val 27 (.int .i64)] [.row 6 (.int .u8) .full] slices_Concat_byte_L1
(.seq (.rg [] none)
(.seq (.cond .leaf .leaf)
(.seq (.block (.seq (.rg [] none)
(.rg [] none)))
(.rg [] none))))))
(.seq (.rg [] none)
.leaf))))))
theorem slices_Concat_byte_Eok : EnvOk Try.prog slices_Concat_byte_E := env_ok tab_ok (by simp) (allFn_mem (show AllFn Try.prog slices_Concat_byte_fns from ⟨slices_Grow_byte_ok, trivial⟩)) mixed (by kernel_rfl) (by kernel_rfl) (by kernel_rfl)
theorem slices_Concat_byte_eq (x : (List (List (BitVec 8)))) : evF slices_Concat_byte_E 36 (bd Try.f42) [.val (.sl (.sl (.int .u8)))] [.tmp 2 ((.sl (.int .u8)), .full)] slices_Concat_byte_an x = slices_Concat_byte x := by kernel_rfl
theorem slices_Concat_byte_ok : FnOk Try.prog 42 { args := [.val (.sl (.sl (.int .u8)))], res := [((.sl (.int .u8)), .full)], f := slices_Concat_byte } :=
  fn_ok slices_Concat_byte_Eok Try.func42 rfl (by kernel_rfl) (by kernel_rfl) (by kernel_rfl) (rs := [.tmp 2 ((.sl (.int .u8)), .full)]) (c := bd Try.f42) (an := slices_Concat_byte_an) (show obF slices_Concat_byte_E 36 (bd Try.f42) [.val (.sl (.sl (.int .u8)))] [.tmp 2 ((.sl (.int .u8)), .full)] slices_Concat_byte_an from (And.intro trivial (And.intro trivial (And.intro (And.intro trivial (And.intro (fun _ => rfl) (And.intro (fun n j => by kernel_rfl) (fun n => (And.intro trivial (And.intro (And.intro trivial trivial) (And.intro (And.intro trivial (And.intro trivial (And.intro trivial (And.intro trivial trivial)))) trivial))))))) (And.intro trivial (And.intro (And.intro trivial (And.intro (fun _ => rfl) (And.intro (fun n j => by kernel_rfl) (fun n => (And.intro trivial (And.intro (And.intro trivial trivial) (And.intro (And.intro trivial trivial) trivial))))))) (And.intro trivial trivial))))))) slices_Concat_byte_eq
/-! setup_Bytes: function 26 -/
noncomputable def setup_Bytes_fns : List (Nat × Fun) := [(41, { args := [.val T22], res := [(.bool, .view)], f := setup_Right }), (43, { args := [.val (.int .u64), .val (.int .i64)], res := [((.sl (.int .u8)), .full)], f := number_PutLittle }), (42, { args := [.val (.sl (.sl (.int .u8)))], res := [((.sl (.int .u8)), .full)], f := slices_Concat_byte })]
noncomputable def setup_Bytes_E : Env := { ty := Re.look tyTab, eq := fun n => memB n [], fn := Re.look setup_Bytes_fns, cut := fun n => memB n [], win := fun n => memB n [], one := fun n => memB n [], onc := fun n => memB n [], pre := fun n => memB n [], ptr := fun n => memB n [], psl := fun n => memB n [], parr := Re.look [] }
noncomputable def setup_Bytes_an : An (Ds ((([.tmp 2 ((.sl (.int .u8)), .full), .tmp 3 (.bool, .view)] : List RV).map RV.pm).map (·.1) ++ ioTys [.val T22])) :=
(.seq (.rg [] none)
(.seq (.seq (.rg [] none)
(.cond (.seq (.rg [] none)
.leaf) .leaf))
(.seq (.rg [] none)
(.seq (.seq (.rg [] none)
(.loop [.row 4 (.int .u8) .full, .val 23 (.arr 3 (.int .i64)), .val 24 (.int .i64)] [.row 4 (.int .u8) .full] setup_Bytes_L0
(.seq (.rg [] none)
(.seq (.cond .leaf .leaf)
(.seq (.block (.seq (.rg [] none)
(.rg [] none)))
(.rg [] none))))))
(.seq (.rg [] none)
.leaf)))))
theorem setup_Bytes_Eok : EnvOk Try.prog setup_Bytes_E := env_ok tab_ok (by simp) (allFn_mem (show AllFn Try.prog setup_Bytes_fns from ⟨setup_Right_ok, number_PutLittle_ok, slices_Concat_byte_ok, trivial⟩)) mixed (by kernel_rfl) (by kernel_rfl) (by kernel_rfl)
theorem setup_Bytes_eq (x : (Int × (Int × (Int × (Int × (Int × Unit)))))) : evF setup_Bytes_E 35 (bd Try.f26) [.val T22] [.tmp 2 ((.sl (.int .u8)), .full), .tmp 3 (.bool, .view)] setup_Bytes_an x = setup_Bytes x := by kernel_rfl
theorem setup_Bytes_ok : FnOk Try.prog 26 { args := [.val T22], res := [((.sl (.int .u8)), .full), (.bool, .view)], f := setup_Bytes } :=
  fn_ok setup_Bytes_Eok Try.func26 rfl (by kernel_rfl) (by kernel_rfl) (by kernel_rfl) (rs := [.tmp 2 ((.sl (.int .u8)), .full), .tmp 3 (.bool, .view)]) (c := bd Try.f26) (an := setup_Bytes_an) (show obF setup_Bytes_E 35 (bd Try.f26) [.val T22] [.tmp 2 ((.sl (.int .u8)), .full), .tmp 3 (.bool, .view)] setup_Bytes_an from (And.intro trivial (And.intro (And.intro trivial (And.intro (And.intro trivial trivial) trivial)) (And.intro trivial (And.intro (And.intro trivial (And.intro (fun _ => rfl) (And.intro (fun n j => by kernel_rfl) (fun n => (And.intro trivial (And.intro (And.intro trivial trivial) (And.intro (And.intro trivial trivial) trivial))))))) (And.intro trivial trivial)))))) setup_Bytes_eq
/-! number_mask: function 63 -/
noncomputable def number_mask_fns : List (Nat × Fun) := []
noncomputable def number_mask_E : Env := { ty := Re.look tyTab, eq := fun n => memB n [], fn := Re.look number_mask_fns, cut := fun n => memB n [], win := fun n => memB n [], one := fun n => memB n [], onc := fun n => memB n [], pre := fun n => memB n [], ptr := fun n => memB n [], psl := fun n => memB n [], parr := Re.look [] }
noncomputable def number_mask_an : An (Ds ((([.tmp 4 ((.int .u64), .view)] : List RV).map RV.pm).map (·.1) ++ ioTys [.val (.int .i64), .val (.int .i64)])) :=
(.seq (.rg [] none)
(.seq (.seq (.rg [] (some (.op ⟨[], []⟩ (.op ⟨[], []⟩ (.op ⟨[], []⟩ (.split 7 [(10, .bool)] (.op ⟨[], []⟩ (.op ⟨[], []⟩ (.op ⟨[], []⟩ .done))) (.op ⟨[], []⟩ (.split 11 [(14, .bool)] (.op ⟨[], []⟩ (.op ⟨[], []⟩ (.op ⟨[], []⟩ .done))) (.op ⟨[], []⟩ (.split 15 [(20, .bool)] (.op ⟨[], []⟩ (.op ⟨[], []⟩ (.op ⟨[], []⟩ (.op ⟨[], []⟩ (.op ⟨[], []⟩ .done))))) .done))))))))))
(.cond (.seq (.rg [] none)
.leaf) .leaf))
(.seq (.rg [] none)
.leaf)))
theorem number_mask_Eok : EnvOk Try.prog number_mask_E := env_ok tab_ok (by simp) (allFn_mem (show AllFn Try.prog number_mask_fns from trivial)) mixed (by kernel_rfl) (by kernel_rfl) (by kernel_rfl)
theorem number_mask_eq (x : Int × Int) : evF number_mask_E 26 (bd Try.f63) [.val (.int .i64), .val (.int .i64)] [.tmp 4 ((.int .u64), .view)] number_mask_an x = number_mask x := by kernel_rfl
theorem number_mask_ok : FnOk Try.prog 63 { args := [.val (.int .i64), .val (.int .i64)], res := [((.int .u64), .view)], f := number_mask } :=
  fn_ok number_mask_Eok Try.func63 rfl (by kernel_rfl) (by kernel_rfl) (by kernel_rfl) (rs := [.tmp 4 ((.int .u64), .view)]) (c := bd Try.f63) (an := number_mask_an) (ob_flat _ _ _ _ _ _ _ (by kernel_rfl)) number_mask_eq
/-! number_Bits: function 57 -/
noncomputable def number_Bits_fns : List (Nat × Fun) := [(63, { args := [.val (.int .i64), .val (.int .i64)], res := [((.int .u64), .view)], f := number_mask })]
noncomputable def number_Bits_E : Env := { ty := Re.look tyTab, eq := fun n => memB n [], fn := Re.look number_Bits_fns, cut := fun n => memB n [], win := fun n => memB n [], one := fun n => memB n [], onc := fun n => memB n [], pre := fun n => memB n [], ptr := fun n => memB n [], psl := fun n => memB n [], parr := Re.look [] }
noncomputable def number_Bits_an : An (Ds ((([.tmp 6 ((.int .u64), .view)] : List RV).map RV.pm).map (·.1) ++ ioTys [.val (.int .u64), .val (.int .i64), .val (.int .i64)])) :=
(.seq (.rg [] none)
(.seq (.rg [] none)
(.seq (.seq (.rg [] none)
(.cond (.seq (.rg [] none)
.leaf) .leaf))
(.seq (.rg [] none)
.leaf))))
theorem number_Bits_Eok : EnvOk Try.prog number_Bits_E := env_ok tab_ok (by simp) (allFn_mem (show AllFn Try.prog number_Bits_fns from ⟨number_mask_ok, trivial⟩)) mixed (by kernel_rfl) (by kernel_rfl) (by kernel_rfl)
theorem number_Bits_eq (x : (BitVec 64) × Int × Int) : evF number_Bits_E 18 (bd Try.f57) [.val (.int .u64), .val (.int .i64), .val (.int .i64)] [.tmp 6 ((.int .u64), .view)] number_Bits_an x = number_Bits x := by kernel_rfl
theorem number_Bits_ok : FnOk Try.prog 57 { args := [.val (.int .u64), .val (.int .i64), .val (.int .i64)], res := [((.int .u64), .view)], f := number_Bits } :=
  fn_ok number_Bits_Eok Try.func57 rfl (by kernel_rfl) (by kernel_rfl) (by kernel_rfl) (rs := [.tmp 6 ((.int .u64), .view)]) (c := bd Try.f57) (an := number_Bits_an) (ob_flat _ _ _ _ _ _ _ (by kernel_rfl)) number_Bits_eq
/-! setup_kind: function 44 -/
noncomputable def setup_kind_fns : List (Nat × Fun) := [(41, { args := [.val T22], res := [(.bool, .view)], f := setup_Right }), (57, { args := [.val (.int .u64), .val (.int .i64), .val (.int .i64)], res := [((.int .u64), .view)], f := number_Bits })]
noncomputable def setup_kind_E : Env := { ty := Re.look tyTab, eq := fun n => memB n [], fn := Re.look setup_kind_fns, cut := fun n => memB n [], win := fun n => memB n [], one := fun n => memB n [], onc := fun n => memB n [], pre := fun n => memB n [], ptr := fun n => memB n [], psl := fun n => memB n [], parr := Re.look [] }
noncomputable def setup_kind_an : An (Ds ((([.tmp 6 ((.int .i64), .view)] : List RV).map RV.pm).map (·.1) ++ ioTys [.val T22, .val (.int .i64), .val (.int .i64)])) :=
(.seq (.rg [] none)
(.seq (.seq (.rg [] none)
(.cond (.seq (.rg [] none)
.leaf) .leaf))
(.seq (.rg [] none)
.leaf)))
theorem setup_kind_Eok : EnvOk Try.prog setup_kind_E := env_ok tab_ok (by simp) (allFn_mem (show AllFn Try.prog setup_kind_fns from ⟨setup_Right_ok, number_Bits_ok, trivial⟩)) mixed (by kernel_rfl) (by kernel_rfl) (by kernel_rfl)
theorem setup_kind_eq (x : (Int × (Int × (Int × (Int × (Int × Unit))))) × Int × Int) : evF setup_kind_E 17 (bd Try.f44) [.val T22, .val (.int .i64), .val (.int .i64)] [.tmp 6 ((.int .i64), .view)] setup_kind_an x = setup_kind x := by kernel_rfl
theorem setup_kind_ok : FnOk Try.prog 44 { args := [.val T22, .val (.int .i64), .val (.int .i64)], res := [((.int .i64), .view)], f := setup_kind } :=
  fn_ok setup_kind_Eok Try.func44 rfl (by kernel_rfl) (by kernel_rfl) (by kernel_rfl) (rs := [.tmp 6 ((.int .i64), .view)]) (c := bd Try.f44) (an := setup_kind_an) (ob_flat _ _ _ _ _ _ _ (by kernel_rfl)) setup_kind_eq
/-! setup_Dir: function 27 -/
noncomputable def setup_Dir_fns : List (Nat × Fun) := [(41, { args := [.val T22], res := [(.bool, .view)], f := setup_Right }), (44, { args := [.val T22, .val (.int .i64), .val (.int .i64)], res := [((.int .i64), .view)], f := setup_kind })]
noncomputable def setup_Dir_E : Env := { ty := Re.look tyTab, eq := fun n => memB n [], fn := Re.look setup_Dir_fns, cut := fun n => memB n [], win := fun n => memB n [], one := fun n => memB n [], onc := fun n => memB n [], pre := fun n => memB n [], ptr := fun n => memB n [], psl := fun n => memB n [], parr := Re.look [] }
noncomputable def setup_Dir_an : An (Ds ((([.tmp 2 ((.int .i64), .view)] : List RV).map RV.pm).map (·.1) ++ ioTys [.val T22])) :=
(.seq (.rg [] none)
(.seq (.block (.seq (.rg [] (some (.op ⟨[16], []⟩ (.op ⟨[16], []⟩ (.op ⟨[], []⟩ (.op ⟨[], []⟩ (.split 7 [(11, .bool)] (.op ⟨[16], []⟩ (.op ⟨[144], []⟩ (.op ⟨[], []⟩ (.op ⟨[], []⟩ .done)))) (.op ⟨[], []⟩ .done))))))))
(.cond (.seq (.rg [] none)
.leaf) (.seq (.rg [] none)
(.cond (.seq (.rg [] none)
.leaf) .leaf)))))
(.seq (.rg [] none)
.leaf)))
theorem setup_Dir_Eok : EnvOk Try.prog setup_Dir_E := env_ok tab_ok (by simp) (allFn_mem (show AllFn Try.prog setup_Dir_fns from ⟨setup_Right_ok, setup_kind_ok, trivial⟩)) mixed (by kernel_rfl) (by kernel_rfl) (by kernel_rfl)
theorem setup_Dir_eq (x : (Int × (Int × (Int × (Int × (Int × Unit)))))) : evF setup_Dir_E 16 (bd Try.f27) [.val T22] [.tmp 2 ((.int .i64), .view)] setup_Dir_an x = setup_Dir x := by kernel_rfl
theorem setup_Dir_ok : FnOk Try.prog 27 { args := [.val T22], res := [((.int .i64), .view)], f := setup_Dir } :=
  fn_ok setup_Dir_Eok Try.func27 rfl (by kernel_rfl) (by kernel_rfl) (by kernel_rfl) (rs := [.tmp 2 ((.int .i64), .view)]) (c := bd Try.f27) (an := setup_Dir_an) (ob_flat _ _ _ _ _ _ _ (by kernel_rfl)) setup_Dir_eq
/-! host_Ask: function 23 -/
noncomputable def host_Ask_fns : List (Nat × Fun) := []
noncomputable def host_Ask_E : Env := { ty := Re.look tyTab, eq := fun n => memB n [], fn := Re.look host_Ask_fns, cut := fun n => memB n [], win := fun n => memB n [], one := fun n => memB n [], onc := fun n => memB n [], pre := fun n => memB n [], ptr := fun n => memB n [], psl := fun n => memB n [], parr := Re.look [] }
noncomputable def host_Ask_an : An (Ds ((([.cell 6 T41] : List RV).map RV.pm).map (·.1) ++ ioTys [.val (.int .i64), .val (.int .i64), .val (.int .i64)])) :=
(.seq (.rg [] none)
(.seq (.rg [] none)
.leaf))
theorem host_Ask_Eok : EnvOk Try.prog host_Ask_E := env_ok tab_ok (by simp) (allFn_mem (show AllFn Try.prog host_Ask_fns from trivial)) mixed (by kernel_rfl) (by kernel_rfl) (by kernel_rfl)
theorem host_Ask_eq (x : Int × Int × Int) : evF host_Ask_E 11 (bd Try.f23) [.val (.int .i64), .val (.int .i64), .val (.int .i64)] [.cell 6 T41] host_Ask_an x = host_Ask x := by kernel_rfl
theorem host_Ask_ok : FnOk Try.prog 23 { args := [.val (.int .i64), .val (.int .i64), .val (.int .i64)], res := [(T41, .view)], f := host_Ask } :=
  fn_ok host_Ask_Eok Try.func23 rfl (by kernel_rfl) (by kernel_rfl) (by kernel_rfl) (rs := [.cell 6 T41]) (c := bd Try.f23) (an := host_Ask_an) (ob_flat _ _ _ _ _ _ _ (by kernel_rfl)) host_Ask_eq
/-! host_packets: function 29 -/
noncomputable def host_packets_fns : List (Nat × Fun) := []
noncomputable def host_packets_E : Env := { ty := Re.look tyTab, eq := fun n => memB n [], fn := Re.look host_packets_fns, cut := fun n => memB n [], win := fun n => memB n [], one := fun n => memB n [], onc := fun n => memB n [], pre := fun n => memB n [], ptr := fun n => memB n [], psl := fun n => memB n [], parr := Re.look [] }
noncomputable def host_packets_an : An (Ds ((([.tmp 2 ((.int .i64), .view)] : List RV).map RV.pm).map (·.1) ++ ioTys [.val (.int .i64)])) :=
(.seq (.rg [] none)
(.seq (.rg [] none)
.leaf))
theorem host_packets_Eok : EnvOk Try.prog host_packets_E := env_ok tab_ok (by simp) (allFn_mem (show AllFn Try.prog host_packets_fns from trivial)) mixed (by kernel_rfl) (by kernel_rfl) (by kernel_rfl)
theorem host_packets_eq (x : Int) : evF host_packets_E 7 (bd Try.f29) [.val (.int .i64)] [.tmp 2 ((.int .i64), .view)] host_packets_an x = host_packets x := by kernel_rfl
theorem host_packets_ok : FnOk Try.prog 29 { args := [.val (.int .i64)], res := [((.int .i64), .view)], f := host_packets } :=
  fn_ok host_packets_Eok Try.func29 rfl (by kernel_rfl) (by kernel_rfl) (by kernel_rfl) (rs := [.tmp 2 ((.int .i64), .view)]) (c := bd Try.f29) (an := host_packets_an) (ob_flat _ _ _ _ _ _ _ (by kernel_rfl)) host_packets_eq
/-! math_bits_Mul32: function 58 -/
noncomputable def math_bits_Mul32_fns : List (Nat × Fun) := []
noncomputable def math_bits_Mul32_E : Env := { ty := Re.look tyTab, eq := fun n => memB n [], fn := Re.look math_bits_Mul32_fns, cut := fun n => memB n [], win := fun n => memB n [], one := fun n => memB n [], onc := fun n => memB n [], pre := fun n => memB n [], ptr := fun n => memB n [], psl := fun n => memB n [], parr := Re.look [] }
noncomputable def math_bits_Mul32_an : An (Ds ((([.tmp 4 ((.int .u32), .view), .tmp 5 ((.int .u32), .view)] : List RV).map RV.pm).map (·.1) ++ ioTys [.val (.int .u32), .val (.int .u32)])) :=
(.seq (.rg [] none)
(.seq (.rg [] none)
(.seq (.rg [] none)
.leaf)))
theorem math_bits_Mul32_Eok : EnvOk Try.prog math_bits_Mul32_E := env_ok tab_ok (by simp) (allFn_mem (show AllFn Try.prog math_bits_Mul32_fns from trivial)) mixed (by kernel_rfl) (by kernel_rfl) (by kernel_rfl)
theorem math_bits_Mul32_eq (x : (BitVec 32) × (BitVec 32)) : evF math_bits_Mul32_E 17 (bd Try.f58) [.val (.int .u32), .val (.int .u32)] [.tmp 4 ((.int .u32), .view), .tmp 5 ((.int .u32), .view)] math_bits_Mul32_an x = math_bits_Mul32 x := by kernel_rfl
theorem math_bits_Mul32_ok : FnOk Try.prog 58 { args := [.val (.int .u32), .val (.int .u32)], res := [((.int .u32), .view), ((.int .u32), .view)], f := math_bits_Mul32 } :=
  fn_ok math_bits_Mul32_Eok Try.func58 rfl (by kernel_rfl) (by kernel_rfl) (by kernel_rfl) (rs := [.tmp 4 ((.int .u32), .view), .tmp 5 ((.int .u32), .view)]) (c := bd Try.f58) (an := math_bits_Mul32_an) (ob_flat _ _ _ _ _ _ _ (by kernel_rfl)) math_bits_Mul32_eq
/-! math_bits_Mul64: function 59 -/
noncomputable def math_bits_Mul64_fns : List (Nat × Fun) := []
noncomputable def math_bits_Mul64_E : Env := { ty := Re.look tyTab, eq := fun n => memB n [], fn := Re.look math_bits_Mul64_fns, cut := fun n => memB n [], win := fun n => memB n [], one := fun n => memB n [], onc := fun n => memB n [], pre := fun n => memB n [], ptr := fun n => memB n [], psl := fun n => memB n [], parr := Re.look [] }
noncomputable def math_bits_Mul64_an : An (Ds ((([.tmp 4 ((.int .u64), .view), .tmp 5 ((.int .u64), .view)] : List RV).map RV.pm).map (·.1) ++ ioTys [.val (.int .u64), .val (.int .u64)])) :=
(.seq (.rg [] none)
(.seq (.rg [] none)
(.seq (.rg [] none)
(.seq (.rg [] none)
(.seq (.rg [] none)
(.seq (.rg [] none)
(.seq (.rg [] none)
(.seq (.rg [] none)
(.seq (.rg [] none)
(.seq (.rg [] none)
(.seq (.rg [] none)
(.seq (.rg [] none)
.leaf))))))))))))
theorem math_bits_Mul64_Eok : EnvOk Try.prog math_bits_Mul64_E := env_ok tab_ok (by simp) (allFn_mem (show AllFn Try.prog math_bits_Mul64_fns from trivial)) mixed (by kernel_rfl) (by kernel_rfl) (by kernel_rfl)
theorem math_bits_Mul64_eq (x : (BitVec 64) × (BitVec 64)) : evF math_bits_Mul64_E 51 (bd Try.f59) [.val (.int .u64), .val (.int .u64)] [.tmp 4 ((.int .u64), .view), .tmp 5 ((.int .u64), .view)] math_bits_Mul64_an x = math_bits_Mul64 x := by kernel_rfl
theorem math_bits_Mul64_ok : FnOk Try.prog 59 { args := [.val (.int .u64), .val (.int .u64)], res := [((.int .u64), .view), ((.int .u64), .view)], f := math_bits_Mul64 } :=
  fn_ok math_bits_Mul64_Eok Try.func59 rfl (by kernel_rfl) (by kernel_rfl) (by kernel_rfl) (rs := [.tmp 4 ((.int .u64), .view), .tmp 5 ((.int .u64), .view)]) (c := bd Try.f59) (an := math_bits_Mul64_an) (ob_flat _ _ _ _ _ _ _ (by kernel_rfl)) math_bits_Mul64_eq
/-! math_bits_Mul: function 45 -/
noncomputable def math_bits_Mul_fns : List (Nat × Fun) := [(58, { args := [.val (.int .u32), .val (.int .u32)], res := [((.int .u32), .view), ((.int .u32), .view)], f := math_bits_Mul32 }), (59, { args := [.val (.int .u64), .val (.int .u64)], res := [((.int .u64), .view), ((.int .u64), .view)], f := math_bits_Mul64 })]
noncomputable def math_bits_Mul_E : Env := { ty := Re.look tyTab, eq := fun n => memB n [], fn := Re.look math_bits_Mul_fns, cut := fun n => memB n [], win := fun n => memB n [], one := fun n => memB n [], onc := fun n => memB n [], pre := fun n => memB n [], ptr := fun n => memB n [], psl := fun n => memB n [], parr := Re.look [] }
noncomputable def math_bits_Mul_an : An (Ds ((([.tmp 4 ((.int .u64), .view), .tmp 5 ((.int .u64), .view)] : List RV).map RV.pm).map (·.1) ++ ioTys [.val (.int .u64), .val (.int .u64)])) :=
(.seq (.rg [] none)
(.seq (.cond (.seq .leaf
(.seq .leaf
.leaf)) .leaf)
(.seq (.rg [] none)
(.seq (.rg [] none)
.leaf))))
theorem math_bits_Mul_Eok : EnvOk Try.prog math_bits_Mul_E := env_ok tab_ok (by simp) (allFn_mem (show AllFn Try.prog math_bits_Mul_fns from ⟨math_bits_Mul32_ok, math_bits_Mul64_ok, trivial⟩)) mixed (by kernel_rfl) (by kernel_rfl) (by kernel_rfl)
theorem math_bits_Mul_eq (x : (BitVec 64) × (BitVec 64)) : evF math_bits_Mul_E 30 (bd Try.f45) [.val (.int .u64), .val (.int .u64)] [.tmp 4 ((.int .u64), .view), .tmp 5 ((.int .u64), .view)] math_bits_Mul_an x = math_bits_Mul x := by kernel_rfl
theorem math_bits_Mul_ok : FnOk Try.prog 45 { args := [.val (.int .u64), .val (.int .u64)], res := [((.int .u64), .view), ((.int .u64), .view)], f := math_bits_Mul } :=
  fn_ok math_bits_Mul_Eok Try.func45 rfl (by kernel_rfl) (by kernel_rfl) (by kernel_rfl) (rs := [.tmp 4 ((.int .u64), .view), .tmp 5 ((.int .u64), .view)]) (c := bd Try.f45) (an := math_bits_Mul_an) (ob_flat _ _ _ _ _ _ _ (by kernel_rfl)) math_bits_Mul_eq
/-! slices_Repeat_api_Event: function 28 -/
noncomputable def slices_Repeat_api_Event_fns : List (Nat × Fun) := [(45, { args := [.val (.int .u64), .val (.int .u64)], res := [((.int .u64), .view), ((.int .u64), .view)], f := math_bits_Mul })]
noncomputable def slices_Repeat_api_Event_E : Env := { ty := Re.look tyTab, eq := fun n => memB n [], fn := Re.look slices_Repeat_api_Event_fns, cut := fun n => memB n [], win := fun n => memB n [41], one := fun n => memB n [], onc := fun n => memB n [], pre := fun n => memB n [44], ptr := fun n => memB n [], psl := fun n => memB n [], parr := Re.look [] }
noncomputable def slices_Repeat_api_Event_an : An (Ds ((([.tmp 4 ((.sl T41), .full)] : List RV).map RV.pm).map (·.1) ++ ioTys [.val (.sl T41), .val (.int .i64)])) :=
(.seq (.rg [] none)
(.seq (.seq (.rg [] none)
(.cond .leaf .leaf))
(.seq (.rg [] none)
(.seq (.seq (.rg [] (some (.op ⟨[], []⟩ (.op ⟨[], []⟩ (.op ⟨[], []⟩ (.split 23 [(26, .bool)] (.op ⟨[], []⟩ (.op ⟨[], []⟩ (.op ⟨[], []⟩ .done))) .done))))))
(.cond .leaf .leaf))
(.seq (.rg [] none)
(.seq (.rg [] none)
(.seq (.loop [.row 7 T41 .full, .val 8 (.int .i64)] [.row 7 T41 .full] slices_Repeat_api_Event_L0
(.seq (.seq (.rg [] none)
(.cond .leaf .leaf))
(.block (.rg [] (some (.op ⟨[], []⟩ (.op ⟨[], []⟩ (.op ⟨[], []⟩ (.op ⟨[112], []⟩ (.op ⟨[], []⟩ (.op ⟨[], []⟩ (.op ⟨[112], []⟩ (.op ⟨[112], [112]⟩ (.op ⟨[], []⟩ (.op ⟨[], []⟩ .done)))))))))))))))
(.seq (.rg [] none)
.leaf))))))))
theorem slices_Repeat_api_Event_Eok : EnvOk Try.prog slices_Repeat_api_Event_E := env_ok tab_ok (by simp) (allFn_mem (show AllFn Try.prog slices_Repeat_api_Event_fns from ⟨math_bits_Mul_ok, trivial⟩)) mixed (by kernel_rfl) (by kernel_rfl) (by kernel_rfl)
theorem slices_Repeat_api_Event_eq (x : (List (Int × (Int × (Int × (Int × (Int × (Bool × (Int × (BitVec 64 × (List (BitVec 8) × Unit)))))))))) × Int) : evF slices_Repeat_api_Event_E 48 (bd Try.f28) [.val (.sl T41), .val (.int .i64)] [.tmp 4 ((.sl T41), .full)] slices_Repeat_api_Event_an x = slices_Repeat_api_Event x := by kernel_rfl
theorem slices_Repeat_api_Event_ok : FnOk Try.prog 28 { args := [.val (.sl T41), .val (.int .i64)], res := [((.sl T41), .full)], f := slices_Repeat_api_Event } :=
  fn_ok slices_Repeat_api_Event_Eok Try.func28 rfl (by kernel_rfl) (by kernel_rfl) (by kernel_rfl) (rs := [.tmp 4 ((.sl T41), .full)]) (c := bd Try.f28) (an := slices_Repeat_api_Event_an) (show obF slices_Repeat_api_Event_E 48 (bd Try.f28) [.val (.sl T41), .val (.int .i64)] [.tmp 4 ((.sl T41), .full)] slices_Repeat_api_Event_an from (And.intro trivial (And.intro (And.intro trivial (And.intro trivial trivial)) (And.intro trivial (And.intro (And.intro trivial (And.intro trivial trivial)) (And.intro trivial (And.intro trivial (And.intro (And.intro (fun _ => rfl) (And.intro (fun n j => by kernel_rfl) (fun n => (And.intro (And.intro trivial (And.intro trivial trivial)) trivial)))) (And.intro trivial trivial))))))))) slices_Repeat_api_Event_eq
/-! host_send: function 30 -/
noncomputable def host_send_fns : List (Nat × Fun) := []
noncomputable def host_send_E : Env := { ty := Re.look tyTab, eq := fun n => memB n [], fn := Re.look host_send_fns, cut := fun n => memB n [], win := fun n => memB n [], one := fun n => memB n [], onc := fun n => memB n [], pre := fun n => memB n [], ptr := fun n => memB n [], psl := fun n => memB n [], parr := Re.look [] }
noncomputable def host_send_an : An (Ds ((([.cell 8 T41] : List RV).map RV.pm).map (·.1) ++ ioTys [.val (.int .i64), .val (.int .i64), .val (.int .i64), .val (.sl (.int .u8))])) :=
(.seq (.rg [] none)
(.seq (.rg [] none)
.leaf))
theorem host_send_Eok : EnvOk Try.prog host_send_E := env_ok tab_ok (by simp) (allFn_mem (show AllFn Try.prog host_send_fns from trivial)) mixed (by kernel_rfl) (by kernel_rfl) (by kernel_rfl)
theorem host_send_eq (x : Int × Int × Int × (List (BitVec 8))) : evF host_send_E 14 (bd Try.f30) [.val (.int .i64), .val (.int .i64), .val (.int .i64), .val (.sl (.int .u8))] [.cell 8 T41] host_send_an x = host_send x := by kernel_rfl
theorem host_send_ok : FnOk Try.prog 30 { args := [.val (.int .i64), .val (.int .i64), .val (.int .i64), .val (.sl (.int .u8))], res := [(T41, .view)], f := host_send } :=
  fn_ok host_send_Eok Try.func30 rfl (by kernel_rfl) (by kernel_rfl) (by kernel_rfl) (rs := [.cell 8 T41]) (c := bd Try.f30) (an := host_send_an) (ob_flat _ _ _ _ _ _ _ (by kernel_rfl)) host_send_eq
/-! host_Transfer: function 10 -/
noncomputable def host_Transfer_fns : List (Nat × Fun) := [(26, { args := [.val T22], res := [((.sl (.int .u8)), .full), (.bool, .view)], f := setup_Bytes }), (27, { args := [.val T22], res := [((.int .i64), .view)], f := setup_Dir }), (23, { args := [.val (.int .i64), .val (.int .i64), .val (.int .i64)], res := [(T41, .view)], f := host_Ask }), (29, { args := [.val (.int .i64)], res := [((.int .i64), .view)], f := host_packets }), (28, { args := [.val (.sl T41), .val (.int .i64)], res := [((.sl T41), .full)], f := slices_Repeat_api_Event }), (30, { args := [.val (.int .i64), .val (.int .i64), .val (.int .i64), .val (.sl (.int .u8))], res := [(T41, .view)], f := host_send })]
noncomputable def host_Transfer_E : Env := { ty := Re.look tyTab, eq := fun n => memB n [], fn := Re.look host_Transfer_fns, cut := fun n => memB n [], win := fun n => memB n [], one := fun n => memB n [], onc := fun n => memB n [], pre := fun n => memB n [], ptr := fun n => memB n [], psl := fun n => memB n [], parr := Re.look [] }
noncomputable def host_Transfer_an : An (Ds ((([.tmp 4 ((.sl T41), .full)] : List RV).map RV.pm).map (·.1) ++ ioTys [.val (.int .i64), .val T22])) :=
(.seq (.rg [] none)
(.seq (.rg [] none)
(.seq (.seq (.rg [] none)
(.cond (.seq (.rg [] none)
.leaf) .leaf))
(.seq (.rg [] none)
(.join [.row 7 T41 .full]
(.seq (.rg [] none)
(.block (.seq (.rg [] none)
(.cond (.rg [] none) (.seq (.rg [] none)
(.cond (.seq (.rg [528] (some (.op ⟨[], []⟩ (.op ⟨[], []⟩ (.op ⟨[512], []⟩ (.op ⟨[528], [528]⟩ (.op ⟨[48], []⟩ (.op ⟨[48], []⟩ (.op ⟨[576], []⟩ (.op ⟨[528, 592], [528, 592]⟩ (.op ⟨[288, 592, 608], [288, 608]⟩ (.op ⟨[], []⟩ .done))))))))))))
(.rg [] none)) .leaf))))))
(.seq (.rg [] none)
.leaf))))))
theorem host_Transfer_Eok : EnvOk Try.prog host_Transfer_E := env_ok tab_ok (by simp) (allFn_mem (show AllFn Try.prog host_Transfer_fns from ⟨setup_Bytes_ok, setup_Dir_ok, host_Ask_ok, host_packets_ok, slices_Repeat_api_Event_ok, host_send_ok, trivial⟩)) mixed (by kernel_rfl) (by kernel_rfl) (by kernel_rfl)
theorem host_Transfer_eq (x : Int × (Int × (Int × (Int × (Int × (Int × Unit)))))) : evF host_Transfer_E 45 (bd Try.f10) [.val (.int .i64), .val T22] [.tmp 4 ((.sl T41), .full)] host_Transfer_an x = host_Transfer x := by kernel_rfl
theorem host_Transfer_ok : FnOk Try.prog 10 { args := [.val (.int .i64), .val T22], res := [((.sl T41), .full)], f := host_Transfer } :=
  fn_ok host_Transfer_Eok Try.func10 rfl (by kernel_rfl) (by kernel_rfl) (by kernel_rfl) (rs := [.tmp 4 ((.sl T41), .full)]) (c := bd Try.f10) (an := host_Transfer_an) (ob_flat _ _ _ _ _ _ _ (by kernel_rfl)) host_Transfer_eq
/-! cbw_put: function 48 -/
noncomputable def cbw_put_fns : List (Nat × Fun) := [(43, { args := [.val (.int .u64), .val (.int .i64)], res := [((.sl (.int .u8)), .full)], f := number_PutLittle })]
noncomputable def cbw_put_E : Env := { ty := Re.look tyTab, eq := fun n => memB n [], fn := Re.look cbw_put_fns, cut := fun n => memB n [], win := fun n => memB n [], one := fun n => memB n [], onc := fun n => memB n [], pre := fun n => memB n [], ptr := fun n => memB n [], psl := fun n => memB n [], parr := Re.look [] }
noncomputable def cbw_put_an : An (Ds ((([.tmp 2 ((.sl (.int .u8)), .full)] : List RV).map RV.pm).map (·.1) ++ ioTys [.val (.int .u32)])) :=
(.seq (.rg [] none)
(.seq (.rg [] none)
.leaf))
theorem cbw_put_Eok : EnvOk Try.prog cbw_put_E := env_ok tab_ok (by simp) (allFn_mem (show AllFn Try.prog cbw_put_fns from ⟨number_PutLittle_ok, trivial⟩)) mixed (by kernel_rfl) (by kernel_rfl) (by kernel_rfl)
theorem cbw_put_eq (x : (BitVec 32)) : evF cbw_put_E 6 (bd Try.f48) [.val (.int .u32)] [.tmp 2 ((.sl (.int .u8)), .full)] cbw_put_an x = cbw_put x := by kernel_rfl
theorem cbw_put_ok : FnOk Try.prog 48 { args := [.val (.int .u32)], res := [((.sl (.int .u8)), .full)], f := cbw_put } :=
  fn_ok cbw_put_Eok Try.func48 rfl (by kernel_rfl) (by kernel_rfl) (by kernel_rfl) (rs := [.tmp 2 ((.sl (.int .u8)), .full)]) (c := bd Try.f48) (an := cbw_put_an) (ob_flat _ _ _ _ _ _ _ (by kernel_rfl)) cbw_put_eq
/-! cbw_Bytes: function 35 -/
noncomputable def cbw_Bytes_fns : List (Nat × Fun) := [(48, { args := [.val (.int .u32)], res := [((.sl (.int .u8)), .full)], f := cbw_put }), (42, { args := [.val (.sl (.sl (.int .u8)))], res := [((.sl (.int .u8)), .full)], f := slices_Concat_byte })]
noncomputable def cbw_Bytes_E : Env := { ty := Re.look tyTab, eq := fun n => memB n [], fn := Re.look cbw_Bytes_fns, cut := fun n => memB n [], win := fun n => memB n [], one := fun n => memB n [], onc := fun n => memB n [], pre := fun n => memB n [], ptr := fun n => memB n [], psl := fun n => memB n [], parr := Re.look [] }
noncomputable def cbw_Bytes_an : An (Ds ((([.tmp 2 ((.sl (.int .u8)), .full), .tmp 3 (.bool, .view)] : List RV).map RV.pm).map (·.1) ++ ioTys [.val T34])) :=
(.seq (.rg [] none)
(.seq (.seq (.rg [] (some (.op ⟨[16], []⟩ (.op ⟨[16], []⟩ (.op ⟨[], []⟩ (.op ⟨[], []⟩ (.split 8 [(13, .bool)] (.op ⟨[16], []⟩ (.op ⟨[16], []⟩ (.op ⟨[], []⟩ (.op ⟨[], []⟩ (.op ⟨[], []⟩ .done))))) (.op ⟨[], []⟩ (.split 14 [(19, .bool)] (.op ⟨[16], []⟩ (.op ⟨[16], []⟩ (.op ⟨[], []⟩ (.op ⟨[], []⟩ (.op ⟨[], []⟩ .done))))) (.op ⟨[], []⟩ (.split 20 [(25, .bool)] (.op ⟨[16], []⟩ (.op ⟨[16], []⟩ (.op ⟨[], []⟩ (.op ⟨[], []⟩ (.op ⟨[], []⟩ .done))))) .done)))))))))))
(.cond (.seq (.rg [] none)
.leaf) .leaf))
(.seq (.rg [] none)
(.join [.box 1 T34, .box 4 (.arr 3 (.int .u8))]
(.seq (.rg [] none)
(.cond (.rg [] none) .leaf))
(.seq (.rg [592, 640, 688, 816, 832] (some (.op ⟨[592], [592]⟩ (.op ⟨[16], []⟩ (.op ⟨[16], []⟩ (.op ⟨[640], [640]⟩ (.op ⟨[16], []⟩ (.op ⟨[16], []⟩ (.op ⟨[688], [688]⟩ (.op ⟨[64], [64]⟩ (.op ⟨[16], []⟩ (.op ⟨[16], []⟩ (.op ⟨[16], []⟩ (.op ⟨[16], []⟩ (.op ⟨[], []⟩ (.op ⟨[], []⟩ (.op ⟨[816], [816]⟩ (.op ⟨[592, 640, 688, 816, 832], [592, 640, 688, 816, 832]⟩ (.op ⟨[832, 848], [832, 848]⟩ (.op ⟨[], []⟩ (.op ⟨[], []⟩ .done)))))))))))))))))))))
.leaf)))))
theorem cbw_Bytes_Eok : EnvOk Try.prog cbw_Bytes_E := env_ok tab_ok (by simp) (allFn_mem (show AllFn Try.prog cbw_Bytes_fns from ⟨cbw_put_ok, slices_Concat_byte_ok, trivial⟩)) mixed (by kernel_rfl) (by kernel_rfl) (by kernel_rfl)
theorem cbw_Bytes_eq (x : (BitVec 32 × (BitVec 32 × (Bool × (Int × (List (BitVec 8) × Unit)))))) : evF cbw_Bytes_E 54 (bd Try.f35) [.val T34] [.tmp 2 ((.sl (.int .u8)), .full), .tmp 3 (.bool, .view)] cbw_Bytes_an x = cbw_Bytes x := by kernel_rfl
theorem cbw_Bytes_ok : FnOk Try.prog 35 { args := [.val T34], res := [((.sl (.int .u8)), .full), (.bool, .view)], f := cbw_Bytes } :=
  fn_ok cbw_Bytes_Eok Try.func35 rfl (by kernel_rfl) (by kernel_rfl) (by kernel_rfl) (rs := [.tmp 2 ((.sl (.int .u8)), .full), .tmp 3 (.bool, .view)]) (c := bd Try.f35) (an := cbw_Bytes_an) (ob_flat _ _ _ _ _ _ _ (by kernel_rfl)) cbw_Bytes_eq
/-! host_Wrapper: function 16 -/
noncomputable def host_Wrapper_fns : List (Nat × Fun) := [(35, { args := [.val T34], res := [((.sl (.int .u8)), .full), (.bool, .view)], f := cbw_Bytes }), (30, { args := [.val (.int .i64), .val (.int .i64), .val (.int .i64), .val (.sl (.int .u8))], res := [(T41, .view)], f := host_send })]
noncomputable def host_Wrapper_E : Env := { ty := Re.look tyTab, eq := fun n => memB n [], fn := Re.look host_Wrapper_fns, cut := fun n => memB n [], win := fun n => memB n [], one := fun n => memB n [], onc := fun n => memB n [], pre := fun n => memB n [], ptr := fun n => memB n [], psl := fun n => memB n [], parr := Re.look [] }
noncomputable def host_Wrapper_an : An (Ds ((([.cell 6 T41, .tmp 7 (.bool, .view)] : List RV).map RV.pm).map (·.1) ++ ioTys [.val (.int .i64), .val (.int .i64), .val T34])) :=
(.seq (.rg [] none)
(.seq (.rg [] none)
(.seq (.seq (.rg [] none)
(.cond (.seq (.rg [] none)
.leaf) .leaf))
(.seq (.rg [] none)
.leaf))))
theorem host_Wrapper_Eok : EnvOk Try.prog host_Wrapper_E := env_ok tab_ok (by simp) (allFn_mem (show AllFn Try.prog host_Wrapper_fns from ⟨cbw_Bytes_ok, host_send_ok, trivial⟩)) mixed (by kernel_rfl) (by kernel_rfl) (by kernel_rfl)
theorem host_Wrapper_eq (x : Int × Int × (BitVec 32 × (BitVec 32 × (Bool × (Int × (List (BitVec 8) × Unit)))))) : evF host_Wrapper_E 22 (bd Try.f16) [.val (.int .i64), .val (.int .i64), .val T34] [.cell 6 T41, .tmp 7 (.bool, .view)] host_Wrapper_an x = host_Wrapper x := by kernel_rfl
theorem host_Wrapper_ok : FnOk Try.prog 16 { args := [.val (.int .i64), .val (.int .i64), .val T34], res := [(T41, .view), (.bool, .view)], f := host_Wrapper } :=
  fn_ok host_Wrapper_Eok Try.func16 rfl (by kernel_rfl) (by kernel_rfl) (by kernel_rfl) (rs := [.cell 6 T41, .tmp 7 (.bool, .view)]) (c := bd Try.f16) (an := host_Wrapper_an) (ob_flat _ _ _ _ _ _ _ (by kernel_rfl)) host_Wrapper_eq
/-! host_all: function 34 -/
noncomputable def host_all_fns : List (Nat × Fun) := [(10, { args := [.val (.int .i64), .val T22], res := [((.sl T41), .full)], f := host_Transfer })]
noncomputable def host_all_E : Env := { ty := Re.look tyTab, eq := fun n => memB n [], fn := Re.look host_all_fns, cut := fun n => memB n [], win := fun n => memB n [], one := fun n => memB n [], onc := fun n => memB n [], pre := fun n => memB n [], ptr := fun n => memB n [], psl := fun n => memB n [], parr := Re.look [] }
noncomputable def host_all_an : An (Ds ((([.tmp 4 ((.sl T41), .full)] : List RV).map RV.pm).map (·.1) ++ ioTys [.val (.int .i64), .val (.sl T22)])) :=
(.seq (.rg [] none)
(.seq (.seq (.rg [] none)
(.loop [.val 0 (.int .i64), .row 4 T41 .full, .val 7 (.sl T22), .val 8 (.int .i64), .val 9 (.int .i64)] [.row 4 T41 .full] host_all_L0
(.seq (.rg [] none)
(.seq (.cond .leaf .leaf)
(.seq (.block (.seq (.rg [] none)
(.rg [] none)))
(.rg [] none))))))
(.seq (.rg [] none)
.leaf)))
theorem host_all_Eok : EnvOk Try.prog host_all_E := env_ok tab_ok (by simp) (allFn_mem (show AllFn Try.prog host_all_fns from ⟨host_Transfer_ok, trivial⟩)) mixed (by kernel_rfl) (by kernel_rfl) (by kernel_rfl)
theorem host_all_eq (x : Int × (List (Int × (Int × (Int × (Int × (Int × Unit))))))) : evF host_all_E 20 (bd Try.f34) [.val (.int .i64), .val (.sl T22)] [.tmp 4 ((.sl T41), .full)] host_all_an x = host_all x := by kernel_rfl
theorem host_all_ok : FnOk Try.prog 34 { args := [.val (.int .i64), .val (.sl T22)], res := [((.sl T41), .full)], f := host_all } :=
  fn_ok host_all_Eok Try.func34 rfl (by kernel_rfl) (by kernel_rfl) (by kernel_rfl) (rs := [.tmp 4 ((.sl T41), .full)]) (c := bd Try.f34) (an := host_all_an) (show obF host_all_E 20 (bd Try.f34) [.val (.int .i64), .val (.sl T22)] [.tmp 4 ((.sl T41), .full)] host_all_an from (And.intro trivial (And.intro (And.intro trivial (And.intro (fun _ => rfl) (And.intro (fun n j => by kernel_rfl) (fun n => (And.intro trivial (And.intro (And.intro trivial trivial) (And.intro (And.intro trivial trivial) trivial))))))) (And.intro trivial trivial)))) host_all_eq
/-! slices_Grow_api_Event: function 47 -/
noncomputable def slices_Grow_api_Event_fns : List (Nat × Fun) := []
noncomputable def slices_Grow_api_Event_E : Env := { ty := Re.look tyTab, eq := fun n => memB n [], fn := Re.look slices_Grow_api_Event_fns, cut := fun n => memB n [25], win := fun n => memB n [], one := fun n => memB n [], onc := fun n => memB n [], pre := fun n => memB n [], ptr := fun n => memB n [], psl := fun n => memB n [], parr := Re.look [] }
noncomputable def slices_Grow_api_Event_an : An (Ds ((([.tmp 4 ((.sl T41), .full)] : List RV).map RV.pm).map (·.1) ++ ioTys [.nils T41, .val (.int .i64)])) :=
(.seq (.rg [] none)
(.seq (.seq (.rg [] none)
(.cond .leaf .leaf))
(.join [.row 0 T41 .full]
(.seq (.rg [] none)
(.seq (.rg [] none)
(.cond (.rg [] none) .leaf)))
(.seq (.rg [] none)
.leaf))))
theorem slices_Grow_api_Event_Eok : EnvOk Try.prog slices_Grow_api_Event_E := env_ok tab_ok (by simp) (allFn_mem (show AllFn Try.prog slices_Grow_api_Event_fns from trivial)) mixed (by kernel_rfl) (by kernel_rfl) (by kernel_rfl)
theorem slices_Grow_api_Event_eq (x : Unit × Int) : evF slices_Grow_api_Event_E 27 (bd Try.f47) [.nils T41, .val (.int .i64)] [.tmp 4 ((.sl T41), .full)] slices_Grow_api_Event_an x = slices_Grow_api_Event x := by kernel_rfl
theorem slices_Grow_api_Event_ok : FnOk Try.prog 47 { args := [.nils T41, .val (.int .i64)], res := [((.sl T41), .full)], f := slices_Grow_api_Event } :=
  fn_ok slices_Grow_api_Event_Eok Try.func47 rfl (by kernel_rfl) (by kernel_rfl) (by kernel_rfl) (rs := [.tmp 4 ((.sl T41), .full)]) (c := bd Try.f47) (an := slices_Grow_api_Event_an) (ob_flat _ _ _ _ _ _ _ (by kernel_rfl)) slices_Grow_api_Event_eq
/-! slices_Concat_api_Event: function 33 -/
noncomputable def slices_Concat_api_Event_fns : List (Nat × Fun) := [(47, { args := [.nils T41, .val (.int .i64)], res := [((.sl T41), .full)], f := slices_Grow_api_Event })]
noncomputable def slices_Concat_api_Event_E : Env := { ty := Re.look tyTab, eq := fun n => memB n [], fn := Re.look slices_Concat_api_Event_fns, cut := fun n => memB n [], win := fun n => memB n [], one := fun n => memB n [], onc := fun n => memB n [], pre := fun n => memB n [], ptr := fun n => memB n [], psl := fun n => memB n [], parr := Re.look [] }
noncomputable def slices_Concat_api_Event_an : An (Ds ((([.tmp 2 ((.sl T41), .full)] : List RV).map RV.pm).map (·.1) ++ ioTys [.val (.sl (.sl T41))])) :=
(.seq (.rg [] none)
(.seq (.rg [] none)
(.seq (.seq (.rg [] none)
(.loop [.val 0 (.sl (.sl T41)), .val 3 (.int .i64), .val 9 (.sl (.sl T41)), .val 10 (.int .i64), .val 11 (.int .i64)] [.val 0 (.sl (.sl T41)), .val 3 (.int .i64)] slices_Concat_api_Event_L0
(.seq (.rg [] none)
(.seq (.cond .leaf .leaf)
(.seq (.block (.seq (.rg [] none)
(.seq (.rg [] none)
(.seq (.rg [] none)
(.cond .leaf .leaf)))))
(.rg [] none))))))
(.seq (.rg [] none)
(.seq (.seq (.rg [] none)
(.loop [.row 6 T41 .full, .val 25 (.sl (.sl T41)), .val 26 (.int .i64), .val 27 (.int .i64)] [.row 6 T41 .full] slices_Concat_api_Event_L1
(.seq (.rg [] none)
(.seq (.cond .leaf .leaf)
(.seq (.block (.seq (.rg [] none)
(.rg [] none)))
(.rg [] none))))))
(.seq (.rg [] none)
.leaf))))))
theorem slices_Concat_api_Event_Eok : EnvOk Try.prog slices_Concat_api_Event_E := env_ok tab_ok (by simp) (allFn_mem (show AllFn Try.prog slices_Concat_api_Event_fns from ⟨slices_Grow_api_Event_ok, trivial⟩)) mixed (by kernel_rfl) (by kernel_rfl) (by kernel_rfl)
theorem slices_Concat_api_Event_eq (x : (List (List (Int × (Int × (Int × (Int × (Int × (Bool × (Int × (BitVec 64 × (List (BitVec 8) × Unit)))))))))))) : evF slices_Concat_api_Event_E 36 (bd Try.f33) [.val (.sl (.sl T41))] [.tmp 2 ((.sl T41), .full)] slices_Concat_api_Event_an x = slices_Concat_api_Event x := by kernel_rfl
theorem slices_Concat_api_Event_ok : FnOk Try.prog 33 { args := [.val (.sl (.sl T41))], res := [((.sl T41), .full)], f := slices_Concat_api_Event } :=
  fn_ok slices_Concat_api_Event_Eok Try.func33 rfl (by kernel_rfl) (by kernel_rfl) (by kernel_rfl) (rs := [.tmp 2 ((.sl T41), .full)]) (c := bd Try.f33) (an := slices_Concat_api_Event_an) (show obF slices_Concat_api_Event_E 36 (bd Try.f33) [.val (.sl (.sl T41))] [.tmp 2 ((.sl T41), .full)] slices_Concat_api_Event_an from (And.intro trivial (And.intro trivial (And.intro (And.intro trivial (And.intro (fun _ => rfl) (And.intro (fun n j => by kernel_rfl) (fun n => (And.intro trivial (And.intro (And.intro trivial trivial) (And.intro (And.intro trivial (And.intro trivial (And.intro trivial (And.intro trivial trivial)))) trivial))))))) (And.intro trivial (And.intro (And.intro trivial (And.intro (fun _ => rfl) (And.intro (fun n j => by kernel_rfl) (fun n => (And.intro trivial (And.intro (And.intro trivial trivial) (And.intro (And.intro trivial trivial) trivial))))))) (And.intro trivial trivial))))))) slices_Concat_api_Event_eq
/-! host_Enumerate: function 12 -/
noncomputable def host_Enumerate_fns : List (Nat × Fun) := [(34, { args := [.val (.int .i64), .val (.sl T22)], res := [((.sl T41), .full)], f := host_all }), (33, { args := [.val (.sl (.sl T41))], res := [((.sl T41), .full)], f := slices_Concat_api_Event })]
noncomputable def host_Enumerate_E : Env := { ty := Re.look tyTab, eq := fun n => memB n [], fn := Re.look host_Enumerate_fns, cut := fun n => memB n [], win := fun n => memB n [], one := fun n => memB n [], onc := fun n => memB n [], pre := fun n => memB n [], ptr := fun n => memB n [], psl := fun n => memB n [], parr := Re.look [] }
noncomputable def host_Enumerate_an : An (Ds ((([.tmp 4 ((.sl T41), .full)] : List RV).map RV.pm).map (·.1) ++ ioTys [.val (.int .i64), .val (.int .i64)])) :=
(.seq (.rg [] none)
(.seq (.rg [] none)
(.seq (.seq (.rg [] none)
(.cond (.seq (.rg [] none)
.leaf) .leaf))
(.seq (.rg [] none)
.leaf))))
theorem host_Enumerate_Eok : EnvOk Try.prog host_Enumerate_E := env_ok tab_ok (by simp) (allFn_mem (show AllFn Try.prog host_Enumerate_fns from ⟨host_all_ok, slices_Concat_api_Event_ok, trivial⟩)) mixed (by kernel_rfl) (by kernel_rfl) (by kernel_rfl)
theorem host_Enumerate_eq (x : Int × Int) : evF host_Enumerate_E 28 (bd Try.f12) [.val (.int .i64), .val (.int .i64)] [.tmp 4 ((.sl T41), .full)] host_Enumerate_an x = host_Enumerate x := by kernel_rfl
theorem host_Enumerate_ok : FnOk Try.prog 12 { args := [.val (.int .i64), .val (.int .i64)], res := [((.sl T41), .full)], f := host_Enumerate } :=
  fn_ok host_Enumerate_Eok Try.func12 rfl (by kernel_rfl) (by kernel_rfl) (by kernel_rfl) (rs := [.tmp 4 ((.sl T41), .full)]) (c := bd Try.f12) (an := host_Enumerate_an) (ob_flat _ _ _ _ _ _ _ (by kernel_rfl)) host_Enumerate_eq
/-! host_Recover: function 14 -/
noncomputable def host_Recover_fns : List (Nat × Fun) := [(34, { args := [.val (.int .i64), .val (.sl T22)], res := [((.sl T41), .full)], f := host_all })]
noncomputable def host_Recover_E : Env := { ty := Re.look tyTab, eq := fun n => memB n [], fn := Re.look host_Recover_fns, cut := fun n => memB n [], win := fun n => memB n [], one := fun n => memB n [], onc := fun n => memB n [], pre := fun n => memB n [], ptr := fun n => memB n [], psl := fun n => memB n [], parr := Re.look [] }
noncomputable def host_Recover_an : An (Ds ((([.tmp 2 ((.sl T41), .full)] : List RV).map RV.pm).map (·.1) ++ ioTys [.val (.int .i64)])) :=
(.seq (.rg [] none)
(.seq (.rg [] none)
.leaf))
theorem host_Recover_Eok : EnvOk Try.prog host_Recover_E := env_ok tab_ok (by simp) (allFn_mem (show AllFn Try.prog host_Recover_fns from ⟨host_all_ok, trivial⟩)) mixed (by kernel_rfl) (by kernel_rfl) (by kernel_rfl)
theorem host_Recover_eq (x : Int) : evF host_Recover_E 9 (bd Try.f14) [.val (.int .i64)] [.tmp 2 ((.sl T41), .full)] host_Recover_an x = host_Recover x := by kernel_rfl
theorem host_Recover_ok : FnOk Try.prog 14 { args := [.val (.int .i64)], res := [((.sl T41), .full)], f := host_Recover } :=
  fn_ok host_Recover_Eok Try.func14 rfl (by kernel_rfl) (by kernel_rfl) (by kernel_rfl) (rs := [.tmp 2 ((.sl T41), .full)]) (c := bd Try.f14) (an := host_Recover_an) (ob_flat _ _ _ _ _ _ _ (by kernel_rfl)) host_Recover_eq
/-! slices_Reverse_byte: function 64 -/
noncomputable def slices_Reverse_byte_fns : List (Nat × Fun) := []
noncomputable def slices_Reverse_byte_E : Env := { ty := Re.look tyTab, eq := fun n => memB n [], fn := Re.look slices_Reverse_byte_fns, cut := fun n => memB n [], win := fun n => memB n [], one := fun n => memB n [], onc := fun n => memB n [], pre := fun n => memB n [], ptr := fun n => memB n [], psl := fun n => memB n [], parr := Re.look [] }
noncomputable def slices_Reverse_byte_an : An (Ds ((([] : List RV).map RV.pm).map (·.1) ++ ioTys [.row (.int .u8)])) :=
(.seq (.rg [] none)
(.loop [.prow 0 (.int .u8), .val 2 (.int .i64), .val 3 (.int .i64)] [.prow 0 (.int .u8)] slices_Reverse_byte_L0
(.seq (.seq (.rg [] none)
(.cond .leaf .leaf))
(.seq (.block (.rg [] (some (.op ⟨[], []⟩ (.op ⟨[], []⟩ (.op ⟨[], []⟩ (.op ⟨[], []⟩ (.op ⟨[], []⟩ (.op ⟨[], []⟩ (.op ⟨[0], []⟩ (.op ⟨[0], []⟩ (.op ⟨[], []⟩ (.op ⟨[], []⟩ (.op ⟨[0], []⟩ (.op ⟨[0], []⟩ (.op ⟨[0], []⟩ (.op ⟨[0], [0]⟩ (.op ⟨[0], []⟩ (.op ⟨[0], [0]⟩ .done)))))))))))))))))))
(.rg [] none)))))
theorem slices_Reverse_byte_Eok : EnvOk Try.prog slices_Reverse_byte_E := env_ok tab_ok (by simp) (allFn_mem (show AllFn Try.prog slices_Reverse_byte_fns from trivial)) mixed (by kernel_rfl) (by kernel_rfl) (by kernel_rfl)
theorem slices_Reverse_byte_eq (x : (List (BitVec 8))) : evF slices_Reverse_byte_E 28 (bd Try.f64) [.row (.int .u8)] [] slices_Reverse_byte_an x = slices_Reverse_byte x := by kernel_rfl
theorem slices_Reverse_byte_ok : FnOk Try.prog 64 { args := [.row (.int .u8)], res := [], f := slices_Reverse_byte } :=
  fn_ok slices_Reverse_byte_Eok Try.func64 rfl (by kernel_rfl) (by kernel_rfl) (by kernel_rfl) (rs := []) (c := bd Try.f64) (an := slices_Reverse_byte_an) (show obF slices_Reverse_byte_E 28 (bd Try.f64) [.row (.int .u8)] [] slices_Reverse_byte_an from (And.intro trivial (And.intro (fun _ => rfl) (And.intro (fun n j => by kernel_rfl) (fun n => (And.intro (And.intro trivial (And.intro trivial trivial)) (And.intro trivial trivial))))))) slices_Reverse_byte_eq
/-! number_PutBig: function 62 -/
noncomputable def number_PutBig_fns : List (Nat × Fun) := [(43, { args := [.val (.int .u64), .val (.int .i64)], res := [((.sl (.int .u8)), .full)], f := number_PutLittle }), (64, { args := [.row (.int .u8)], res := [], f := slices_Reverse_byte })]
noncomputable def number_PutBig_E : Env := { ty := Re.look tyTab, eq := fun n => memB n [], fn := Re.look number_PutBig_fns, cut := fun n => memB n [], win := fun n => memB n [], one := fun n => memB n [], onc := fun n => memB n [], pre := fun n => memB n [], ptr := fun n => memB n [], psl := fun n => memB n [], parr := Re.look [] }
noncomputable def number_PutBig_an : An (Ds ((([.tmp 4 ((.sl (.int .u8)), .full)] : List RV).map RV.pm).map (·.1) ++ ioTys [.val (.int .u64), .val (.int .i64)])) :=
(.seq (.rg [] none)
(.seq (.rg [] none)
(.seq (.rg [] none)
(.seq (.rg [] none)
.leaf))))
theorem number_PutBig_Eok : EnvOk Try.prog number_PutBig_E := env_ok tab_ok (by simp) (allFn_mem (show AllFn Try.prog number_PutBig_fns from ⟨number_PutLittle_ok, slices_Reverse_byte_ok, trivial⟩)) mixed (by kernel_rfl) (by kernel_rfl) (by kernel_rfl)
theorem number_PutBig_eq (x : (BitVec 64) × Int) : evF number_PutBig_E 12 (bd Try.f62) [.val (.int .u64), .val (.int .i64)] [.tmp 4 ((.sl (.int .u8)), .full)] number_PutBig_an x = number_PutBig x := by kernel_rfl
theorem number_PutBig_ok : FnOk Try.prog 62 { args := [.val (.int .u64), .val (.int .i64)], res := [((.sl (.int .u8)), .full)], f := number_PutBig } :=
  fn_ok number_PutBig_Eok Try.func62 rfl (by kernel_rfl) (by kernel_rfl) (by kernel_rfl) (rs := [.tmp 4 ((.sl (.int .u8)), .full)]) (c := bd Try.f62) (an := number_PutBig_an) (ob_flat _ _ _ _ _ _ _ (by kernel_rfl)) number_PutBig_eq
/-! iu_put: function 54 -/
noncomputable def iu_put_fns : List (Nat × Fun) := [(62, { args := [.val (.int .u64), .val (.int .i64)], res := [((.sl (.int .u8)), .full)], f := number_PutBig })]
noncomputable def iu_put_E : Env := { ty := Re.look tyTab, eq := fun n => memB n [], fn := Re.look iu_put_fns, cut := fun n => memB n [], win := fun n => memB n [], one := fun n => memB n [], onc := fun n => memB n [], pre := fun n => memB n [], ptr := fun n => memB n [], psl := fun n => memB n [], parr := Re.look [] }
noncomputable def iu_put_an : An (Ds ((([.tmp 2 ((.sl (.int .u8)), .full)] : List RV).map RV.pm).map (·.1) ++ ioTys [.val (.int .i64)])) :=
(.seq (.rg [] none)
(.seq (.rg [] none)
.leaf))
theorem iu_put_Eok : EnvOk Try.prog iu_put_E := env_ok tab_ok (by simp) (allFn_mem (show AllFn Try.prog iu_put_fns from ⟨number_PutBig_ok, trivial⟩)) mixed (by kernel_rfl) (by kernel_rfl) (by kernel_rfl)
theorem iu_put_eq (x : Int) : evF iu_put_E 7 (bd Try.f54) [.val (.int .i64)] [.tmp 2 ((.sl (.int .u8)), .full)] iu_put_an x = iu_put x := by kernel_rfl
theorem iu_put_ok : FnOk Try.prog 54 { args := [.val (.int .i64)], res := [((.sl (.int .u8)), .full)], f := iu_put } :=
  fn_ok iu_put_Eok Try.func54 rfl (by kernel_rfl) (by kernel_rfl) (by kernel_rfl) (rs := [.tmp 2 ((.sl (.int .u8)), .full)]) (c := bd Try.f54) (an := iu_put_an) (ob_flat _ _ _ _ _ _ _ (by kernel_rfl)) iu_put_eq
/-! iu_head: function 50 -/
noncomputable def iu_head_fns : List (Nat × Fun) := [(54, { args := [.val (.int .i64)], res := [((.sl (.int .u8)), .full)], f := iu_put }), (42, { args := [.val (.sl (.sl (.int .u8)))], res := [((.sl (.int .u8)), .full)], f := slices_Concat_byte })]
noncomputable def iu_head_E : Env := { ty := Re.look tyTab, eq := fun n => memB n [], fn := Re.look iu_head_fns, cut := fun n => memB n [], win := fun n => memB n [], one := fun n => memB n [], onc := fun n => memB n [], pre := fun n => memB n [], ptr := fun n => memB n [], psl := fun n => memB n [], parr := Re.look [] }
noncomputable def iu_head_an : An (Ds ((([.tmp 4 ((.sl (.int .u8)), .full)] : List RV).map RV.pm).map (·.1) ++ ioTys [.val (.int .i64), .val (.int .i64)])) :=
(.seq (.rg [] none)
(.seq (.rg [] none)
.leaf))
theorem iu_head_Eok : EnvOk Try.prog iu_head_E := env_ok tab_ok (by simp) (allFn_mem (show AllFn Try.prog iu_head_fns from ⟨iu_put_ok, slices_Concat_byte_ok, trivial⟩)) mixed (by kernel_rfl) (by kernel_rfl) (by kernel_rfl)
theorem iu_head_eq (x : Int × Int) : evF iu_head_E 12 (bd Try.f50) [.val (.int .i64), .val (.int .i64)] [.tmp 4 ((.sl (.int .u8)), .full)] iu_head_an x = iu_head x := by kernel_rfl
theorem iu_head_ok : FnOk Try.prog 50 { args := [.val (.int .i64), .val (.int .i64)], res := [((.sl (.int .u8)), .full)], f := iu_head } :=
  fn_ok iu_head_Eok Try.func50 rfl (by kernel_rfl) (by kernel_rfl) (by kernel_rfl) (rs := [.tmp 4 ((.sl (.int .u8)), .full)]) (c := bd Try.f50) (an := iu_head_an) (ob_flat _ _ _ _ _ _ _ (by kernel_rfl)) iu_head_eq
/-! iu_place: function 51 -/
noncomputable def iu_place_fns : List (Nat × Fun) := []
noncomputable def iu_place_E : Env := { ty := Re.look tyTab, eq := fun n => memB n [], fn := Re.look iu_place_fns, cut := fun n => memB n [], win := fun n => memB n [], one := fun n => memB n [], onc := fun n => memB n [], pre := fun n => memB n [], ptr := fun n => memB n [], psl := fun n => memB n [], parr := Re.look [] }
noncomputable def iu_place_an : An (Ds ((([.tmp 2 ((.sl (.int .u8)), .full)] : List RV).map RV.pm).map (·.1) ++ ioTys [.val (.int .i64)])) :=
(.seq (.rg [] none)
(.seq (.rg [] none)
.leaf))
theorem iu_place_Eok : EnvOk Try.prog iu_place_E := env_ok tab_ok (by simp) (allFn_mem (show AllFn Try.prog iu_place_fns from trivial)) mixed (by kernel_rfl) (by kernel_rfl) (by kernel_rfl)
theorem iu_place_eq (x : Int) : evF iu_place_E 6 (bd Try.f51) [.val (.int .i64)] [.tmp 2 ((.sl (.int .u8)), .full)] iu_place_an x = iu_place x := by kernel_rfl
theorem iu_place_ok : FnOk Try.prog 51 { args := [.val (.int .i64)], res := [((.sl (.int .u8)), .full)], f := iu_place } :=
  fn_ok iu_place_Eok Try.func51 rfl (by kernel_rfl) (by kernel_rfl) (by kernel_rfl) (rs := [.tmp 2 ((.sl (.int .u8)), .full)]) (c := bd Try.f51) (an := iu_place_an) (ob_flat _ _ _ _ _ _ _ (by kernel_rfl)) iu_place_eq
/-! iu_PutCommand: function 37 -/
noncomputable def iu_PutCommand_fns : List (Nat × Fun) := [(50, { args := [.val (.int .i64), .val (.int .i64)], res := [((.sl (.int .u8)), .full)], f := iu_head }), (51, { args := [.val (.int .i64)], res := [((.sl (.int .u8)), .full)], f := iu_place }), (42, { args := [.val (.sl (.sl (.int .u8)))], res := [((.sl (.int .u8)), .full)], f := slices_Concat_byte })]
noncomputable def iu_PutCommand_E : Env := { ty := Re.look tyTab, eq := fun n => memB n [], fn := Re.look iu_PutCommand_fns, cut := fun n => memB n [], win := fun n => memB n [], one := fun n => memB n [1], onc := fun n => memB n [], pre := fun n => memB n [], ptr := fun n => memB n [], psl := fun n => memB n [], parr := Re.look [] }
noncomputable def iu_PutCommand_an : An (Ds ((([.tmp 2 ((.sl (.int .u8)), .full)] : List RV).map RV.pm).map (·.1) ++ ioTys [.val T52])) :=
(.seq (.rg [] none)
(.seq (.rg [80, 96, 144, 192] (some (.op ⟨[], []⟩ (.op ⟨[], []⟩ (.op ⟨[80], [80]⟩ (.op ⟨[96], [96]⟩ (.op ⟨[], []⟩ (.op ⟨[], []⟩ (.op ⟨[144], [144]⟩ (.op ⟨[], []⟩ (.op ⟨[], []⟩ (.op ⟨[80, 96, 144, 192], [80, 96, 144, 192]⟩ (.op ⟨[192, 208], [192, 208]⟩ (.op ⟨[], []⟩ .done))))))))))))))
.leaf))
theorem iu_PutCommand_Eok : EnvOk Try.prog iu_PutCommand_E := env_ok tab_ok (by simp) (allFn_mem (show AllFn Try.prog iu_PutCommand_fns from ⟨iu_head_ok, iu_place_ok, slices_Concat_byte_ok, trivial⟩)) mixed (by kernel_rfl) (by kernel_rfl) (by kernel_rfl)
theorem iu_PutCommand_eq (x : (Int × (Int × (List (BitVec 8) × (Int × (List (BitVec 8) × (((Int × (BitVec 64 × (Int × (Int × (Int × Unit))))) × (Int × (Int × (List (BitVec 8) × ((Int × (Int × (Int × Unit))) × Unit))))) × ((Int × (Int × (Int × Unit))) × Unit)))))))) : evF iu_PutCommand_E 14 (bd Try.f37) [.val T52] [.tmp 2 ((.sl (.int .u8)), .full)] iu_PutCommand_an x = iu_PutCommand x := by kernel_rfl
theorem iu_PutCommand_ok : FnOk Try.prog 37 { args := [.val T52], res := [((.sl (.int .u8)), .full)], f := iu_PutCommand } :=
  fn_ok iu_PutCommand_Eok Try.func37 rfl (by kernel_rfl) (by kernel_rfl) (by kernel_rfl) (rs := [.tmp 2 ((.sl (.int .u8)), .full)]) (c := bd Try.f37) (an := iu_PutCommand_an) (ob_flat _ _ _ _ _ _ _ (by kernel_rfl)) iu_PutCommand_eq
/-! host_Command: function 19 -/
noncomputable def host_Command_fns : List (Nat × Fun) := [(37, { args := [.val T52], res := [((.sl (.int .u8)), .full)], f := iu_PutCommand }), (30, { args := [.val (.int .i64), .val (.int .i64), .val (.int .i64), .val (.sl (.int .u8))], res := [(T41, .view)], f := host_send })]
noncomputable def host_Command_E : Env := { ty := Re.look tyTab, eq := fun n => memB n [], fn := Re.look host_Command_fns, cut := fun n => memB n [], win := fun n => memB n [], one := fun n => memB n [], onc := fun n => memB n [], pre := fun n => memB n [], ptr := fun n => memB n [], psl := fun n => memB n [], parr := Re.look [] }
noncomputable def host_Command_an : An (Ds ((([.cell 6 T41] : List RV).map RV.pm).map (·.1) ++ ioTys [.val (.int .i64), .val (.int .i64), .val T52])) :=
(.seq (.rg [] none)
(.seq (.rg [] none)
.leaf))
theorem host_Command_Eok : EnvOk Try.prog host_Command_E := env_ok tab_ok (by simp) (allFn_mem (show AllFn Try.prog host_Command_fns from ⟨iu_PutCommand_ok, host_send_ok, trivial⟩)) mixed (by kernel_rfl) (by kernel_rfl) (by kernel_rfl)
theorem host_Command_eq (x : Int × Int × (Int × (Int × (List (BitVec 8) × (Int × (List (BitVec 8) × (((Int × (BitVec 64 × (Int × (Int × (Int × Unit))))) × (Int × (Int × (List (BitVec 8) × ((Int × (Int × (Int × Unit))) × Unit))))) × ((Int × (Int × (Int × Unit))) × Unit)))))))) : evF host_Command_E 12 (bd Try.f19) [.val (.int .i64), .val (.int .i64), .val T52] [.cell 6 T41] host_Command_an x = host_Command x := by kernel_rfl
theorem host_Command_ok : FnOk Try.prog 19 { args := [.val (.int .i64), .val (.int .i64), .val T52], res := [(T41, .view)], f := host_Command } :=
  fn_ok host_Command_Eok Try.func19 rfl (by kernel_rfl) (by kernel_rfl) (by kernel_rfl) (rs := [.cell 6 T41]) (c := bd Try.f19) (an := host_Command_an) (ob_flat _ _ _ _ _ _ _ (by kernel_rfl)) host_Command_eq
/-! iu_PutManage: function 39 -/
noncomputable def iu_PutManage_fns : List (Nat × Fun) := [(50, { args := [.val (.int .i64), .val (.int .i64)], res := [((.sl (.int .u8)), .full)], f := iu_head }), (54, { args := [.val (.int .i64)], res := [((.sl (.int .u8)), .full)], f := iu_put }), (51, { args := [.val (.int .i64)], res := [((.sl (.int .u8)), .full)], f := iu_place }), (42, { args := [.val (.sl (.sl (.int .u8)))], res := [((.sl (.int .u8)), .full)], f := slices_Concat_byte })]
noncomputable def iu_PutManage_E : Env := { ty := Re.look tyTab, eq := fun n => memB n [], fn := Re.look iu_PutManage_fns, cut := fun n => memB n [], win := fun n => memB n [], one := fun n => memB n [], onc := fun n => memB n [], pre := fun n => memB n [], ptr := fun n => memB n [], psl := fun n => memB n [], parr := Re.look [] }
noncomputable def iu_PutManage_an : An (Ds ((([.tmp 2 ((.sl (.int .u8)), .full)] : List RV).map RV.pm).map (·.1) ++ ioTys [.val T36])) :=
(.seq (.rg [] none)
(.seq (.rg [80, 144, 192, 240, 256] (some (.op ⟨[16], []⟩ (.op ⟨[16], []⟩ (.op ⟨[80], [80]⟩ (.op ⟨[16], []⟩ (.op ⟨[16], []⟩ (.op ⟨[], []⟩ (.op ⟨[144], [144]⟩ (.op ⟨[16], []⟩ (.op ⟨[16], []⟩ (.op ⟨[192], [192]⟩ (.op ⟨[16], []⟩ (.op ⟨[16], []⟩ (.op ⟨[240], [240]⟩ (.op ⟨[80, 144, 192, 240, 256], [80, 144, 192, 240, 256]⟩ (.op ⟨[256, 272], [256, 272]⟩ (.op ⟨[], []⟩ .done))))))))))))))))))
.leaf))
theorem iu_PutManage_Eok : EnvOk Try.prog iu_PutManage_E := env_ok tab_ok (by simp) (allFn_mem (show AllFn Try.prog iu_PutManage_fns from ⟨iu_head_ok, iu_put_ok, iu_place_ok, slices_Concat_byte_ok, trivial⟩)) mixed (by kernel_rfl) (by kernel_rfl) (by kernel_rfl)
theorem iu_PutManage_eq (x : (Int × (Int × (Int × (Int × Unit))))) : evF iu_PutManage_E 18 (bd Try.f39) [.val T36] [.tmp 2 ((.sl (.int .u8)), .full)] iu_PutManage_an x = iu_PutManage x := by kernel_rfl
theorem iu_PutManage_ok : FnOk Try.prog 39 { args := [.val T36], res := [((.sl (.int .u8)), .full)], f := iu_PutManage } :=
  fn_ok iu_PutManage_Eok Try.func39 rfl (by kernel_rfl) (by kernel_rfl) (by kernel_rfl) (rs := [.tmp 2 ((.sl (.int .u8)), .full)]) (c := bd Try.f39) (an := iu_PutManage_an) (ob_flat _ _ _ _ _ _ _ (by kernel_rfl)) iu_PutManage_eq
/-! host_Manage: function 21 -/
noncomputable def host_Manage_fns : List (Nat × Fun) := [(39, { args := [.val T36], res := [((.sl (.int .u8)), .full)], f := iu_PutManage }), (30, { args := [.val (.int .i64), .val (.int .i64), .val (.int .i64), .val (.sl (.int .u8))], res := [(T41, .view)], f := host_send })]
noncomputable def host_Manage_E : Env := { ty := Re.look tyTab, eq := fun n => memB n [], fn := Re.look host_Manage_fns, cut := fun n => memB n [], win := fun n => memB n [], one := fun n => memB n [], onc := fun n => memB n [], pre := fun n => memB n [], ptr := fun n => memB n [], psl := fun n => memB n [], parr := Re.look [] }
noncomputable def host_Manage_an : An (Ds ((([.cell 6 T41] : List RV).map RV.pm).map (·.1) ++ ioTys [.val (.int .i64), .val (.int .i64), .val T36])) :=
(.seq (.rg [] none)
(.seq (.rg [] none)
.leaf))
theorem host_Manage_Eok : EnvOk Try.prog host_Manage_E := env_ok tab_ok (by simp) (allFn_mem (show AllFn Try.prog host_Manage_fns from ⟨iu_PutManage_ok, host_send_ok, trivial⟩)) mixed (by kernel_rfl) (by kernel_rfl) (by kernel_rfl)
theorem host_Manage_eq (x : Int × Int × (Int × (Int × (Int × (Int × Unit))))) : evF host_Manage_E 12 (bd Try.f21) [.val (.int .i64), .val (.int .i64), .val T36] [.cell 6 T41] host_Manage_an x = host_Manage x := by kernel_rfl
theorem host_Manage_ok : FnOk Try.prog 21 { args := [.val (.int .i64), .val (.int .i64), .val T36], res := [(T41, .view)], f := host_Manage } :=
  fn_ok host_Manage_Eok Try.func21 rfl (by kernel_rfl) (by kernel_rfl) (by kernel_rfl) (rs := [.cell 6 T41]) (c := bd Try.f21) (an := host_Manage_an) (ob_flat _ _ _ _ _ _ _ (by kernel_rfl)) host_Manage_eq
/-! reticulelaw27_alive: function 8 -/
noncomputable def reticulelaw27_alive_fns : List (Nat × Fun) := [(10, { args := [.val (.int .i64), .val T22], res := [((.sl T41), .full)], f := host_Transfer }), (16, { args := [.val (.int .i64), .val (.int .i64), .val T34], res := [(T41, .view), (.bool, .view)], f := host_Wrapper }), (23, { args := [.val (.int .i64), .val (.int .i64), .val (.int .i64)], res := [(T41, .view)], f := host_Ask }), (12, { args := [.val (.int .i64), .val (.int .i64)], res := [((.sl T41), .full)], f := host_Enumerate }), (14, { args := [.val (.int .i64)], res := [((.sl T41), .full)], f := host_Recover }), (19, { args := [.val (.int .i64), .val (.int .i64), .val T52], res := [(T41, .view)], f := host_Command }), (21, { args := [.val (.int .i64), .val (.int .i64), .val T36], res := [(T41, .view)], f := host_Manage })]
noncomputable def reticulelaw27_alive_E : Env := { ty := Re.look tyTab, eq := fun n => memB n [], fn := Re.look reticulelaw27_alive_fns, cut := fun n => memB n [], win := fun n => memB n [], one := fun n => memB n [], onc := fun n => memB n [], pre := fun n => memB n [], ptr := fun n => memB n [], psl := fun n => memB n [], parr := Re.look [] }
noncomputable def reticulelaw27_alive_an : An (Ds ((([.tmp 0 (.bool, .view)] : List RV).map RV.pm).map (·.1) ++ ioTys [])) :=
(.seq (.rg [] none)
(.seq (.rg [] none)
(.seq (.rg [] none)
(.seq (.rg [] none)
(.seq (.rg [] none)
(.seq (.seq (.rg [] (some (.op ⟨[], []⟩ (.op ⟨[], []⟩ (.op ⟨[], []⟩ (.split 23 [(25, .bool)] (.op ⟨[], []⟩ (.op ⟨[], []⟩ .done)) (.op ⟨[], []⟩ (.split 26 [(30, .bool)] (.op ⟨[], []⟩ (.op ⟨[128], []⟩ (.op ⟨[], []⟩ (.op ⟨[], []⟩ .done)))) (.op ⟨[], []⟩ (.split 31 [(36, .bool)] (.op ⟨[32], []⟩ (.op ⟨[32], []⟩ (.op ⟨[], []⟩ (.op ⟨[], []⟩ (.op ⟨[], []⟩ .done))))) .done))))))))))
(.cond (.seq (.rg [] none)
.leaf) .leaf))
(.seq (.rg [] (some (.op ⟨[], []⟩ (.op ⟨[128], []⟩ (.op ⟨[128], []⟩ (.op ⟨[128], []⟩ (.op ⟨[], []⟩ (.op ⟨[], []⟩ (.split 42 [(48, .bool)] (.op ⟨[], []⟩ (.op ⟨[128], []⟩ (.op ⟨[128], []⟩ (.op ⟨[128], []⟩ (.op ⟨[], []⟩ (.op ⟨[], []⟩ .done)))))) (.op ⟨[], []⟩ (.split 49 [(54, .bool)] (.op ⟨[], []⟩ (.op ⟨[128], []⟩ (.op ⟨[128], []⟩ (.op ⟨[128], []⟩ (.op ⟨[], []⟩ .done))))) (.op ⟨[], []⟩ (.split 55 [(61, .bool)] (.op ⟨[], []⟩ (.op ⟨[128], []⟩ (.op ⟨[128], []⟩ (.op ⟨[128], []⟩ (.op ⟨[], []⟩ (.op ⟨[], []⟩ .done)))))) (.op ⟨[], []⟩ (.split 62 [(68, .bool)] (.op ⟨[], []⟩ (.op ⟨[128], []⟩ (.op ⟨[128], []⟩ (.op ⟨[128], []⟩ (.op ⟨[], []⟩ (.op ⟨[], []⟩ .done)))))) (.op ⟨[], []⟩ (.split 69 [(75, .bool)] (.op ⟨[], []⟩ (.op ⟨[128], []⟩ (.op ⟨[128], []⟩ (.op ⟨[128], []⟩ (.op ⟨[], []⟩ (.op ⟨[], []⟩ .done)))))) (.op ⟨[], []⟩ (.split 76 [(80, .bool)] (.op ⟨[32], []⟩ (.op ⟨[32], []⟩ (.op ⟨[], []⟩ (.op ⟨[], []⟩ .done)))) (.op ⟨[], []⟩ (.split 81 [(85, .bool)] (.op ⟨[32], []⟩ (.op ⟨[32], []⟩ (.op ⟨[], []⟩ (.op ⟨[], []⟩ .done)))) (.op ⟨[], []⟩ (.split 86 [(90, .bool)] (.op ⟨[96], []⟩ (.op ⟨[96], []⟩ (.op ⟨[], []⟩ (.op ⟨[], []⟩ .done)))) (.op ⟨[], []⟩ (.split 91 [(95, .bool)] (.op ⟨[96], []⟩ (.op ⟨[96], []⟩ (.op ⟨[], []⟩ (.op ⟨[], []⟩ .done)))) (.op ⟨[], []⟩ (.split 96 [(100, .bool)] (.op ⟨[96], []⟩ (.op ⟨[96], []⟩ (.op ⟨[], []⟩ (.op ⟨[], []⟩ .done)))) (.op ⟨[], []⟩ (.split 101 [(104, .bool)] (.op ⟨[96], []⟩ (.op ⟨[96], []⟩ (.op ⟨[], []⟩ .done))) (.op ⟨[], []⟩ (.split 105 [(109, .bool)] (.op ⟨[1696], [1696]⟩ (.op ⟨[1696], []⟩ (.op ⟨[], []⟩ (.op ⟨[], []⟩ .done)))) (.op ⟨[], []⟩ (.split 110 [(114, .bool)] (.op ⟨[1776], [1776]⟩ (.op ⟨[1776], []⟩ (.op ⟨[], []⟩ (.op ⟨[], []⟩ .done)))) (.op ⟨[], []⟩ (.split 115 [(121, .bool)] (.op ⟨[], []⟩ (.op ⟨[1872], []⟩ (.op ⟨[], []⟩ (.op ⟨[], []⟩ (.op ⟨[], []⟩ (.op ⟨[], []⟩ .done)))))) (.op ⟨[], []⟩ (.split 122 [(128, .bool)] (.op ⟨[], []⟩ (.op ⟨[1984], []⟩ (.op ⟨[], []⟩ (.op ⟨[], []⟩ (.op ⟨[], []⟩ (.op ⟨[], []⟩ .done)))))) (.op ⟨[], []⟩ .done))))))))))))))))))))))))))))))))))))))
.leaf)))))))
theorem reticulelaw27_alive_Eok : EnvOk Try.prog reticulelaw27_alive_E := env_ok tab_ok (by simp) (allFn_mem (show AllFn Try.prog reticulelaw27_alive_fns from ⟨host_Transfer_ok, host_Wrapper_ok, host_Ask_ok, host_Enumerate_ok, host_Recover_ok, host_Command_ok, host_Manage_ok, trivial⟩)) mixed (by kernel_rfl) (by kernel_rfl) (by kernel_rfl)
theorem reticulelaw27_alive_eq (x : Unit) : evF reticulelaw27_alive_E 129 (bd Try.f8) [] [.tmp 0 (.bool, .view)] reticulelaw27_alive_an x = reticulelaw27_alive x := by kernel_rfl
theorem reticulelaw27_alive_ok : FnOk Try.prog 8 { args := [], res := [(.bool, .view)], f := reticulelaw27_alive } :=
  fn_ok reticulelaw27_alive_Eok Try.func8 rfl (by kernel_rfl) (by kernel_rfl) (by kernel_rfl) (rs := [.tmp 0 (.bool, .view)]) (c := bd Try.f8) (an := reticulelaw27_alive_an) (ob_flat _ _ _ _ _ _ _ (by kernel_rfl)) reticulelaw27_alive_eq
/-! reticuleref15_byteful: function 60 -/
noncomputable def reticuleref15_byteful_fns : List (Nat × Fun) := []
noncomputable def reticuleref15_byteful_E : Env := { ty := Re.look tyTab, eq := fun n => memB n [], fn := Re.look reticuleref15_byteful_fns, cut := fun n => memB n [], win := fun n => memB n [], one := fun n => memB n [], onc := fun n => memB n [], pre := fun n => memB n [], ptr := fun n => memB n [], psl := fun n => memB n [], parr := Re.look [] }
noncomputable def reticuleref15_byteful_an : An (Ds ((([.tmp 2 (.bool, .view)] : List RV).map RV.pm).map (·.1) ++ ioTys [.val (.int .i64)])) :=
(.seq (.rg [] none)
(.seq (.rg [] (some (.op ⟨[], []⟩ (.op ⟨[], []⟩ (.op ⟨[], []⟩ (.split 5 [(8, .bool)] (.op ⟨[], []⟩ (.op ⟨[], []⟩ (.op ⟨[], []⟩ .done))) (.op ⟨[], []⟩ .done)))))))
.leaf))
theorem reticuleref15_byteful_Eok : EnvOk Try.prog reticuleref15_byteful_E := env_ok tab_ok (by simp) (allFn_mem (show AllFn Try.prog reticuleref15_byteful_fns from trivial)) mixed (by kernel_rfl) (by kernel_rfl) (by kernel_rfl)
theorem reticuleref15_byteful_eq (x : Int) : evF reticuleref15_byteful_E 9 (bd Try.f60) [.val (.int .i64)] [.tmp 2 (.bool, .view)] reticuleref15_byteful_an x = reticuleref15_byteful x := by kernel_rfl
theorem reticuleref15_byteful_ok : FnOk Try.prog 60 { args := [.val (.int .i64)], res := [(.bool, .view)], f := reticuleref15_byteful } :=
  fn_ok reticuleref15_byteful_Eok Try.func60 rfl (by kernel_rfl) (by kernel_rfl) (by kernel_rfl) (rs := [.tmp 2 (.bool, .view)]) (c := bd Try.f60) (an := reticuleref15_byteful_an) (ob_flat _ _ _ _ _ _ _ (by kernel_rfl)) reticuleref15_byteful_eq
/-! reticuleref15_word: function 61 -/
noncomputable def reticuleref15_word_fns : List (Nat × Fun) := []
noncomputable def reticuleref15_word_E : Env := { ty := Re.look tyTab, eq := fun n => memB n [], fn := Re.look reticuleref15_word_fns, cut := fun n => memB n [], win := fun n => memB n [], one := fun n => memB n [], onc := fun n => memB n [], pre := fun n => memB n [], ptr := fun n => memB n [], psl := fun n => memB n [], parr := Re.look [] }
noncomputable def reticuleref15_word_an : An (Ds ((([.tmp 2 (.bool, .view)] : List RV).map RV.pm).map (·.1) ++ ioTys [.val (.int .i64)])) :=
(.seq (.rg [] none)
(.seq (.rg [] (some (.op ⟨[], []⟩ (.op ⟨[], []⟩ (.op ⟨[], []⟩ (.split 5 [(8, .bool)] (.op ⟨[], []⟩ (.op ⟨[], []⟩ (.op ⟨[], []⟩ .done))) (.op ⟨[], []⟩ .done)))))))
.leaf))
theorem reticuleref15_word_Eok : EnvOk Try.prog reticuleref15_word_E := env_ok tab_ok (by simp) (allFn_mem (show AllFn Try.prog reticuleref15_word_fns from trivial)) mixed (by kernel_rfl) (by kernel_rfl) (by kernel_rfl)
theorem reticuleref15_word_eq (x : Int) : evF reticuleref15_word_E 9 (bd Try.f61) [.val (.int .i64)] [.tmp 2 (.bool, .view)] reticuleref15_word_an x = reticuleref15_word x := by kernel_rfl
theorem reticuleref15_word_ok : FnOk Try.prog 61 { args := [.val (.int .i64)], res := [(.bool, .view)], f := reticuleref15_word } :=
  fn_ok reticuleref15_word_Eok Try.func61 rfl (by kernel_rfl) (by kernel_rfl) (by kernel_rfl) (rs := [.tmp 2 (.bool, .view)]) (c := bd Try.f61) (an := reticuleref15_word_an) (ob_flat _ _ _ _ _ _ _ (by kernel_rfl)) reticuleref15_word_eq
/-! reticuleref15_Right: function 46 -/
noncomputable def reticuleref15_Right_fns : List (Nat × Fun) := [(60, { args := [.val (.int .i64)], res := [(.bool, .view)], f := reticuleref15_byteful }), (61, { args := [.val (.int .i64)], res := [(.bool, .view)], f := reticuleref15_word })]
noncomputable def reticuleref15_Right_E : Env := { ty := Re.look tyTab, eq := fun n => memB n [], fn := Re.look reticuleref15_Right_fns, cut := fun n => memB n [], win := fun n => memB n [], one := fun n => memB n [], onc := fun n => memB n [], pre := fun n => memB n [], ptr := fun n => memB n [], psl := fun n => memB n [], parr := Re.look [] }
noncomputable def reticuleref15_Right_an : An (Ds ((([.tmp 2 (.bool, .view)] : List RV).map RV.pm).map (·.1) ++ ioTys [.val T22])) :=
(.seq (.rg [] none)
(.seq (.rg [] (some (.op ⟨[16], []⟩ (.op ⟨[16], []⟩ (.op ⟨[80], []⟩ (.op ⟨[], []⟩ (.split 6 [(10, .bool)] (.op ⟨[16], []⟩ (.op ⟨[16], []⟩ (.op ⟨[144], []⟩ (.op ⟨[], []⟩ .done)))) (.op ⟨[], []⟩ (.split 11 [(15, .bool)] (.op ⟨[16], []⟩ (.op ⟨[16], []⟩ (.op ⟨[224], []⟩ (.op ⟨[], []⟩ .done)))) (.op ⟨[], []⟩ (.split 16 [(20, .bool)] (.op ⟨[16], []⟩ (.op ⟨[16], []⟩ (.op ⟨[304], []⟩ (.op ⟨[], []⟩ .done)))) (.op ⟨[], []⟩ (.split 21 [(25, .bool)] (.op ⟨[16], []⟩ (.op ⟨[16], []⟩ (.op ⟨[384], []⟩ (.op ⟨[], []⟩ .done)))) (.op ⟨[], []⟩ .done))))))))))))))
.leaf))
theorem reticuleref15_Right_Eok : EnvOk Try.prog reticuleref15_Right_E := env_ok tab_ok (by simp) (allFn_mem (show AllFn Try.prog reticuleref15_Right_fns from ⟨reticuleref15_byteful_ok, reticuleref15_word_ok, trivial⟩)) mixed (by kernel_rfl) (by kernel_rfl) (by kernel_rfl)
theorem reticuleref15_Right_eq (x : (Int × (Int × (Int × (Int × (Int × Unit)))))) : evF reticuleref15_Right_E 26 (bd Try.f46) [.val T22] [.tmp 2 (.bool, .view)] reticuleref15_Right_an x = reticuleref15_Right x := by kernel_rfl
theorem reticuleref15_Right_ok : FnOk Try.prog 46 { args := [.val T22], res := [(.bool, .view)], f := reticuleref15_Right } :=
  fn_ok reticuleref15_Right_Eok Try.func46 rfl (by kernel_rfl) (by kernel_rfl) (by kernel_rfl) (rs := [.tmp 2 (.bool, .view)]) (c := bd Try.f46) (an := reticuleref15_Right_an) (ob_flat _ _ _ _ _ _ _ (by kernel_rfl)) reticuleref15_Right_eq
/-! reticuleref15_Bytes: function 31 -/
noncomputable def reticuleref15_Bytes_fns : List (Nat × Fun) := [(46, { args := [.val T22], res := [(.bool, .view)], f := reticuleref15_Right })]
noncomputable def reticuleref15_Bytes_E : Env := { ty := Re.look tyTab, eq := fun n => memB n [], fn := Re.look reticuleref15_Bytes_fns, cut := fun n => memB n [], win := fun n => memB n [], one := fun n => memB n [], onc := fun n => memB n [], pre := fun n => memB n [], ptr := fun n => memB n [], psl := fun n => memB n [], parr := Re.look [] }
noncomputable def reticuleref15_Bytes_an : An (Ds ((([.tmp 2 ((.sl (.int .u8)), .full), .tmp 3 (.bool, .view)] : List RV).map RV.pm).map (·.1) ++ ioTys [.val T22])) :=
(.seq (.rg [] none)
(.seq (.seq (.rg [] none)
(.cond (.seq (.rg [] none)
.leaf) .leaf))
(.seq (.rg [] none)
.leaf)))
theorem reticuleref15_Bytes_Eok : EnvOk Try.prog reticuleref15_Bytes_E := env_ok tab_ok (by simp) (allFn_mem (show AllFn Try.prog reticuleref15_Bytes_fns from ⟨reticuleref15_Right_ok, trivial⟩)) mixed (by kernel_rfl) (by kernel_rfl) (by kernel_rfl)
theorem reticuleref15_Bytes_eq (x : (Int × (Int × (Int × (Int × (Int × Unit)))))) : evF reticuleref15_Bytes_E 38 (bd Try.f31) [.val T22] [.tmp 2 ((.sl (.int .u8)), .full), .tmp 3 (.bool, .view)] reticuleref15_Bytes_an x = reticuleref15_Bytes x := by kernel_rfl
theorem reticuleref15_Bytes_ok : FnOk Try.prog 31 { args := [.val T22], res := [((.sl (.int .u8)), .full), (.bool, .view)], f := reticuleref15_Bytes } :=
  fn_ok reticuleref15_Bytes_Eok Try.func31 rfl (by kernel_rfl) (by kernel_rfl) (by kernel_rfl) (rs := [.tmp 2 ((.sl (.int .u8)), .full), .tmp 3 (.bool, .view)]) (c := bd Try.f31) (an := reticuleref15_Bytes_an) (ob_flat _ _ _ _ _ _ _ (by kernel_rfl)) reticuleref15_Bytes_eq
/-! reticuleref15_Dir: function 32 -/
noncomputable def reticuleref15_Dir_fns : List (Nat × Fun) := [(46, { args := [.val T22], res := [(.bool, .view)], f := reticuleref15_Right })]
noncomputable def reticuleref15_Dir_E : Env := { ty := Re.look tyTab, eq := fun n => memB n [], fn := Re.look reticuleref15_Dir_fns, cut := fun n => memB n [], win := fun n => memB n [], one := fun n => memB n [], onc := fun n => memB n [], pre := fun n => memB n [], ptr := fun n => memB n [], psl := fun n => memB n [], parr := Re.look [] }
noncomputable def reticuleref15_Dir_an : An (Ds ((([.tmp 2 ((.int .i64), .view)] : List RV).map RV.pm).map (·.1) ++ ioTys [.val T22])) :=
(.seq (.rg [] none)
(.seq (.seq (.rg [] (some (.op ⟨[16], []⟩ (.op ⟨[64], []⟩ (.op ⟨[], []⟩ (.op ⟨[], []⟩ (.split 6 [(10, .bool)] (.op ⟨[16], []⟩ (.op ⟨[16], []⟩ (.op ⟨[], []⟩ (.op ⟨[], []⟩ .done)))) .done)))))))
(.cond (.seq (.rg [] none)
.leaf) .leaf))
(.seq (.seq (.rg [] none)
(.cond (.seq (.rg [] none)
.leaf) .leaf))
(.seq (.rg [] none)
.leaf))))
theorem reticuleref15_Dir_Eok : EnvOk Try.prog reticuleref15_Dir_E := env_ok tab_ok (by simp) (allFn_mem (show AllFn Try.prog reticuleref15_Dir_fns from ⟨reticuleref15_Right_ok, trivial⟩)) mixed (by kernel_rfl) (by kernel_rfl) (by kernel_rfl)
theorem reticuleref15_Dir_eq (x : (Int × (Int × (Int × (Int × (Int × Unit)))))) : evF reticuleref15_Dir_E 14 (bd Try.f32) [.val T22] [.tmp 2 ((.int .i64), .view)] reticuleref15_Dir_an x = reticuleref15_Dir x := by kernel_rfl
theorem reticuleref15_Dir_ok : FnOk Try.prog 32 { args := [.val T22], res := [((.int .i64), .view)], f := reticuleref15_Dir } :=
  fn_ok reticuleref15_Dir_Eok Try.func32 rfl (by kernel_rfl) (by kernel_rfl) (by kernel_rfl) (rs := [.tmp 2 ((.int .i64), .view)]) (c := bd Try.f32) (an := reticuleref15_Dir_an) (ob_flat _ _ _ _ _ _ _ (by kernel_rfl)) reticuleref15_Dir_eq
/-! reticuleref27_Ask: function 24 -/
noncomputable def reticuleref27_Ask_fns : List (Nat × Fun) := []
noncomputable def reticuleref27_Ask_E : Env := { ty := Re.look tyTab, eq := fun n => memB n [], fn := Re.look reticuleref27_Ask_fns, cut := fun n => memB n [], win := fun n => memB n [], one := fun n => memB n [], onc := fun n => memB n [], pre := fun n => memB n [], ptr := fun n => memB n [], psl := fun n => memB n [], parr := Re.look [] }
noncomputable def reticuleref27_Ask_an : An (Ds ((([.cell 6 T41] : List RV).map RV.pm).map (·.1) ++ ioTys [.val (.int .i64), .val (.int .i64), .val (.int .i64)])) :=
(.seq (.rg [] none)
(.seq (.rg [] none)
.leaf))
theorem reticuleref27_Ask_Eok : EnvOk Try.prog reticuleref27_Ask_E := env_ok tab_ok (by simp) (allFn_mem (show AllFn Try.prog reticuleref27_Ask_fns from trivial)) mixed (by kernel_rfl) (by kernel_rfl) (by kernel_rfl)
theorem reticuleref27_Ask_eq (x : Int × Int × Int) : evF reticuleref27_Ask_E 11 (bd Try.f24) [.val (.int .i64), .val (.int .i64), .val (.int .i64)] [.cell 6 T41] reticuleref27_Ask_an x = reticuleref27_Ask x := by kernel_rfl
theorem reticuleref27_Ask_ok : FnOk Try.prog 24 { args := [.val (.int .i64), .val (.int .i64), .val (.int .i64)], res := [(T41, .view)], f := reticuleref27_Ask } :=
  fn_ok reticuleref27_Ask_Eok Try.func24 rfl (by kernel_rfl) (by kernel_rfl) (by kernel_rfl) (rs := [.cell 6 T41]) (c := bd Try.f24) (an := reticuleref27_Ask_an) (ob_flat _ _ _ _ _ _ _ (by kernel_rfl)) reticuleref27_Ask_eq
/-! reticuleref27_Transfer: function 11 -/
noncomputable def reticuleref27_Transfer_fns : List (Nat × Fun) := [(31, { args := [.val T22], res := [((.sl (.int .u8)), .full), (.bool, .view)], f := reticuleref15_Bytes }), (32, { args := [.val T22], res := [((.int .i64), .view)], f := reticuleref15_Dir }), (24, { args := [.val (.int .i64), .val (.int .i64), .val (.int .i64)], res := [(T41, .view)], f := reticuleref27_Ask })]
noncomputable def reticuleref27_Transfer_E : Env := { ty := Re.look tyTab, eq := fun n => memB n [], fn := Re.look reticuleref27_Transfer_fns, cut := fun n => memB n [], win := fun n => memB n [], one := fun n => memB n [], onc := fun n => memB n [], pre := fun n => memB n [], ptr := fun n => memB n [], psl := fun n => memB n [], parr := Re.look [] }
noncomputable def reticuleref27_Transfer_an : An (Ds ((([.tmp 4 ((.sl T41), .full)] : List RV).map RV.pm).map (·.1) ++ ioTys [.val (.int .i64), .val T22])) :=
(.seq (.rg [] none)
(.seq (.rg [] none)
(.seq (.seq (.rg [] none)
(.cond (.seq (.rg [] none)
.leaf) .leaf))
(.seq (.rg [] none)
(.seq (.seq (.rg [] none)
(.block (.seq (.rg [] none)
(.cond (.seq (.rg [] none)
.leaf) (.seq (.rg [] none)
(.cond (.seq (.rg [] none)
.leaf) .leaf))))))
(.seq (.seq (.rg [] none)
(.loop [.val 0 (.int .i64), .box 3 T22, .row 7 T41 .full, .val 8 (.int .i64)] [.val 0 (.int .i64), .row 7 T41 .full] reticuleref27_Transfer_L0
(.seq (.seq (.rg [] none)
(.cond .leaf .leaf))
(.seq (.block (.rg [] none))
(.rg [] none)))))
(.seq (.rg [] none)
.leaf)))))))
theorem reticuleref27_Transfer_Eok : EnvOk Try.prog reticuleref27_Transfer_E := env_ok tab_ok (by simp) (allFn_mem (show AllFn Try.prog reticuleref27_Transfer_fns from ⟨reticuleref15_Bytes_ok, reticuleref15_Dir_ok, reticuleref27_Ask_ok, trivial⟩)) mixed (by kernel_rfl) (by kernel_rfl) (by kernel_rfl)
theorem reticuleref27_Transfer_eq (x : Int × (Int × (Int × (Int × (Int × (Int × Unit)))))) : evF reticuleref27_Transfer_E 48 (bd Try.f11) [.val (.int .i64), .val T22] [.tmp 4 ((.sl T41), .full)] reticuleref27_Transfer_an x = reticuleref27_Transfer x := by kernel_rfl
theorem reticuleref27_Transfer_ok : FnOk Try.prog 11 { args := [.val (.int .i64), .val T22], res := [((.sl T41), .full)], f := reticuleref27_Transfer } :=
  fn_ok reticuleref27_Transfer_Eok Try.func11 rfl (by kernel_rfl) (by kernel_rfl) (by kernel_rfl) (rs := [.tmp 4 ((.sl T41), .full)]) (c := bd Try.f11) (an := reticuleref27_Transfer_an) (show obF reticuleref27_Transfer_E 48 (bd Try.f11) [.val (.int .i64), .val T22] [.tmp 4 ((.sl T41), .full)] reticuleref27_Transfer_an from (And.intro trivial (And.intro trivial (And.intro (And.intro trivial (And.intro (And.intro trivial trivial) trivial)) (And.intro trivial (And.intro (And.intro trivial (And.intro trivial (And.intro (And.intro trivial trivial) (And.intro trivial (And.intro (And.intro trivial trivial) trivial))))) (And.intro (And.intro trivial (And.intro (fun _ => rfl) (And.intro (fun n j => by kernel_rfl) (fun n => (And.intro (And.intro trivial (And.intro trivial trivial)) (And.intro trivial trivial)))))) (And.intro trivial trivial)))))))) reticuleref27_Transfer_eq
/-! reticuleref13_One: function 18 -/
noncomputable def reticuleref13_One_fns : List (Nat × Fun) := []
noncomputable def reticuleref13_One_E : Env := { ty := Re.look tyTab, eq := fun n => memB n [], fn := Re.look reticuleref13_One_fns, cut := fun n => memB n [], win := fun n => memB n [], one := fun n => memB n [], onc := fun n => memB n [], pre := fun n => memB n [], ptr := fun n => memB n [], psl := fun n => memB n [], parr := Re.look [] }
noncomputable def reticuleref13_One_an : An (Ds ((([.tmp 4 (.bool, .view)] : List RV).map RV.pm).map (·.1) ++ ioTys [.val T41, .val T41])) :=
(.seq (.rg [] none)
(.seq (.rg [] (some (.op ⟨[32], []⟩ (.op ⟨[32], []⟩ (.op ⟨[48], []⟩ (.op ⟨[48], []⟩ (.op ⟨[], []⟩ (.op ⟨[], []⟩ (.split 10 [(16, .bool)] (.op ⟨[32], []⟩ (.op ⟨[32], []⟩ (.op ⟨[48], []⟩ (.op ⟨[48], []⟩ (.op ⟨[], []⟩ (.op ⟨[], []⟩ .done)))))) (.op ⟨[], []⟩ (.split 17 [(23, .bool)] (.op ⟨[32], []⟩ (.op ⟨[32], []⟩ (.op ⟨[48], []⟩ (.op ⟨[48], []⟩ (.op ⟨[], []⟩ (.op ⟨[], []⟩ .done)))))) (.op ⟨[], []⟩ (.split 24 [(30, .bool)] (.op ⟨[32], []⟩ (.op ⟨[32], []⟩ (.op ⟨[48], []⟩ (.op ⟨[48], []⟩ (.op ⟨[], []⟩ (.op ⟨[], []⟩ .done)))))) (.op ⟨[], []⟩ (.split 31 [(37, .bool)] (.op ⟨[32], []⟩ (.op ⟨[32], []⟩ (.op ⟨[48], []⟩ (.op ⟨[48], []⟩ (.op ⟨[], []⟩ (.op ⟨[], []⟩ .done)))))) (.op ⟨[], []⟩ (.split 38 [(44, .bool)] (.op ⟨[32], []⟩ (.op ⟨[32], []⟩ (.op ⟨[48], []⟩ (.op ⟨[48], []⟩ (.op ⟨[], []⟩ (.op ⟨[], []⟩ .done)))))) (.op ⟨[], []⟩ (.split 45 [(51, .bool)] (.op ⟨[32], []⟩ (.op ⟨[32], []⟩ (.op ⟨[48], []⟩ (.op ⟨[48], []⟩ (.op ⟨[], []⟩ (.op ⟨[], []⟩ .done)))))) (.op ⟨[], []⟩ (.split 52 [(58, .bool)] (.op ⟨[32], []⟩ (.op ⟨[32], []⟩ (.op ⟨[48], []⟩ (.op ⟨[48], []⟩ (.op ⟨[], []⟩ (.op ⟨[], []⟩ .done)))))) (.op ⟨[], []⟩ (.split 59 [(67, .bool)] (.op ⟨[32], []⟩ (.op ⟨[32], []⟩ (.op ⟨[], []⟩ (.op ⟨[48], []⟩ (.op ⟨[48], []⟩ (.op ⟨[], []⟩ (.op ⟨[], []⟩ (.op ⟨[], []⟩ .done)))))))) (.op ⟨[], []⟩ .done))))))))))))))))))))))))
.leaf))
theorem reticuleref13_One_Eok : EnvOk Try.prog reticuleref13_One_E := env_ok tab_ok (by simp) (allFn_mem (show AllFn Try.prog reticuleref13_One_fns from trivial)) mixed (by kernel_rfl) (by kernel_rfl) (by kernel_rfl)
theorem reticuleref13_One_eq (x : (Int × (Int × (Int × (Int × (Int × (Bool × (Int × (BitVec 64 × (List (BitVec 8) × Unit))))))))) × (Int × (Int × (Int × (Int × (Int × (Bool × (Int × (BitVec 64 × (List (BitVec 8) × Unit)))))))))) : evF reticuleref13_One_E 68 (bd Try.f18) [.val T41, .val T41] [.tmp 4 (.bool, .view)] reticuleref13_One_an x = reticuleref13_One x := by kernel_rfl
theorem reticuleref13_One_ok : FnOk Try.prog 18 { args := [.val T41, .val T41], res := [(.bool, .view)], f := reticuleref13_One } :=
  fn_ok reticuleref13_One_Eok Try.func18 rfl (by kernel_rfl) (by kernel_rfl) (by kernel_rfl) (rs := [.tmp 4 (.bool, .view)]) (c := bd Try.f18) (an := reticuleref13_One_an) (ob_flat _ _ _ _ _ _ _ (by kernel_rfl)) reticuleref13_One_eq
/-! reticuleref13_Same: function 9 -/
noncomputable def reticuleref13_Same_fns : List (Nat × Fun) := [(18, { args := [.val T41, .val T41], res := [(.bool, .view)], f := reticuleref13_One })]
noncomputable def reticuleref13_Same_E : Env := { ty := Re.look tyTab, eq := fun n => memB n [], fn := Re.look reticuleref13_Same_fns, cut := fun n => memB n [], win := fun n => memB n [], one := fun n => memB n [], onc := fun n => memB n [], pre := fun n => memB n [], ptr := fun n => memB n [], psl := fun n => memB n [], parr := Re.look [] }
noncomputable def reticuleref13_Same_an : An (Ds ((([.tmp 4 (.bool, .view)] : List RV).map RV.pm).map (·.1) ++ ioTys [.val (.sl T41), .val (.sl T41)])) :=
(.seq (.rg [] none)
(.seq (.seq (.rg [] none)
(.cond (.seq (.rg [] none)
.leaf) .leaf))
(.seq (.seq (.rg [] none)
(.loop [.val 0 (.sl T41), .val 1 (.sl T41), .val 5 (.int .i64)] [] reticuleref13_Same_L0
(.seq (.seq (.rg [] none)
(.cond .leaf .leaf))
(.seq (.block (.seq (.rg [] (some (.op ⟨[], []⟩ (.op ⟨[], []⟩ (.op ⟨[], []⟩ (.op ⟨[], []⟩ (.op ⟨[], []⟩ (.op ⟨[], []⟩ (.op ⟨[], []⟩ (.op ⟨[], []⟩ (.op ⟨[400], []⟩ (.op ⟨[], []⟩ .done))))))))))))
(.cond (.seq (.rg [] none)
.leaf) .leaf)))
(.rg [] none)))))
(.seq (.rg [] none)
.leaf))))
theorem reticuleref13_Same_Eok : EnvOk Try.prog reticuleref13_Same_E := env_ok tab_ok (by simp) (allFn_mem (show AllFn Try.prog reticuleref13_Same_fns from ⟨reticuleref13_One_ok, trivial⟩)) mixed (by kernel_rfl) (by kernel_rfl) (by kernel_rfl)
theorem reticuleref13_Same_eq (x : (List (Int × (Int × (Int × (Int × (Int × (Bool × (Int × (BitVec 64 × (List (BitVec 8) × Unit)))))))))) × (List (Int × (Int × (Int × (Int × (Int × (Bool × (Int × (BitVec 64 × (List (BitVec 8) × Unit))))))))))) : evF reticuleref13_Same_E 27 (bd Try.f9) [.val (.sl T41), .val (.sl T41)] [.tmp 4 (.bool, .view)] reticuleref13_Same_an x = reticuleref13_Same x := by kernel_rfl
theorem reticuleref13_Same_ok : FnOk Try.prog 9 { args := [.val (.sl T41), .val (.sl T41)], res := [(.bool, .view)], f := reticuleref13_Same } :=
  fn_ok reticuleref13_Same_Eok Try.func9 rfl (by kernel_rfl) (by kernel_rfl) (by kernel_rfl) (rs := [.tmp 4 (.bool, .view)]) (c := bd Try.f9) (an := reticuleref13_Same_an) (show obF reticuleref13_Same_E 27 (bd Try.f9) [.val (.sl T41), .val (.sl T41)] [.tmp 4 (.bool, .view)] reticuleref13_Same_an from (And.intro trivial (And.intro (And.intro trivial (And.intro (And.intro trivial trivial) trivial)) (And.intro (And.intro trivial (And.intro (fun _ => rfl) (And.intro (fun n j => by kernel_rfl) (fun n => (And.intro (And.intro trivial (And.intro trivial trivial)) (And.intro (And.intro trivial (And.intro (And.intro trivial trivial) trivial)) trivial)))))) (And.intro trivial trivial))))) reticuleref13_Same_eq
/-! reticulelaw27_HostTransfers: function 3 -/
noncomputable def reticulelaw27_HostTransfers_fns : List (Nat × Fun) := [(8, { args := [], res := [(.bool, .view)], f := reticulelaw27_alive }), (10, { args := [.val (.int .i64), .val T22], res := [((.sl T41), .full)], f := host_Transfer }), (11, { args := [.val (.int .i64), .val T22], res := [((.sl T41), .full)], f := reticuleref27_Transfer }), (9, { args := [.val (.sl T41), .val (.sl T41)], res := [(.bool, .view)], f := reticuleref13_Same })]
noncomputable def reticulelaw27_HostTransfers_E : Env := { ty := Re.look tyTab, eq := fun n => memB n [], fn := Re.look reticulelaw27_HostTransfers_fns, cut := fun n => memB n [], win := fun n => memB n [], one := fun n => memB n [], onc := fun n => memB n [], pre := fun n => memB n [], ptr := fun n => memB n [], psl := fun n => memB n [], parr := Re.look [] }
noncomputable def reticulelaw27_HostTransfers_an : An (Ds ((([.tmp 4 (.bool, .view)] : List RV).map RV.pm).map (·.1) ++ ioTys [.val (.int .i64), .val T22])) :=
(.seq (.rg [] none)
(.seq (.seq (.rg [] none)
(.cond (.seq (.rg [] none)
.leaf) .leaf))
(.seq (.rg [144, 192] (some (.op ⟨[], []⟩ (.op ⟨[48], []⟩ (.op ⟨[144], [144]⟩ (.op ⟨[], []⟩ (.op ⟨[48], []⟩ (.op ⟨[192], [192]⟩ (.op ⟨[144, 192, 208], [144, 192]⟩ (.op ⟨[], []⟩ .done))))))))))
.leaf)))
theorem reticulelaw27_HostTransfers_Eok : EnvOk Try.prog reticulelaw27_HostTransfers_E := env_ok tab_ok (by simp) (allFn_mem (show AllFn Try.prog reticulelaw27_HostTransfers_fns from ⟨reticulelaw27_alive_ok, host_Transfer_ok, reticuleref27_Transfer_ok, reticuleref13_Same_ok, trivial⟩)) mixed (by kernel_rfl) (by kernel_rfl) (by kernel_rfl)
theorem reticulelaw27_HostTransfers_eq (x : Int × (Int × (Int × (Int × (Int × (Int × Unit)))))) : evF reticulelaw27_HostTransfers_E 14 (bd Try.f3) [.val (.int .i64), .val T22] [.tmp 4 (.bool, .view)] reticulelaw27_HostTransfers_an x = reticulelaw27_HostTransfers x := by kernel_rfl
theorem reticulelaw27_HostTransfers_ok : FnOk Try.prog 3 { args := [.val (.int .i64), .val T22], res := [(.bool, .view)], f := reticulelaw27_HostTransfers } :=
  fn_ok reticulelaw27_HostTransfers_Eok Try.func3 rfl (by kernel_rfl) (by kernel_rfl) (by kernel_rfl) (rs := [.tmp 4 (.bool, .view)]) (c := bd Try.f3) (an := reticulelaw27_HostTransfers_an) (ob_flat _ _ _ _ _ _ _ (by kernel_rfl)) reticulelaw27_HostTransfers_eq
/-! reticuleref27_Enumerate: function 13 -/
noncomputable def reticuleref27_Enumerate_fns : List (Nat × Fun) := [(11, { args := [.val (.int .i64), .val T22], res := [((.sl T41), .full)], f := reticuleref27_Transfer })]
noncomputable def reticuleref27_Enumerate_E : Env := { ty := Re.look tyTab, eq := fun n => memB n [], fn := Re.look reticuleref27_Enumerate_fns, cut := fun n => memB n [], win := fun n => memB n [], one := fun n => memB n [], onc := fun n => memB n [], pre := fun n => memB n [], ptr := fun n => memB n [], psl := fun n => memB n [], parr := Re.look [] }
noncomputable def reticuleref27_Enumerate_an : An (Ds ((([.tmp 4 ((.sl T41), .full)] : List RV).map RV.pm).map (·.1) ++ ioTys [.val (.int .i64), .val (.int .i64)])) :=
(.seq (.rg [] none)
(.seq (.rg [] none)
(.seq (.rg [] none)
(.seq (.rg [] none)
(.join [.row 5 T41 .full]
(.seq (.rg [] none)
(.cond (.rg [] none) .leaf))
(.seq (.rg [] none)
.leaf))))))
theorem reticuleref27_Enumerate_Eok : EnvOk Try.prog reticuleref27_Enumerate_E := env_ok tab_ok (by simp) (allFn_mem (show AllFn Try.prog reticuleref27_Enumerate_fns from ⟨reticuleref27_Transfer_ok, trivial⟩)) mixed (by kernel_rfl) (by kernel_rfl) (by kernel_rfl)
theorem reticuleref27_Enumerate_eq (x : Int × Int) : evF reticuleref27_Enumerate_E 27 (bd Try.f13) [.val (.int .i64), .val (.int .i64)] [.tmp 4 ((.sl T41), .full)] reticuleref27_Enumerate_an x = reticuleref27_Enumerate x := by kernel_rfl
theorem reticuleref27_Enumerate_ok : FnOk Try.prog 13 { args := [.val (.int .i64), .val (.int .i64)], res := [((.sl T41), .full)], f := reticuleref27_Enumerate } :=
  fn_ok reticuleref27_Enumerate_Eok Try.func13 rfl (by kernel_rfl) (by kernel_rfl) (by kernel_rfl) (rs := [.tmp 4 ((.sl T41), .full)]) (c := bd Try.f13) (an := reticuleref27_Enumerate_an) (ob_flat _ _ _ _ _ _ _ (by kernel_rfl)) reticuleref27_Enumerate_eq
/-! reticuleref27_Recover: function 15 -/
noncomputable def reticuleref27_Recover_fns : List (Nat × Fun) := [(11, { args := [.val (.int .i64), .val T22], res := [((.sl T41), .full)], f := reticuleref27_Transfer })]
noncomputable def reticuleref27_Recover_E : Env := { ty := Re.look tyTab, eq := fun n => memB n [], fn := Re.look reticuleref27_Recover_fns, cut := fun n => memB n [], win := fun n => memB n [], one := fun n => memB n [], onc := fun n => memB n [], pre := fun n => memB n [], ptr := fun n => memB n [], psl := fun n => memB n [], parr := Re.look [] }
noncomputable def reticuleref27_Recover_an : An (Ds ((([.tmp 2 ((.sl T41), .full)] : List RV).map RV.pm).map (·.1) ++ ioTys [.val (.int .i64)])) :=
(.seq (.rg [] none)
(.seq (.rg [] none)
(.seq (.rg [] none)
(.seq (.rg [] none)
.leaf))))
theorem reticuleref27_Recover_Eok : EnvOk Try.prog reticuleref27_Recover_E := env_ok tab_ok (by simp) (allFn_mem (show AllFn Try.prog reticuleref27_Recover_fns from ⟨reticuleref27_Transfer_ok, trivial⟩)) mixed (by kernel_rfl) (by kernel_rfl) (by kernel_rfl)
theorem reticuleref27_Recover_eq (x : Int) : evF reticuleref27_Recover_E 17 (bd Try.f15) [.val (.int .i64)] [.tmp 2 ((.sl T41), .full)] reticuleref27_Recover_an x = reticuleref27_Recover x := by kernel_rfl
theorem reticuleref27_Recover_ok : FnOk Try.prog 15 { args := [.val (.int .i64)], res := [((.sl T41), .full)], f := reticuleref27_Recover } :=
  fn_ok reticuleref27_Recover_Eok Try.func15 rfl (by kernel_rfl) (by kernel_rfl) (by kernel_rfl) (rs := [.tmp 2 ((.sl T41), .full)]) (c := bd Try.f15) (an := reticuleref27_Recover_an) (ob_flat _ _ _ _ _ _ _ (by kernel_rfl)) reticuleref27_Recover_eq
/-! reticulelaw27_HostBegins: function 4 -/
noncomputable def reticulelaw27_HostBegins_fns : List (Nat × Fun) := [(8, { args := [], res := [(.bool, .view)], f := reticulelaw27_alive }), (12, { args := [.val (.int .i64), .val (.int .i64)], res := [((.sl T41), .full)], f := host_Enumerate }), (13, { args := [.val (.int .i64), .val (.int .i64)], res := [((.sl T41), .full)], f := reticuleref27_Enumerate }), (9, { args := [.val (.sl T41), .val (.sl T41)], res := [(.bool, .view)], f := reticuleref13_Same }), (14, { args := [.val (.int .i64)], res := [((.sl T41), .full)], f := host_Recover }), (15, { args := [.val (.int .i64)], res := [((.sl T41), .full)], f := reticuleref27_Recover })]
noncomputable def reticulelaw27_HostBegins_E : Env := { ty := Re.look tyTab, eq := fun n => memB n [], fn := Re.look reticulelaw27_HostBegins_fns, cut := fun n => memB n [], win := fun n => memB n [], one := fun n => memB n [], onc := fun n => memB n [], pre := fun n => memB n [], ptr := fun n => memB n [], psl := fun n => memB n [], parr := Re.look [] }
noncomputable def reticulelaw27_HostBegins_an : An (Ds ((([.tmp 4 (.bool, .view)] : List RV).map RV.pm).map (·.1) ++ ioTys [.val (.int .i64), .val (.int .i64)])) :=
(.seq (.rg [] none)
(.seq (.seq (.rg [] none)
(.cond (.seq (.rg [] none)
.leaf) .leaf))
(.seq (.rg [256, 288] (some (.op ⟨[], []⟩ (.op ⟨[], []⟩ (.op ⟨[144], [144]⟩ (.op ⟨[], []⟩ (.op ⟨[], []⟩ (.op ⟨[192], [192]⟩ (.op ⟨[144, 192, 208], [144, 192]⟩ (.op ⟨[], []⟩ (.split 14 [(20, .bool)] (.op ⟨[], []⟩ (.op ⟨[256], [256]⟩ (.op ⟨[], []⟩ (.op ⟨[288], [288]⟩ (.op ⟨[256, 288, 304], [256, 288]⟩ (.op ⟨[], []⟩ .done)))))) (.op ⟨[], []⟩ .done))))))))))))
.leaf)))
theorem reticulelaw27_HostBegins_Eok : EnvOk Try.prog reticulelaw27_HostBegins_E := env_ok tab_ok (by simp) (allFn_mem (show AllFn Try.prog reticulelaw27_HostBegins_fns from ⟨reticulelaw27_alive_ok, host_Enumerate_ok, reticuleref27_Enumerate_ok, reticuleref13_Same_ok, host_Recover_ok, reticuleref27_Recover_ok, trivial⟩)) mixed (by kernel_rfl) (by kernel_rfl) (by kernel_rfl)
theorem reticulelaw27_HostBegins_eq (x : Int × Int) : evF reticulelaw27_HostBegins_E 21 (bd Try.f4) [.val (.int .i64), .val (.int .i64)] [.tmp 4 (.bool, .view)] reticulelaw27_HostBegins_an x = reticulelaw27_HostBegins x := by kernel_rfl
theorem reticulelaw27_HostBegins_ok : FnOk Try.prog 4 { args := [.val (.int .i64), .val (.int .i64)], res := [(.bool, .view)], f := reticulelaw27_HostBegins } :=
  fn_ok reticulelaw27_HostBegins_Eok Try.func4 rfl (by kernel_rfl) (by kernel_rfl) (by kernel_rfl) (rs := [.tmp 4 (.bool, .view)]) (c := bd Try.f4) (an := reticulelaw27_HostBegins_an) (ob_flat _ _ _ _ _ _ _ (by kernel_rfl)) reticulelaw27_HostBegins_eq
/-! reticuleref01_PutLittle: function 49 -/
noncomputable def reticuleref01_PutLittle_fns : List (Nat × Fun) := []
noncomputable def reticuleref01_PutLittle_E : Env := { ty := Re.look tyTab, eq := fun n => memB n [], fn := Re.look reticuleref01_PutLittle_fns, cut := fun n => memB n [], win := fun n => memB n [], one := fun n => memB n [], onc := fun n => memB n [], pre := fun n => memB n [], ptr := fun n => memB n [], psl := fun n => memB n [], parr := Re.look [] }
noncomputable def reticuleref01_PutLittle_an : An (Ds ((([.tmp 4 ((.sl (.int .u8)), .full)] : List RV).map RV.pm).map (·.1) ++ ioTys [.val (.int .u64), .val (.int .i64)])) :=
(.seq (.rg [] none)
(.seq (.seq (.rg [] (some (.op ⟨[], []⟩ (.op ⟨[], []⟩ (.op ⟨[], []⟩ (.split 9 [(12, .bool)] (.op ⟨[], []⟩ (.op ⟨[], []⟩ (.op ⟨[], []⟩ .done))) .done))))))
(.cond (.seq (.rg [] none)
.leaf) .leaf))
(.seq (.rg [] none)
(.seq (.seq (.rg [] none)
(.loop [.val 0 (.int .u64), .val 1 (.int .i64), .row 5 (.int .u8) .full, .val 6 (.int .i64)] [.row 5 (.int .u8) .full] reticuleref01_PutLittle_L0
(.seq (.seq (.rg [] none)
(.cond .leaf .leaf))
(.seq (.block (.seq (.rg [] none)
(.rg [] none)))
(.rg [] none)))))
(.seq (.rg [] none)
.leaf)))))
theorem reticuleref01_PutLittle_Eok : EnvOk Try.prog reticuleref01_PutLittle_E := env_ok tab_ok (by simp) (allFn_mem (show AllFn Try.prog reticuleref01_PutLittle_fns from trivial)) mixed (by kernel_rfl) (by kernel_rfl) (by kernel_rfl)
theorem reticuleref01_PutLittle_eq (x : (BitVec 64) × Int) : evF reticuleref01_PutLittle_E 29 (bd Try.f49) [.val (.int .u64), .val (.int .i64)] [.tmp 4 ((.sl (.int .u8)), .full)] reticuleref01_PutLittle_an x = reticuleref01_PutLittle x := by kernel_rfl
theorem reticuleref01_PutLittle_ok : FnOk Try.prog 49 { args := [.val (.int .u64), .val (.int .i64)], res := [((.sl (.int .u8)), .full)], f := reticuleref01_PutLittle } :=
  fn_ok reticuleref01_PutLittle_Eok Try.func49 rfl (by kernel_rfl) (by kernel_rfl) (by kernel_rfl) (rs := [.tmp 4 ((.sl (.int .u8)), .full)]) (c := bd Try.f49) (an := reticuleref01_PutLittle_an) (show obF reticuleref01_PutLittle_E 29 (bd Try.f49) [.val (.int .u64), .val (.int .i64)] [.tmp 4 ((.sl (.int .u8)), .full)] reticuleref01_PutLittle_an from (And.intro trivial (And.intro (And.intro trivial (And.intro (And.intro trivial trivial) trivial)) (And.intro trivial (And.intro (And.intro trivial (And.intro (fun _ => rfl) (And.intro (fun n j => by kernel_rfl) (fun n => (And.intro (And.intro trivial (And.intro trivial trivial)) (And.intro (And.intro trivial trivial) trivial)))))) (And.intro trivial trivial)))))) reticuleref01_PutLittle_eq
/-! reticuleref19_Bytes: function 36 -/
noncomputable def reticuleref19_Bytes_fns : List (Nat × Fun) := [(49, { args := [.val (.int .u64), .val (.int .i64)], res := [((.sl (.int .u8)), .full)], f := reticuleref01_PutLittle })]
noncomputable def reticuleref19_Bytes_E : Env := { ty := Re.look tyTab, eq := fun n => memB n [], fn := Re.look reticuleref19_Bytes_fns, cut := fun n => memB n [], win := fun n => memB n [], one := fun n => memB n [], onc := fun n => memB n [], pre := fun n => memB n [], ptr := fun n => memB n [], psl := fun n => memB n [], parr := Re.look [] }
noncomputable def reticuleref19_Bytes_an : An (Ds ((([.tmp 2 ((.sl (.int .u8)), .full), .tmp 3 (.bool, .view)] : List RV).map RV.pm).map (·.1) ++ ioTys [.val T34])) :=
(.seq (.rg [] none)
(.seq (.seq (.rg [] (some (.op ⟨[16], []⟩ (.op ⟨[16], []⟩ (.op ⟨[], []⟩ (.op ⟨[], []⟩ (.split 10 [(14, .bool)] (.op ⟨[16], []⟩ (.op ⟨[16], []⟩ (.op ⟨[], []⟩ (.op ⟨[], []⟩ .done)))) (.op ⟨[], []⟩ (.split 15 [(20, .bool)] (.op ⟨[16], []⟩ (.op ⟨[16], []⟩ (.op ⟨[], []⟩ (.op ⟨[], []⟩ (.op ⟨[], []⟩ .done))))) (.op ⟨[], []⟩ (.split 21 [(26, .bool)] (.op ⟨[16], []⟩ (.op ⟨[16], []⟩ (.op ⟨[], []⟩ (.op ⟨[], []⟩ (.op ⟨[], []⟩ .done))))) .done)))))))))))
(.cond (.seq (.rg [] none)
.leaf) .leaf))
(.seq (.rg [] none)
(.seq (.rg [] none)
(.seq (.rg [] none)
(.seq (.rg [] none)
(.join [.box 1 T34, .row 4 (.int .u8) .full, .val 5 (.int .u8)]
(.seq (.rg [] none)
(.cond (.rg [] none) .leaf))
(.seq (.rg [] none)
(.seq (.rg [] none)
(.seq (.seq (.rg [] none)
(.loop [.row 4 (.int .u8) .full, .val 6 (.int .i64)] [.row 4 (.int .u8) .full] reticuleref19_Bytes_L0
(.seq (.seq (.rg [] (some (.op ⟨[], []⟩ (.op ⟨[], []⟩ (.op ⟨[], []⟩ (.split 60 [(64, .bool)] (.op ⟨[], []⟩ (.op ⟨[64], []⟩ (.op ⟨[], []⟩ (.op ⟨[], []⟩ .done)))) .done))))))
(.cond .leaf .leaf))
(.seq (.block (.rg [] none))
(.rg [] none)))))
(.seq (.rg [] none)
.leaf)))))))))))
theorem reticuleref19_Bytes_Eok : EnvOk Try.prog reticuleref19_Bytes_E := env_ok tab_ok (by simp) (allFn_mem (show AllFn Try.prog reticuleref19_Bytes_fns from ⟨reticuleref01_PutLittle_ok, trivial⟩)) mixed (by kernel_rfl) (by kernel_rfl) (by kernel_rfl)
theorem reticuleref19_Bytes_eq (x : (BitVec 32 × (BitVec 32 × (Bool × (Int × (List (BitVec 8) × Unit)))))) : evF reticuleref19_Bytes_E 71 (bd Try.f36) [.val T34] [.tmp 2 ((.sl (.int .u8)), .full), .tmp 3 (.bool, .view)] reticuleref19_Bytes_an x = reticuleref19_Bytes x := by kernel_rfl
theorem reticuleref19_Bytes_ok : FnOk Try.prog 36 { args := [.val T34], res := [((.sl (.int .u8)), .full), (.bool, .view)], f := reticuleref19_Bytes } :=
  fn_ok reticuleref19_Bytes_Eok Try.func36 rfl (by kernel_rfl) (by kernel_rfl) (by kernel_rfl) (rs := [.tmp 2 ((.sl (.int .u8)), .full), .tmp 3 (.bool, .view)]) (c := bd Try.f36) (an := reticuleref19_Bytes_an) (show obF reticuleref19_Bytes_E 71 (bd Try.f36) [.val T34] [.tmp 2 ((.sl (.int .u8)), .full), .tmp 3 (.bool, .view)] reticuleref19_Bytes_an from (And.intro trivial (And.intro (And.intro trivial (And.intro (And.intro trivial trivial) trivial)) (And.intro trivial (And.intro trivial (And.intro trivial (And.intro trivial (And.intro (And.intro trivial (And.intro trivial trivial)) (And.intro trivial (And.intro trivial (And.intro (And.intro trivial (And.intro (fun _ => rfl) (And.intro (fun n j => by kernel_rfl) (fun n => (And.intro (And.intro trivial (And.intro trivial trivial)) (And.intro trivial trivial)))))) (And.intro trivial trivial)))))))))))) reticuleref19_Bytes_eq
/-! reticuleref27_Wrapper: function 17 -/
noncomputable def reticuleref27_Wrapper_fns : List (Nat × Fun) := [(36, { args := [.val T34], res := [((.sl (.int .u8)), .full), (.bool, .view)], f := reticuleref19_Bytes })]
noncomputable def reticuleref27_Wrapper_E : Env := { ty := Re.look tyTab, eq := fun n => memB n [], fn := Re.look reticuleref27_Wrapper_fns, cut := fun n => memB n [], win := fun n => memB n [], one := fun n => memB n [], onc := fun n => memB n [], pre := fun n => memB n [], ptr := fun n => memB n [], psl := fun n => memB n [], parr := Re.look [] }
noncomputable def reticuleref27_Wrapper_an : An (Ds ((([.cell 6 T41, .tmp 7 (.bool, .view)] : List RV).map RV.pm).map (·.1) ++ ioTys [.val (.int .i64), .val (.int .i64), .val T34])) :=
(.seq (.rg [] none)
(.seq (.rg [] none)
(.seq (.seq (.rg [] none)
(.cond (.seq (.rg [] none)
.leaf) .leaf))
(.seq (.rg [] none)
.leaf))))
theorem reticuleref27_Wrapper_Eok : EnvOk Try.prog reticuleref27_Wrapper_E := env_ok tab_ok (by simp) (allFn_mem (show AllFn Try.prog reticuleref27_Wrapper_fns from ⟨reticuleref19_Bytes_ok, trivial⟩)) mixed (by kernel_rfl) (by kernel_rfl) (by kernel_rfl)
theorem reticuleref27_Wrapper_eq (x : Int × Int × (BitVec 32 × (BitVec 32 × (Bool × (Int × (List (BitVec 8) × Unit)))))) : evF reticuleref27_Wrapper_E 22 (bd Try.f17) [.val (.int .i64), .val (.int .i64), .val T34] [.cell 6 T41, .tmp 7 (.bool, .view)] reticuleref27_Wrapper_an x = reticuleref27_Wrapper x := by kernel_rfl
theorem reticuleref27_Wrapper_ok : FnOk Try.prog 17 { args := [.val (.int .i64), .val (.int .i64), .val T34], res := [(T41, .view), (.bool, .view)], f := reticuleref27_Wrapper } :=
  fn_ok reticuleref27_Wrapper_Eok Try.func17 rfl (by kernel_rfl) (by kernel_rfl) (by kernel_rfl) (rs := [.cell 6 T41, .tmp 7 (.bool, .view)]) (c := bd Try.f17) (an := reticuleref27_Wrapper_an) (ob_flat _ _ _ _ _ _ _ (by kernel_rfl)) reticuleref27_Wrapper_eq
/-! reticuleref22_two: function 55 -/
noncomputable def reticuleref22_two_fns : List (Nat × Fun) := []
noncomputable def reticuleref22_two_E : Env := { ty := Re.look tyTab, eq := fun n => memB n [], fn := Re.look reticuleref22_two_fns, cut := fun n => memB n [], win := fun n => memB n [], one := fun n => memB n [], onc := fun n => memB n [], pre := fun n => memB n [], ptr := fun n => memB n [], psl := fun n => memB n [], parr := Re.look [] }
noncomputable def reticuleref22_two_an : An (Ds ((([.tmp 2 ((.sl (.int .u8)), .full)] : List RV).map RV.pm).map (·.1) ++ ioTys [.val (.int .i64)])) :=
(.seq (.rg [] none)
(.seq (.rg [] none)
.leaf))
theorem reticuleref22_two_Eok : EnvOk Try.prog reticuleref22_two_E := env_ok tab_ok (by simp) (allFn_mem (show AllFn Try.prog reticuleref22_two_fns from trivial)) mixed (by kernel_rfl) (by kernel_rfl) (by kernel_rfl)
theorem reticuleref22_two_eq (x : Int) : evF reticuleref22_two_E 11 (bd Try.f55) [.val (.int .i64)] [.tmp 2 ((.sl (.int .u8)), .full)] reticuleref22_two_an x = reticuleref22_two x := by kernel_rfl
theorem reticuleref22_two_ok : FnOk Try.prog 55 { args := [.val (.int .i64)], res := [((.sl (.int .u8)), .full)], f := reticuleref22_two } :=
  fn_ok reticuleref22_two_Eok Try.func55 rfl (by kernel_rfl) (by kernel_rfl) (by kernel_rfl) (rs := [.tmp 2 ((.sl (.int .u8)), .full)]) (c := bd Try.f55) (an := reticuleref22_two_an) (ob_flat _ _ _ _ _ _ _ (by kernel_rfl)) reticuleref22_two_eq
/-! reticuleref22_head: function 52 -/
noncomputable def reticuleref22_head_fns : List (Nat × Fun) := [(55, { args := [.val (.int .i64)], res := [((.sl (.int .u8)), .full)], f := reticuleref22_two })]
noncomputable def reticuleref22_head_E : Env := { ty := Re.look tyTab, eq := fun n => memB n [], fn := Re.look reticuleref22_head_fns, cut := fun n => memB n [], win := fun n => memB n [], one := fun n => memB n [], onc := fun n => memB n [], pre := fun n => memB n [], ptr := fun n => memB n [], psl := fun n => memB n [], parr := Re.look [] }
noncomputable def reticuleref22_head_an : An (Ds ((([.tmp 4 ((.sl (.int .u8)), .full)] : List RV).map RV.pm).map (·.1) ++ ioTys [.val (.int .u8), .val (.int .i64)])) :=
(.seq (.rg [] none)
(.seq (.rg [] none)
.leaf))
theorem reticuleref22_head_Eok : EnvOk Try.prog reticuleref22_head_E := env_ok tab_ok (by simp) (allFn_mem (show AllFn Try.prog reticuleref22_head_fns from ⟨reticuleref22_two_ok, trivial⟩)) mixed (by kernel_rfl) (by kernel_rfl) (by kernel_rfl)
theorem reticuleref22_head_eq (x : (BitVec 8) × Int) : evF reticuleref22_head_E 10 (bd Try.f52) [.val (.int .u8), .val (.int .i64)] [.tmp 4 ((.sl (.int .u8)), .full)] reticuleref22_head_an x = reticuleref22_head x := by kernel_rfl
theorem reticuleref22_head_ok : FnOk Try.prog 52 { args := [.val (.int .u8), .val (.int .i64)], res := [((.sl (.int .u8)), .full)], f := reticuleref22_head } :=
  fn_ok reticuleref22_head_Eok Try.func52 rfl (by kernel_rfl) (by kernel_rfl) (by kernel_rfl) (rs := [.tmp 4 ((.sl (.int .u8)), .full)]) (c := bd Try.f52) (an := reticuleref22_head_an) (ob_flat _ _ _ _ _ _ _ (by kernel_rfl)) reticuleref22_head_eq
/-! reticuleref22_lun: function 53 -/
noncomputable def reticuleref22_lun_fns : List (Nat × Fun) := []
noncomputable def reticuleref22_lun_E : Env := { ty := Re.look tyTab, eq := fun n => memB n [], fn := Re.look reticuleref22_lun_fns, cut := fun n => memB n [], win := fun n => memB n [], one := fun n => memB n [], onc := fun n => memB n [], pre := fun n => memB n [], ptr := fun n => memB n [], psl := fun n => memB n [], parr := Re.look [] }
noncomputable def reticuleref22_lun_an : An (Ds ((([.tmp 2 ((.sl (.int .u8)), .full)] : List RV).map RV.pm).map (·.1) ++ ioTys [.val (.int .i64)])) :=
(.seq (.rg [] none)
(.seq (.rg [] none)
.leaf))
theorem reticuleref22_lun_Eok : EnvOk Try.prog reticuleref22_lun_E := env_ok tab_ok (by simp) (allFn_mem (show AllFn Try.prog reticuleref22_lun_fns from trivial)) mixed (by kernel_rfl) (by kernel_rfl) (by kernel_rfl)
theorem reticuleref22_lun_eq (x : Int) : evF reticuleref22_lun_E 7 (bd Try.f53) [.val (.int .i64)] [.tmp 2 ((.sl (.int .u8)), .full)] reticuleref22_lun_an x = reticuleref22_lun x := by kernel_rfl
theorem reticuleref22_lun_ok : FnOk Try.prog 53 { args := [.val (.int .i64)], res := [((.sl (.int .u8)), .full)], f := reticuleref22_lun } :=
  fn_ok reticuleref22_lun_Eok Try.func53 rfl (by kernel_rfl) (by kernel_rfl) (by kernel_rfl) (rs := [.tmp 2 ((.sl (.int .u8)), .full)]) (c := bd Try.f53) (an := reticuleref22_lun_an) (ob_flat _ _ _ _ _ _ _ (by kernel_rfl)) reticuleref22_lun_eq
/-! reticuleref22_PutCommand: function 38 -/
noncomputable def reticuleref22_PutCommand_fns : List (Nat × Fun) := [(52, { args := [.val (.int .u8), .val (.int .i64)], res := [((.sl (.int .u8)), .full)], f := reticuleref22_head }), (53, { args := [.val (.int .i64)], res := [((.sl (.int .u8)), .full)], f := reticuleref22_lun })]
noncomputable def reticuleref22_PutCommand_E : Env := { ty := Re.look tyTab, eq := fun n => memB n [], fn := Re.look reticuleref22_PutCommand_fns, cut := fun n => memB n [], win := fun n => memB n [], one := fun n => memB n [], onc := fun n => memB n [], pre := fun n => memB n [], ptr := fun n => memB n [], psl := fun n => memB n [], parr := Re.look [] }
noncomputable def reticuleref22_PutCommand_an : An (Ds ((([.tmp 2 ((.sl (.int .u8)), .full)] : List RV).map RV.pm).map (·.1) ++ ioTys [.val T52])) :=
(.seq (.rg [] none)
(.seq (.rg [] none)
(.seq (.rg [] none)
(.seq (.seq (.rg [] none)
(.loop [.box 1 T52, .row 3 (.int .u8) .full, .val 4 (.int .i64)] [.row 3 (.int .u8) .full] reticuleref22_PutCommand_L0
(.seq (.seq (.rg [] none)
(.cond .leaf .leaf))
(.seq (.block (.rg [] none))
(.rg [] none)))))
(.seq (.rg [] none)
.leaf)))))
theorem reticuleref22_PutCommand_Eok : EnvOk Try.prog reticuleref22_PutCommand_E := env_ok tab_ok (by simp) (allFn_mem (show AllFn Try.prog reticuleref22_PutCommand_fns from ⟨reticuleref22_head_ok, reticuleref22_lun_ok, trivial⟩)) mixed (by kernel_rfl) (by kernel_rfl) (by kernel_rfl)
theorem reticuleref22_PutCommand_eq (x : (Int × (Int × (List (BitVec 8) × (Int × (List (BitVec 8) × (((Int × (BitVec 64 × (Int × (Int × (Int × Unit))))) × (Int × (Int × (List (BitVec 8) × ((Int × (Int × (Int × Unit))) × Unit))))) × ((Int × (Int × (Int × Unit))) × Unit)))))))) : evF reticuleref22_PutCommand_E 27 (bd Try.f38) [.val T52] [.tmp 2 ((.sl (.int .u8)), .full)] reticuleref22_PutCommand_an x = reticuleref22_PutCommand x := by kernel_rfl
theorem reticuleref22_PutCommand_ok : FnOk Try.prog 38 { args := [.val T52], res := [((.sl (.int .u8)), .full)], f := reticuleref22_PutCommand } :=
  fn_ok reticuleref22_PutCommand_Eok Try.func38 rfl (by kernel_rfl) (by kernel_rfl) (by kernel_rfl) (rs := [.tmp 2 ((.sl (.int .u8)), .full)]) (c := bd Try.f38) (an := reticuleref22_PutCommand_an) (show obF reticuleref22_PutCommand_E 27 (bd Try.f38) [.val T52] [.tmp 2 ((.sl (.int .u8)), .full)] reticuleref22_PutCommand_an from (And.intro trivial (And.intro trivial (And.intro trivial (And.intro (And.intro trivial (And.intro (fun _ => rfl) (And.intro (fun n j => by kernel_rfl) (fun n => (And.intro (And.intro trivial (And.intro trivial trivial)) (And.intro trivial trivial)))))) (And.intro trivial trivial)))))) reticuleref22_PutCommand_eq
/-! reticuleref27_Command: function 20 -/
noncomputable def reticuleref27_Command_fns : List (Nat × Fun) := [(38, { args := [.val T52], res := [((.sl (.int .u8)), .full)], f := reticuleref22_PutCommand })]
noncomputable def reticuleref27_Command_E : Env := { ty := Re.look tyTab, eq := fun n => memB n [], fn := Re.look reticuleref27_Command_fns, cut := fun n => memB n [], win := fun n => memB n [], one := fun n => memB n [], onc := fun n => memB n [], pre := fun n => memB n [], ptr := fun n => memB n [], psl := fun n => memB n [], parr := Re.look [] }
noncomputable def reticuleref27_Command_an : An (Ds ((([.cell 6 T41] : List RV).map RV.pm).map (·.1) ++ ioTys [.val (.int .i64), .val (.int .i64), .val T52])) :=
(.seq (.rg [] none)
(.seq (.rg [] none)
.leaf))
theorem reticuleref27_Command_Eok : EnvOk Try.prog reticuleref27_Command_E := env_ok tab_ok (by simp) (allFn_mem (show AllFn Try.prog reticuleref27_Command_fns from ⟨reticuleref22_PutCommand_ok, trivial⟩)) mixed (by kernel_rfl) (by kernel_rfl) (by kernel_rfl)
theorem reticuleref27_Command_eq (x : Int × Int × (Int × (Int × (List (BitVec 8) × (Int × (List (BitVec 8) × (((Int × (BitVec 64 × (Int × (Int × (Int × Unit))))) × (Int × (Int × (List (BitVec 8) × ((Int × (Int × (Int × Unit))) × Unit))))) × ((Int × (Int × (Int × Unit))) × Unit)))))))) : evF reticuleref27_Command_E 12 (bd Try.f20) [.val (.int .i64), .val (.int .i64), .val T52] [.cell 6 T41] reticuleref27_Command_an x = reticuleref27_Command x := by kernel_rfl
theorem reticuleref27_Command_ok : FnOk Try.prog 20 { args := [.val (.int .i64), .val (.int .i64), .val T52], res := [(T41, .view)], f := reticuleref27_Command } :=
  fn_ok reticuleref27_Command_Eok Try.func20 rfl (by kernel_rfl) (by kernel_rfl) (by kernel_rfl) (rs := [.cell 6 T41]) (c := bd Try.f20) (an := reticuleref27_Command_an) (ob_flat _ _ _ _ _ _ _ (by kernel_rfl)) reticuleref27_Command_eq
/-! reticuleref22_PutManage: function 40 -/
noncomputable def reticuleref22_PutManage_fns : List (Nat × Fun) := [(52, { args := [.val (.int .u8), .val (.int .i64)], res := [((.sl (.int .u8)), .full)], f := reticuleref22_head }), (55, { args := [.val (.int .i64)], res := [((.sl (.int .u8)), .full)], f := reticuleref22_two }), (53, { args := [.val (.int .i64)], res := [((.sl (.int .u8)), .full)], f := reticuleref22_lun })]
noncomputable def reticuleref22_PutManage_E : Env := { ty := Re.look tyTab, eq := fun n => memB n [], fn := Re.look reticuleref22_PutManage_fns, cut := fun n => memB n [], win := fun n => memB n [], one := fun n => memB n [], onc := fun n => memB n [], pre := fun n => memB n [], ptr := fun n => memB n [], psl := fun n => memB n [], parr := Re.look [] }
noncomputable def reticuleref22_PutManage_an : An (Ds ((([.tmp 2 ((.sl (.int .u8)), .full)] : List RV).map RV.pm).map (·.1) ++ ioTys [.val T36])) :=
(.seq (.rg [] none)
(.seq (.rg [] (some (.op ⟨[16], []⟩ (.op ⟨[16], []⟩ (.op ⟨[96], [96]⟩ (.op ⟨[16], []⟩ (.op ⟨[16], []⟩ (.op ⟨[], []⟩ (.op ⟨[], []⟩ (.op ⟨[176], [176]⟩ (.op ⟨[96, 176, 192], [96, 192]⟩ (.op ⟨[], []⟩ .done))))))))))))
(.seq (.rg [] none)
(.seq (.rg [] none)
.leaf))))
theorem reticuleref22_PutManage_Eok : EnvOk Try.prog reticuleref22_PutManage_E := env_ok tab_ok (by simp) (allFn_mem (show AllFn Try.prog reticuleref22_PutManage_fns from ⟨reticuleref22_head_ok, reticuleref22_two_ok, reticuleref22_lun_ok, trivial⟩)) mixed (by kernel_rfl) (by kernel_rfl) (by kernel_rfl)
theorem reticuleref22_PutManage_eq (x : (Int × (Int × (Int × (Int × Unit))))) : evF reticuleref22_PutManage_E 23 (bd Try.f40) [.val T36] [.tmp 2 ((.sl (.int .u8)), .full)] reticuleref22_PutManage_an x = reticuleref22_PutManage x := by kernel_rfl
theorem reticuleref22_PutManage_ok : FnOk Try.prog 40 { args := [.val T36], res := [((.sl (.int .u8)), .full)], f := reticuleref22_PutManage } :=
  fn_ok reticuleref22_PutManage_Eok Try.func40 rfl (by kernel_rfl) (by kernel_rfl) (by kernel_rfl) (rs := [.tmp 2 ((.sl (.int .u8)), .full)]) (c := bd Try.f40) (an := reticuleref22_PutManage_an) (ob_flat _ _ _ _ _ _ _ (by kernel_rfl)) reticuleref22_PutManage_eq
/-! reticuleref27_Manage: function 22 -/
noncomputable def reticuleref27_Manage_fns : List (Nat × Fun) := [(40, { args := [.val T36], res := [((.sl (.int .u8)), .full)], f := reticuleref22_PutManage })]
noncomputable def reticuleref27_Manage_E : Env := { ty := Re.look tyTab, eq := fun n => memB n [], fn := Re.look reticuleref27_Manage_fns, cut := fun n => memB n [], win := fun n => memB n [], one := fun n => memB n [], onc := fun n => memB n [], pre := fun n => memB n [], ptr := fun n => memB n [], psl := fun n => memB n [], parr := Re.look [] }
noncomputable def reticuleref27_Manage_an : An (Ds ((([.cell 6 T41] : List RV).map RV.pm).map (·.1) ++ ioTys [.val (.int .i64), .val (.int .i64), .val T36])) :=
(.seq (.rg [] none)
(.seq (.rg [] none)
.leaf))
theorem reticuleref27_Manage_Eok : EnvOk Try.prog reticuleref27_Manage_E := env_ok tab_ok (by simp) (allFn_mem (show AllFn Try.prog reticuleref27_Manage_fns from ⟨reticuleref22_PutManage_ok, trivial⟩)) mixed (by kernel_rfl) (by kernel_rfl) (by kernel_rfl)
theorem reticuleref27_Manage_eq (x : Int × Int × (Int × (Int × (Int × (Int × Unit))))) : evF reticuleref27_Manage_E 12 (bd Try.f22) [.val (.int .i64), .val (.int .i64), .val T36] [.cell 6 T41] reticuleref27_Manage_an x = reticuleref27_Manage x := by kernel_rfl
theorem reticuleref27_Manage_ok : FnOk Try.prog 22 { args := [.val (.int .i64), .val (.int .i64), .val T36], res := [(T41, .view)], f := reticuleref27_Manage } :=
  fn_ok reticuleref27_Manage_Eok Try.func22 rfl (by kernel_rfl) (by kernel_rfl) (by kernel_rfl) (rs := [.cell 6 T41]) (c := bd Try.f22) (an := reticuleref27_Manage_an) (ob_flat _ _ _ _ _ _ _ (by kernel_rfl)) reticuleref27_Manage_eq
/-! reticulelaw27_HostAsks: function 5 -/
noncomputable def reticulelaw27_HostAsks_fns : List (Nat × Fun) := [(8, { args := [], res := [(.bool, .view)], f := reticulelaw27_alive }), (16, { args := [.val (.int .i64), .val (.int .i64), .val T34], res := [(T41, .view), (.bool, .view)], f := host_Wrapper }), (17, { args := [.val (.int .i64), .val (.int .i64), .val T34], res := [(T41, .view), (.bool, .view)], f := reticuleref27_Wrapper }), (18, { args := [.val T41, .val T41], res := [(.bool, .view)], f := reticuleref13_One }), (19, { args := [.val (.int .i64), .val (.int .i64), .val T52], res := [(T41, .view)], f := host_Command }), (20, { args := [.val (.int .i64), .val (.int .i64), .val T52], res := [(T41, .view)], f := reticuleref27_Command }), (21, { args := [.val (.int .i64), .val (.int .i64), .val T36], res := [(T41, .view)], f := host_Manage }), (22, { args := [.val (.int .i64), .val (.int .i64), .val T36], res := [(T41, .view)], f := reticuleref27_Manage }), (23, { args := [.val (.int .i64), .val (.int .i64), .val (.int .i64)], res := [(T41, .view)], f := host_Ask }), (24, { args := [.val (.int .i64), .val (.int .i64), .val (.int .i64)], res := [(T41, .view)], f := reticuleref27_Ask })]
noncomputable def reticulelaw27_HostAsks_E : Env := { ty := Re.look tyTab, eq := fun n => memB n [], fn := Re.look reticulelaw27_HostAsks_fns, cut := fun n => memB n [], win := fun n => memB n [], one := fun n => memB n [], onc := fun n => memB n [], pre := fun n => memB n [], ptr := fun n => memB n [], psl := fun n => memB n [], parr := Re.look [] }
noncomputable def reticulelaw27_HostAsks_an : An (Ds ((([.tmp 6 (.bool, .view)] : List RV).map RV.pm).map (·.1) ++ ioTys [.val T34, .val T36, .val T36])) :=
(.seq (.rg [] none)
(.seq (.seq (.rg [] none)
(.cond (.seq (.rg [] none)
.leaf) .leaf))
(.seq (.seq (.rg [] none)
(.cond (.seq (.rg [] none)
.leaf) .leaf))
(.seq (.rg [] none)
(.seq (.rg [] none)
(.seq (.rg [] none)
(.seq (.seq (.rg [] none)
(.loop [.box 3 T34, .box 4 T36, .box 5 T36, .box 7 T41, .val 8 .bool, .box 9 T41, .val 10 .bool, .box 11 T52, .val 12 (.int .i64)] [.box 4 T36, .box 5 T36, .box 7 T41, .val 8 .bool, .box 9 T41, .val 10 .bool, .box 11 T52] reticulelaw27_HostAsks_L0
(.seq (.seq (.rg [] (some (.op ⟨[], []⟩ (.op ⟨[], []⟩ (.op ⟨[], []⟩ (.split 44 [(50, .bool)] (.op ⟨[], []⟩ (.op ⟨[48], []⟩ (.op ⟨[48], []⟩ (.op ⟨[], []⟩ (.op ⟨[], []⟩ (.op ⟨[], []⟩ .done)))))) .done))))))
(.cond .leaf .leaf))
(.seq (.block (.rg [] none))
(.rg [] none)))))
(.seq (.seq (.rg [] (some (.op ⟨[112], []⟩ (.op ⟨[144], []⟩ (.op ⟨[1008], []⟩ (.op ⟨[], []⟩ (.op ⟨[], []⟩ (.split 65 [(69, .bool)] (.op ⟨[], []⟩ (.op ⟨[], []⟩ (.op ⟨[], []⟩ (.op ⟨[], []⟩ .done)))) (.op ⟨[], []⟩ (.split 70 [(85, .bool)] (.op ⟨[64], []⟩ (.op ⟨[64], []⟩ (.op ⟨[64], []⟩ (.op ⟨[64], []⟩ (.op ⟨[176], []⟩ (.op ⟨[1216], []⟩ (.op ⟨[64], []⟩ (.op ⟨[64], []⟩ (.op ⟨[64], []⟩ (.op ⟨[64], []⟩ (.op ⟨[176], []⟩ (.op ⟨[1312], []⟩ (.op ⟨[1328], []⟩ (.op ⟨[], []⟩ (.op ⟨[], []⟩ .done))))))))))))))) .done))))))))))
(.cond (.seq (.rg [] none)
.leaf) .leaf))
(.seq (.rg [] (some (.op ⟨[64], []⟩ (.op ⟨[64], []⟩ (.op ⟨[64], []⟩ (.op ⟨[64], []⟩ (.op ⟨[80], []⟩ (.op ⟨[1456], []⟩ (.op ⟨[64], []⟩ (.op ⟨[64], []⟩ (.op ⟨[64], []⟩ (.op ⟨[64], []⟩ (.op ⟨[80], []⟩ (.op ⟨[1552], []⟩ (.op ⟨[1568], []⟩ (.op ⟨[], []⟩ (.split 99 [(115, .bool)] (.op ⟨[64], []⟩ (.op ⟨[64], []⟩ (.op ⟨[64], []⟩ (.op ⟨[64], []⟩ (.op ⟨[64], []⟩ (.op ⟨[64], []⟩ (.op ⟨[1696], []⟩ (.op ⟨[64], []⟩ (.op ⟨[64], []⟩ (.op ⟨[64], []⟩ (.op ⟨[64], []⟩ (.op ⟨[64], []⟩ (.op ⟨[64], []⟩ (.op ⟨[1808], []⟩ (.op ⟨[1824], []⟩ (.op ⟨[], []⟩ .done)))))))))))))))) (.op ⟨[], []⟩ .done))))))))))))))))))
.leaf)))))))))
theorem reticulelaw27_HostAsks_Eok : EnvOk Try.prog reticulelaw27_HostAsks_E := env_ok tab_ok (by simp) (allFn_mem (show AllFn Try.prog reticulelaw27_HostAsks_fns from ⟨reticulelaw27_alive_ok, host_Wrapper_ok, reticuleref27_Wrapper_ok, reticuleref13_One_ok, host_Command_ok, reticuleref27_Command_ok, host_Manage_ok, reticuleref27_Manage_ok, host_Ask_ok, reticuleref27_Ask_ok, trivial⟩)) mixed (by kernel_rfl) (by kernel_rfl) (by kernel_rfl)
theorem reticulelaw27_HostAsks_eq (x : (BitVec 32 × (BitVec 32 × (Bool × (Int × (List (BitVec 8) × Unit))))) × (Int × (Int × (Int × (Int × Unit)))) × (Int × (Int × (Int × (Int × Unit))))) : evF reticulelaw27_HostAsks_E 116 (bd Try.f5) [.val T34, .val T36, .val T36] [.tmp 6 (.bool, .view)] reticulelaw27_HostAsks_an x = reticulelaw27_HostAsks x := by kernel_rfl
theorem reticulelaw27_HostAsks_ok : FnOk Try.prog 5 { args := [.val T34, .val T36, .val T36], res := [(.bool, .view)], f := reticulelaw27_HostAsks } :=
  fn_ok reticulelaw27_HostAsks_Eok Try.func5 rfl (by kernel_rfl) (by kernel_rfl) (by kernel_rfl) (rs := [.tmp 6 (.bool, .view)]) (c := bd Try.f5) (an := reticulelaw27_HostAsks_an) (show obF reticulelaw27_HostAsks_E 116 (bd Try.f5) [.val T34, .val T36, .val T36] [.tmp 6 (.bool, .view)] reticulelaw27_HostAsks_an from (And.intro trivial (And.intro (And.intro trivial (And.intro (And.intro trivial trivial) trivial)) (And.intro (And.intro trivial (And.intro (And.intro trivial trivial) trivial)) (And.intro trivial (And.intro trivial (And.intro trivial (And.intro (And.intro trivial (And.intro (fun _ => rfl) (And.intro (fun n j => by kernel_rfl) (fun n => (And.intro (And.intro trivial (And.intro trivial trivial)) (And.intro trivial trivial)))))) (And.intro (And.intro trivial (And.intro (And.intro trivial trivial) trivial)) (And.intro trivial trivial)))))))))) reticulelaw27_HostAsks_eq
/-! reticulelaw27_HostPackets: function 6 -/
noncomputable def reticulelaw27_HostPackets_fns : List (Nat × Fun) := [(8, { args := [], res := [(.bool, .view)], f := reticulelaw27_alive }), (10, { args := [.val (.int .i64), .val T22], res := [((.sl T41), .full)], f := host_Transfer })]
noncomputable def reticulelaw27_HostPackets_E : Env := { ty := Re.look tyTab, eq := fun n => memB n [], fn := Re.look reticulelaw27_HostPackets_fns, cut := fun n => memB n [], win := fun n => memB n [], one := fun n => memB n [], onc := fun n => memB n [], pre := fun n => memB n [], ptr := fun n => memB n [], psl := fun n => memB n [], parr := Re.look [] }
noncomputable def reticulelaw27_HostPackets_an : An (Ds ((([.tmp 4 (.bool, .view)] : List RV).map RV.pm).map (·.1) ++ ioTys [.val (.int .u8), .val (.int .u16)])) :=
(.seq (.rg [] none)
(.seq (.seq (.rg [] none)
(.cond (.seq (.rg [] none)
.leaf) .leaf))
(.seq (.rg [] none)
(.seq (.rg [] none)
(.seq (.seq (.rg [] none)
(.loop [.val 1 (.int .u16), .row 5 T41 .full, .val 6 (.int .i64), .val 7 (.int .i64)] [.val 1 (.int .u16), .row 5 T41 .full, .val 6 (.int .i64)] reticulelaw27_HostPackets_L0
(.seq (.seq (.rg [] none)
(.cond .leaf .leaf))
(.join [.val 1 (.int .u16), .row 5 T41 .full, .val 6 (.int .i64), .val 7 (.int .i64)]
(.block (.seq (.rg [] none)
(.cond (.rg [] none) .leaf)))
(.rg [] none)))))
(.seq (.seq (.rg [] none)
(.cond (.seq (.rg [] (some (.op ⟨[], []⟩ (.op ⟨[], []⟩ (.op ⟨[], []⟩ (.split 34 [(38, .bool)] (.op ⟨[], []⟩ (.op ⟨[80], []⟩ (.op ⟨[], []⟩ (.op ⟨[], []⟩ .done)))) (.op ⟨[], []⟩ .done)))))))
.leaf) .leaf))
(.seq (.rg [] (some (.op ⟨[], []⟩ (.op ⟨[80], []⟩ (.op ⟨[], []⟩ (.op ⟨[], []⟩ (.op ⟨[], []⟩ (.op ⟨[], []⟩ (.split 44 [(50, .bool)] (.op ⟨[], []⟩ (.op ⟨[], []⟩ (.op ⟨[], []⟩ (.op ⟨[], []⟩ (.op ⟨[], []⟩ (.op ⟨[], []⟩ .done)))))) (.op ⟨[], []⟩ (.split 51 [(58, .bool)] (.op ⟨[], []⟩ (.op ⟨[], []⟩ (.op ⟨[], []⟩ (.op ⟨[], []⟩ (.op ⟨[], []⟩ (.op ⟨[], []⟩ (.op ⟨[], []⟩ .done))))))) (.op ⟨[], []⟩ .done))))))))))))
.leaf)))))))
theorem reticulelaw27_HostPackets_Eok : EnvOk Try.prog reticulelaw27_HostPackets_E := env_ok tab_ok (by simp) (allFn_mem (show AllFn Try.prog reticulelaw27_HostPackets_fns from ⟨reticulelaw27_alive_ok, host_Transfer_ok, trivial⟩)) mixed (by kernel_rfl) (by kernel_rfl) (by kernel_rfl)
theorem reticulelaw27_HostPackets_eq (x : (BitVec 8) × (BitVec 16)) : evF reticulelaw27_HostPackets_E 59 (bd Try.f6) [.val (.int .u8), .val (.int .u16)] [.tmp 4 (.bool, .view)] reticulelaw27_HostPackets_an x = reticulelaw27_HostPackets x := by kernel_rfl
theorem reticulelaw27_HostPackets_ok : FnOk Try.prog 6 { args := [.val (.int .u8), .val (.int .u16)], res := [(.bool, .view)], f := reticulelaw27_HostPackets } :=
  fn_ok reticulelaw27_HostPackets_Eok Try.func6 rfl (by kernel_rfl) (by kernel_rfl) (by kernel_rfl) (rs := [.tmp 4 (.bool, .view)]) (c := bd Try.f6) (an := reticulelaw27_HostPackets_an) (show obF reticulelaw27_HostPackets_E 59 (bd Try.f6) [.val (.int .u8), .val (.int .u16)] [.tmp 4 (.bool, .view)] reticulelaw27_HostPackets_an from (And.intro trivial (And.intro (And.intro trivial (And.intro (And.intro trivial trivial) trivial)) (And.intro trivial (And.intro trivial (And.intro (And.intro trivial (And.intro (fun _ => rfl) (And.intro (fun n j => by kernel_rfl) (fun n => (And.intro (And.intro trivial (And.intro trivial trivial)) (And.intro (And.intro trivial (And.intro trivial trivial)) trivial)))))) (And.intro (And.intro trivial (And.intro (And.intro trivial trivial) trivial)) (And.intro trivial trivial)))))))) reticulelaw27_HostPackets_eq
/-! reticuleref13_Right: function 25 -/
noncomputable def reticuleref13_Right_fns : List (Nat × Fun) := []
noncomputable def reticuleref13_Right_E : Env := { ty := Re.look tyTab, eq := fun n => memB n [], fn := Re.look reticuleref13_Right_fns, cut := fun n => memB n [], win := fun n => memB n [], one := fun n => memB n [], onc := fun n => memB n [], pre := fun n => memB n [], ptr := fun n => memB n [], psl := fun n => memB n [], parr := Re.look [] }
noncomputable def reticuleref13_Right_an : An (Ds ((([.tmp 2 (.bool, .view)] : List RV).map RV.pm).map (·.1) ++ ioTys [.val T41])) :=
(.seq (.rg [] none)
(.seq (.seq (.rg [] (some (.op ⟨[16], []⟩ (.op ⟨[16], []⟩ (.op ⟨[], []⟩ (.op ⟨[], []⟩ (.split 6 [(10, .bool)] (.op ⟨[16], []⟩ (.op ⟨[16], []⟩ (.op ⟨[], []⟩ (.op ⟨[], []⟩ .done)))) (.op ⟨[], []⟩ (.split 11 [(15, .bool)] (.op ⟨[16], []⟩ (.op ⟨[16], []⟩ (.op ⟨[], []⟩ (.op ⟨[], []⟩ .done)))) (.op ⟨[], []⟩ (.split 16 [(20, .bool)] (.op ⟨[16], []⟩ (.op ⟨[16], []⟩ (.op ⟨[], []⟩ (.op ⟨[], []⟩ .done)))) (.op ⟨[], []⟩ (.split 21 [(25, .bool)] (.op ⟨[16], []⟩ (.op ⟨[16], []⟩ (.op ⟨[], []⟩ (.op ⟨[], []⟩ .done)))) (.op ⟨[], []⟩ (.split 26 [(30, .bool)] (.op ⟨[16], []⟩ (.op ⟨[16], []⟩ (.op ⟨[], []⟩ (.op ⟨[], []⟩ .done)))) (.op ⟨[], []⟩ (.split 31 [(35, .bool)] (.op ⟨[16], []⟩ (.op ⟨[16], []⟩ (.op ⟨[], []⟩ (.op ⟨[], []⟩ .done)))) (.op ⟨[], []⟩ (.split 36 [(40, .bool)] (.op ⟨[16], []⟩ (.op ⟨[16], []⟩ (.op ⟨[], []⟩ (.op ⟨[], []⟩ .done)))) .done)))))))))))))))))))
(.cond (.seq (.rg [] none)
.leaf) .leaf))
(.seq (.rg [] (some (.op ⟨[16], []⟩ (.op ⟨[16], []⟩ (.op ⟨[], []⟩ (.op ⟨[], []⟩ (.split 44 [(48, .bool)] (.op ⟨[16], []⟩ (.op ⟨[16], []⟩ (.op ⟨[], []⟩ (.op ⟨[], []⟩ .done)))) (.op ⟨[], []⟩ (.split 49 [(53, .bool)] (.op ⟨[16], []⟩ (.op ⟨[16], []⟩ (.op ⟨[], []⟩ (.op ⟨[], []⟩ .done)))) (.op ⟨[], []⟩ (.split 54 [(58, .bool)] (.op ⟨[16], []⟩ (.op ⟨[16], []⟩ (.op ⟨[], []⟩ (.op ⟨[], []⟩ .done)))) (.op ⟨[], []⟩ (.split 59 [(64, .bool)] (.op ⟨[16], []⟩ (.op ⟨[16], []⟩ (.op ⟨[], []⟩ (.op ⟨[], []⟩ (.op ⟨[], []⟩ .done))))) (.op ⟨[], []⟩ .done))))))))))))))
.leaf)))
theorem reticuleref13_Right_Eok : EnvOk Try.prog reticuleref13_Right_E := env_ok tab_ok (by simp) (allFn_mem (show AllFn Try.prog reticuleref13_Right_fns from trivial)) mixed (by kernel_rfl) (by kernel_rfl) (by kernel_rfl)
theorem reticuleref13_Right_eq (x : (Int × (Int × (Int × (Int × (Int × (Bool × (Int × (BitVec 64 × (List (BitVec 8) × Unit)))))))))) : evF reticuleref13_Right_E 65 (bd Try.f25) [.val T41] [.tmp 2 (.bool, .view)] reticuleref13_Right_an x = reticuleref13_Right x := by kernel_rfl
theorem reticuleref13_Right_ok : FnOk Try.prog 25 { args := [.val T41], res := [(.bool, .view)], f := reticuleref13_Right } :=
  fn_ok reticuleref13_Right_Eok Try.func25 rfl (by kernel_rfl) (by kernel_rfl) (by kernel_rfl) (rs := [.tmp 2 (.bool, .view)]) (c := bd Try.f25) (an := reticuleref13_Right_an) (ob_flat _ _ _ _ _ _ _ (by kernel_rfl)) reticuleref13_Right_eq
/-! reticulelaw27_HostRight: function 7 -/
noncomputable def reticulelaw27_HostRight_fns : List (Nat × Fun) := [(8, { args := [], res := [(.bool, .view)], f := reticulelaw27_alive }), (10, { args := [.val (.int .i64), .val T22], res := [((.sl T41), .full)], f := host_Transfer }), (12, { args := [.val (.int .i64), .val (.int .i64)], res := [((.sl T41), .full)], f := host_Enumerate }), (14, { args := [.val (.int .i64)], res := [((.sl T41), .full)], f := host_Recover }), (25, { args := [.val T41], res := [(.bool, .view)], f := reticuleref13_Right })]
noncomputable def reticulelaw27_HostRight_E : Env := { ty := Re.look tyTab, eq := fun n => memB n [], fn := Re.look reticulelaw27_HostRight_fns, cut := fun n => memB n [], win := fun n => memB n [], one := fun n => memB n [], onc := fun n => memB n [], pre := fun n => memB n [], ptr := fun n => memB n [], psl := fun n => memB n [], parr := Re.look [] }
noncomputable def reticulelaw27_HostRight_an : An (Ds ((([.tmp 6 (.bool, .view)] : List RV).map RV.pm).map (·.1) ++ ioTys [.val (.int .u8), .val (.int .u8), .val T22])) :=
(.seq (.rg [] none)
(.seq (.seq (.rg [] none)
(.cond (.seq (.rg [] none)
.leaf) .leaf))
(.seq (.rg [] none)
(.seq (.rg [] none)
(.seq (.rg [] none)
(.seq (.seq (.rg [] none)
(.loop [.row 8 T41 .full, .val 9 (.int .i64)] [.row 8 T41 .full] reticulelaw27_HostRight_L0
(.seq (.seq (.rg [] none)
(.cond .leaf .leaf))
(.seq (.block (.seq (.rg [] none)
(.cond (.seq (.rg [] none)
.leaf) .leaf)))
(.rg [] none)))))
(.seq (.rg [] none)
.leaf)))))))
theorem reticulelaw27_HostRight_Eok : EnvOk Try.prog reticulelaw27_HostRight_E := env_ok tab_ok (by simp) (allFn_mem (show AllFn Try.prog reticulelaw27_HostRight_fns from ⟨reticulelaw27_alive_ok, host_Transfer_ok, host_Enumerate_ok, host_Recover_ok, reticuleref13_Right_ok, trivial⟩)) mixed (by kernel_rfl) (by kernel_rfl) (by kernel_rfl)
theorem reticulelaw27_HostRight_eq (x : (BitVec 8) × (BitVec 8) × (Int × (Int × (Int × (Int × (Int × Unit)))))) : evF reticulelaw27_HostRight_E 45 (bd Try.f7) [.val (.int .u8), .val (.int .u8), .val T22] [.tmp 6 (.bool, .view)] reticulelaw27_HostRight_an x = reticulelaw27_HostRight x := by kernel_rfl
theorem reticulelaw27_HostRight_ok : FnOk Try.prog 7 { args := [.val (.int .u8), .val (.int .u8), .val T22], res := [(.bool, .view)], f := reticulelaw27_HostRight } :=
  fn_ok reticulelaw27_HostRight_Eok Try.func7 rfl (by kernel_rfl) (by kernel_rfl) (by kernel_rfl) (rs := [.tmp 6 (.bool, .view)]) (c := bd Try.f7) (an := reticulelaw27_HostRight_an) (show obF reticulelaw27_HostRight_E 45 (bd Try.f7) [.val (.int .u8), .val (.int .u8), .val T22] [.tmp 6 (.bool, .view)] reticulelaw27_HostRight_an from (And.intro trivial (And.intro (And.intro trivial (And.intro (And.intro trivial trivial) trivial)) (And.intro trivial (And.intro trivial (And.intro trivial (And.intro (And.intro trivial (And.intro (fun _ => rfl) (And.intro (fun n j => by kernel_rfl) (fun n => (And.intro (And.intro trivial (And.intro trivial trivial)) (And.intro (And.intro trivial (And.intro (And.intro trivial trivial) trivial)) trivial)))))) (And.intro trivial trivial)))))))) reticulelaw27_HostRight_eq
end Go.Proofs.Ytnhcdenlbabelaa
