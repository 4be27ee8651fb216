/- Each function does what its plain one tells. Printed by the session's own program. -/
import Derived.Test.YtmlfojdgfimfbaaXT
import Derived.Test.YtmlfojdgfimfbaaXF
namespace Go.Proofs.Ytmlfojdgfimfbaa
open Go Go.Re
set_option linter.unusedVariables false
set_option linter.unusedSimpArgs false
set_option maxRecDepth 100000
set_option maxHeartbeats 1000000
/-! setup_two: function 20 -/
noncomputable def setup_two_fns : List (Nat × Fun) := []
noncomputable def setup_two_E : Env := { ty := Re.look tyTab, eq := fun n => memB n [], fn := Re.look setup_two_fns, cut := fun n => memB n [], win := fun n => memB n [], one := fun n => memB n [], onc := fun n => memB n [], parr := Re.look [] }
noncomputable def setup_two_an : An (Ds ((([.tmp 2 ((.int .i64), .view)] : List RV).map RV.pm).map (·.1) ++ ioTys [.val (.sl (.int .u8))])) :=
(.seq (.rg [] none)
(.seq (.rg [] (some (.op ⟨[], []⟩ (.op ⟨[], []⟩ (.op ⟨[], []⟩ (.op ⟨[], []⟩ (.op ⟨[], []⟩ (.op ⟨[], []⟩ (.op ⟨[], []⟩ (.op ⟨[], []⟩ (.op ⟨[], []⟩ (.op ⟨[], []⟩ (.op ⟨[], []⟩ (.op ⟨[], []⟩ .done))))))))))))))
.leaf))
theorem setup_two_Eok : EnvOk Try.prog setup_two_E := env_ok tab_ok (by simp) (allFn_mem (show AllFn Try.prog setup_two_fns from trivial)) mixed (by kernel_rfl)
theorem setup_two_eq (x : (List (BitVec 8))) : evF setup_two_E 14 (bd Try.f20) [.val (.sl (.int .u8))] [.tmp 2 ((.int .i64), .view)] setup_two_an x = setup_two x := by kernel_rfl
theorem setup_two_ok : FnOk Try.prog 20 { args := [.val (.sl (.int .u8))], res := [((.int .i64), .view)], f := setup_two } :=
  fn_ok setup_two_Eok Try.func20 rfl (by kernel_rfl) (by kernel_rfl) (by kernel_rfl) (rs := [.tmp 2 ((.int .i64), .view)]) (c := bd Try.f20) (an := setup_two_an) (ob_flat _ _ _ _ _ _ _ (by kernel_rfl)) setup_two_eq
/-! setup_Parse: function 9 -/
noncomputable def setup_Parse_fns : List (Nat × Fun) := [(20, { args := [.val (.sl (.int .u8))], res := [((.int .i64), .view)], f := setup_two })]
noncomputable def setup_Parse_E : Env := { ty := Re.look tyTab, eq := fun n => memB n [], fn := Re.look setup_Parse_fns, cut := fun n => memB n [], win := fun n => memB n [], one := fun n => memB n [], onc := fun n => memB n [], parr := Re.look [] }
noncomputable def setup_Parse_an : An (Ds ((([.cell 2 T24, .tmp 3 (.bool, .view)] : List RV).map RV.pm).map (·.1) ++ ioTys [.val (.sl (.int .u8))])) :=
(.seq (.rg [] none)
(.seq (.seq (.rg [] none)
(.cond (.seq (.rg [] none)
.leaf) .leaf))
(.seq (.rg [] (some (.op ⟨[], []⟩ (.op ⟨[], []⟩ (.op ⟨[], []⟩ (.op ⟨[], []⟩ (.op ⟨[], []⟩ (.op ⟨[], []⟩ (.op ⟨[], []⟩ (.op ⟨[], []⟩ (.op ⟨[], []⟩ (.op ⟨[], []⟩ (.op ⟨[288], []⟩ (.op ⟨[], []⟩ (.op ⟨[], []⟩ (.op ⟨[336], []⟩ (.op ⟨[], []⟩ (.op ⟨[], []⟩ (.op ⟨[384], []⟩ (.op ⟨[], []⟩ (.op ⟨[32], [32]⟩ (.op ⟨[], []⟩ .done))))))))))))))))))))))
.leaf)))
theorem setup_Parse_Eok : EnvOk Try.prog setup_Parse_E := env_ok tab_ok (by simp) (allFn_mem (show AllFn Try.prog setup_Parse_fns from ⟨setup_two_ok, trivial⟩)) mixed (by kernel_rfl)
theorem setup_Parse_eq (x : (List (BitVec 8))) : evF setup_Parse_E 26 (bd Try.f9) [.val (.sl (.int .u8))] [.cell 2 T24, .tmp 3 (.bool, .view)] setup_Parse_an x = setup_Parse x := by kernel_rfl
theorem setup_Parse_ok : FnOk Try.prog 9 { args := [.val (.sl (.int .u8))], res := [(T24, .view), (.bool, .view)], f := setup_Parse } :=
  fn_ok setup_Parse_Eok Try.func9 rfl (by kernel_rfl) (by kernel_rfl) (by kernel_rfl) (rs := [.cell 2 T24, .tmp 3 (.bool, .view)]) (c := bd Try.f9) (an := setup_Parse_an) (ob_flat _ _ _ _ _ _ _ (by kernel_rfl)) setup_Parse_eq
/-! setup_Right: function 13 -/
noncomputable def setup_Right_fns : List (Nat × Fun) := []
noncomputable def setup_Right_E : Env := { ty := Re.look tyTab, eq := fun n => memB n [], fn := Re.look setup_Right_fns, cut := fun n => memB n [], win := fun n => memB n [], one := fun n => memB n [], onc := fun n => memB n [], parr := Re.look [] }
noncomputable def setup_Right_an : An (Ds ((([.tmp 2 (.bool, .view)] : List RV).map RV.pm).map (·.1) ++ ioTys [.val T24])) :=
(.seq (.rg [] none)
(.seq (.rg [] (some (.op ⟨[16], []⟩ (.op ⟨[16], []⟩ (.op ⟨[16], []⟩ (.op ⟨[16], []⟩ (.op ⟨[], []⟩ (.op ⟨[], []⟩ (.op ⟨[], []⟩ (.op ⟨[], []⟩ (.split 10 [(18, .bool)] (.op ⟨[16], []⟩ (.op ⟨[16], []⟩ (.op ⟨[16], []⟩ (.op ⟨[16], []⟩ (.op ⟨[], []⟩ (.op ⟨[], []⟩ (.op ⟨[], []⟩ (.op ⟨[], []⟩ .done)))))))) (.op ⟨[], []⟩ (.split 19 [(27, .bool)] (.op ⟨[16], []⟩ (.op ⟨[16], []⟩ (.op ⟨[16], []⟩ (.op ⟨[16], []⟩ (.op ⟨[], []⟩ (.op ⟨[], []⟩ (.op ⟨[], []⟩ (.op ⟨[], []⟩ .done)))))))) (.op ⟨[], []⟩ (.split 28 [(36, .bool)] (.op ⟨[16], []⟩ (.op ⟨[16], []⟩ (.op ⟨[16], []⟩ (.op ⟨[16], []⟩ (.op ⟨[], []⟩ (.op ⟨[], []⟩ (.op ⟨[], []⟩ (.op ⟨[], []⟩ .done)))))))) (.op ⟨[], []⟩ (.split 37 [(45, .bool)] (.op ⟨[16], []⟩ (.op ⟨[16], []⟩ (.op ⟨[16], []⟩ (.op ⟨[16], []⟩ (.op ⟨[], []⟩ (.op ⟨[], []⟩ (.op ⟨[], []⟩ (.op ⟨[], []⟩ .done)))))))) (.op ⟨[], []⟩ .done))))))))))))))))))
.leaf))
theorem setup_Right_Eok : EnvOk Try.prog setup_Right_E := env_ok tab_ok (by simp) (allFn_mem (show AllFn Try.prog setup_Right_fns from trivial)) mixed (by kernel_rfl)
theorem setup_Right_eq (x : (Int × (Int × (Int × (Int × (Int × Unit)))))) : evF setup_Right_E 46 (bd Try.f13) [.val T24] [.tmp 2 (.bool, .view)] setup_Right_an x = setup_Right x := by kernel_rfl
theorem setup_Right_ok : FnOk Try.prog 13 { args := [.val T24], res := [(.bool, .view)], f := setup_Right } :=
  fn_ok setup_Right_Eok Try.func13 rfl (by kernel_rfl) (by kernel_rfl) (by kernel_rfl) (rs := [.tmp 2 (.bool, .view)]) (c := bd Try.f13) (an := setup_Right_an) (ob_flat _ _ _ _ _ _ _ (by kernel_rfl)) setup_Right_eq
/-! number_PutLittle: function 22 -/
noncomputable def number_PutLittle_fns : List (Nat × Fun) := []
noncomputable def number_PutLittle_E : Env := { ty := Re.look tyTab, eq := fun n => memB n [], fn := Re.look number_PutLittle_fns, cut := fun n => memB n [], win := fun n => memB n [], one := fun n => memB n [], onc := fun n => memB n [], parr := Re.look [] }
noncomputable def number_PutLittle_an : An (Ds ((([.tmp 4 ((.sl (.int .u8)), .full)] : List RV).map RV.pm).map (·.1) ++ ioTys [.val (.int .u64), .val (.int .i64)])) :=
(.seq (.rg [] none)
(.seq (.seq (.rg [] (some (.op ⟨[], []⟩ (.op ⟨[], []⟩ (.op ⟨[], []⟩ (.split 7 [(10, .bool)] (.op ⟨[], []⟩ (.op ⟨[], []⟩ (.op ⟨[], []⟩ .done))) .done))))))
(.cond (.seq (.rg [] none)
.leaf) .leaf))
(.seq (.seq (.rg [] none)
(.loop [.val 0 (.int .u64), .row 4 (.int .u8) .full, .val 11 (.int .i64), .val 12 (.int .i64)] [.row 4 (.int .u8) .full] number_PutLittle_L0
(.seq (.rg [] none)
(.seq (.cond .leaf .leaf)
(.seq (.block (.seq (.rg [] none)
(.rg [] none)))
(.rg [] none))))))
(.seq (.rg [] none)
.leaf))))
theorem number_PutLittle_Eok : EnvOk Try.prog number_PutLittle_E := env_ok tab_ok (by simp) (allFn_mem (show AllFn Try.prog number_PutLittle_fns from trivial)) mixed (by kernel_rfl)
theorem number_PutLittle_eq (x : (BitVec 64) × Int) : evF number_PutLittle_E 23 (bd Try.f22) [.val (.int .u64), .val (.int .i64)] [.tmp 4 ((.sl (.int .u8)), .full)] number_PutLittle_an x = number_PutLittle x := by kernel_rfl
theorem number_PutLittle_ok : FnOk Try.prog 22 { args := [.val (.int .u64), .val (.int .i64)], res := [((.sl (.int .u8)), .full)], f := number_PutLittle } :=
  fn_ok number_PutLittle_Eok Try.func22 rfl (by kernel_rfl) (by kernel_rfl) (by kernel_rfl) (rs := [.tmp 4 ((.sl (.int .u8)), .full)]) (c := bd Try.f22) (an := number_PutLittle_an) (show obF number_PutLittle_E 23 (bd Try.f22) [.val (.int .u64), .val (.int .i64)] [.tmp 4 ((.sl (.int .u8)), .full)] number_PutLittle_an from (And.intro trivial (And.intro (And.intro trivial (And.intro (And.intro trivial trivial) trivial)) (And.intro (And.intro trivial (And.intro (fun _ => rfl) (And.intro (fun n j => by kernel_rfl) (fun n => (And.intro trivial (And.intro (And.intro trivial trivial) (And.intro (And.intro trivial trivial) trivial))))))) (And.intro trivial trivial))))) number_PutLittle_eq
/-! slices_Grow_byte: function 25 -/
noncomputable def slices_Grow_byte_fns : List (Nat × Fun) := []
noncomputable def slices_Grow_byte_E : Env := { ty := Re.look tyTab, eq := fun n => memB n [], fn := Re.look slices_Grow_byte_fns, cut := fun n => memB n [25], win := fun n => memB n [], one := fun n => memB n [], onc := fun n => memB n [], parr := Re.look [] }
noncomputable def slices_Grow_byte_an : An (Ds ((([.tmp 4 ((.sl (.int .u8)), .full)] : List RV).map RV.pm).map (·.1) ++ ioTys [.nils (.int .u8), .val (.int .i64)])) :=
(.seq (.rg [] none)
(.seq (.seq (.rg [] none)
(.cond .leaf .leaf))
(.join [.row 0 (.int .u8) .full]
(.seq (.rg [] none)
(.seq (.rg [] none)
(.cond (.rg [] none) .leaf)))
(.seq (.rg [] none)
.leaf))))
theorem slices_Grow_byte_Eok : EnvOk Try.prog slices_Grow_byte_E := env_ok tab_ok (by simp) (allFn_mem (show AllFn Try.prog slices_Grow_byte_fns from trivial)) mixed (by kernel_rfl)
theorem slices_Grow_byte_eq (x : Unit × Int) : evF slices_Grow_byte_E 27 (bd Try.f25) [.nils (.int .u8), .val (.int .i64)] [.tmp 4 ((.sl (.int .u8)), .full)] slices_Grow_byte_an x = slices_Grow_byte x := by kernel_rfl
theorem slices_Grow_byte_ok : FnOk Try.prog 25 { args := [.nils (.int .u8), .val (.int .i64)], res := [((.sl (.int .u8)), .full)], f := slices_Grow_byte } :=
  fn_ok slices_Grow_byte_Eok Try.func25 rfl (by kernel_rfl) (by kernel_rfl) (by kernel_rfl) (rs := [.tmp 4 ((.sl (.int .u8)), .full)]) (c := bd Try.f25) (an := slices_Grow_byte_an) (ob_flat _ _ _ _ _ _ _ (by kernel_rfl)) slices_Grow_byte_eq
/-! slices_Concat_byte: function 21 -/
noncomputable def slices_Concat_byte_fns : List (Nat × Fun) := [(25, { args := [.nils (.int .u8), .val (.int .i64)], res := [((.sl (.int .u8)), .full)], f := slices_Grow_byte })]
noncomputable def slices_Concat_byte_E : Env := { ty := Re.look tyTab, eq := fun n => memB n [], fn := Re.look slices_Concat_byte_fns, cut := fun n => memB n [], win := fun n => memB n [], one := fun n => memB n [], onc := fun n => memB n [], parr := Re.look [] }
noncomputable def slices_Concat_byte_an : An (Ds ((([.tmp 2 ((.sl (.int .u8)), .full)] : List RV).map RV.pm).map (·.1) ++ ioTys [.val (.sl (.sl (.int .u8)))])) :=
(.seq (.rg [] none)
(.seq (.rg [] none)
(.seq (.seq (.rg [] none)
(.loop [.val 0 (.sl (.sl (.int .u8))), .val 3 (.int .i64), .val 9 (.sl (.sl (.int .u8))), .val 10 (.int .i64), .val 11 (.int .i64)] [.val 0 (.sl (.sl (.int .u8))), .val 3 (.int .i64)] slices_Concat_byte_L0
(.seq (.rg [] none)
(.seq (.cond .leaf .leaf)
(.seq (.block (.seq (.rg [] none)
(.seq (.rg [] none)
(.seq (.rg [] none)
(.cond .leaf .leaf)))))
(.rg [] none))))))
(.seq (.rg [] none)
(.seq (.seq (.rg [] none)
(.loop [.row 6 (.int .u8) .full, .val 25 (.sl (.sl (.int .u8))), .val 26 (.int .i64), .val 27 (.int .i64)] [.row 6 (.int .u8) .full] slices_Concat_byte_L1
(.seq (.rg [] none)
(.seq (.cond .leaf .leaf)
(.seq (.block (.seq (.rg [] none)
(.rg [] none)))
(.rg [] none))))))
(.seq (.rg [] none)
.leaf))))))
theorem slices_Concat_byte_Eok : EnvOk Try.prog slices_Concat_byte_E := env_ok tab_ok (by simp) (allFn_mem (show AllFn Try.prog slices_Concat_byte_fns from ⟨slices_Grow_byte_ok, trivial⟩)) mixed (by kernel_rfl)
theorem slices_Concat_byte_eq (x : (List (List (BitVec 8)))) : evF slices_Concat_byte_E 36 (bd Try.f21) [.val (.sl (.sl (.int .u8)))] [.tmp 2 ((.sl (.int .u8)), .full)] slices_Concat_byte_an x = slices_Concat_byte x := by kernel_rfl
theorem slices_Concat_byte_ok : FnOk Try.prog 21 { args := [.val (.sl (.sl (.int .u8)))], res := [((.sl (.int .u8)), .full)], f := slices_Concat_byte } :=
  fn_ok slices_Concat_byte_Eok Try.func21 rfl (by kernel_rfl) (by kernel_rfl) (by kernel_rfl) (rs := [.tmp 2 ((.sl (.int .u8)), .full)]) (c := bd Try.f21) (an := slices_Concat_byte_an) (show obF slices_Concat_byte_E 36 (bd Try.f21) [.val (.sl (.sl (.int .u8)))] [.tmp 2 ((.sl (.int .u8)), .full)] slices_Concat_byte_an from (And.intro trivial (And.intro trivial (And.intro (And.intro trivial (And.intro (fun _ => rfl) (And.intro (fun n j => by kernel_rfl) (fun n => (And.intro trivial (And.intro (And.intro trivial trivial) (And.intro (And.intro trivial (And.intro trivial (And.intro trivial (And.intro trivial trivial)))) trivial))))))) (And.intro trivial (And.intro (And.intro trivial (And.intro (fun _ => rfl) (And.intro (fun n j => by kernel_rfl) (fun n => (And.intro trivial (And.intro (And.intro trivial trivial) (And.intro (And.intro trivial trivial) trivial))))))) (And.intro trivial trivial))))))) slices_Concat_byte_eq
/-! setup_Bytes: function 11 -/
noncomputable def setup_Bytes_fns : List (Nat × Fun) := [(13, { args := [.val T24], res := [(.bool, .view)], f := setup_Right }), (22, { args := [.val (.int .u64), .val (.int .i64)], res := [((.sl (.int .u8)), .full)], f := number_PutLittle }), (21, { args := [.val (.sl (.sl (.int .u8)))], res := [((.sl (.int .u8)), .full)], f := slices_Concat_byte })]
noncomputable def setup_Bytes_E : Env := { ty := Re.look tyTab, eq := fun n => memB n [], fn := Re.look setup_Bytes_fns, cut := fun n => memB n [], win := fun n => memB n [], one := fun n => memB n [], onc := fun n => memB n [], parr := Re.look [] }
noncomputable def setup_Bytes_an : An (Ds ((([.tmp 2 ((.sl (.int .u8)), .full), .tmp 3 (.bool, .view)] : List RV).map RV.pm).map (·.1) ++ ioTys [.val T24])) :=
(.seq (.rg [] none)
(.seq (.seq (.rg [] none)
(.cond (.seq (.rg [] none)
.leaf) .leaf))
(.seq (.rg [] none)
(.seq (.seq (.rg [] none)
(.loop [.row 4 (.int .u8) .full, .val 23 (.arr 3 (.int .i64)), .val 24 (.int .i64)] [.row 4 (.int .u8) .full] setup_Bytes_L0
(.seq (.rg [] none)
(.seq (.cond .leaf .leaf)
(.seq (.block (.seq (.rg [] none)
(.rg [] none)))
(.rg [] none))))))
(.seq (.rg [] none)
.leaf)))))
theorem setup_Bytes_Eok : EnvOk Try.prog setup_Bytes_E := env_ok tab_ok (by simp) (allFn_mem (show AllFn Try.prog setup_Bytes_fns from ⟨setup_Right_ok, number_PutLittle_ok, slices_Concat_byte_ok, trivial⟩)) mixed (by kernel_rfl)
theorem setup_Bytes_eq (x : (Int × (Int × (Int × (Int × (Int × Unit)))))) : evF setup_Bytes_E 35 (bd Try.f11) [.val T24] [.tmp 2 ((.sl (.int .u8)), .full), .tmp 3 (.bool, .view)] setup_Bytes_an x = setup_Bytes x := by kernel_rfl
theorem setup_Bytes_ok : FnOk Try.prog 11 { args := [.val T24], res := [((.sl (.int .u8)), .full), (.bool, .view)], f := setup_Bytes } :=
  fn_ok setup_Bytes_Eok Try.func11 rfl (by kernel_rfl) (by kernel_rfl) (by kernel_rfl) (rs := [.tmp 2 ((.sl (.int .u8)), .full), .tmp 3 (.bool, .view)]) (c := bd Try.f11) (an := setup_Bytes_an) (show obF setup_Bytes_E 35 (bd Try.f11) [.val T24] [.tmp 2 ((.sl (.int .u8)), .full), .tmp 3 (.bool, .view)] setup_Bytes_an from (And.intro trivial (And.intro (And.intro trivial (And.intro (And.intro trivial trivial) trivial)) (And.intro trivial (And.intro (And.intro trivial (And.intro (fun _ => rfl) (And.intro (fun n j => by kernel_rfl) (fun n => (And.intro trivial (And.intro (And.intro trivial trivial) (And.intro (And.intro trivial trivial) trivial))))))) (And.intro trivial trivial)))))) setup_Bytes_eq
/-! number_mask: function 29 -/
noncomputable def number_mask_fns : List (Nat × Fun) := []
noncomputable def number_mask_E : Env := { ty := Re.look tyTab, eq := fun n => memB n [], fn := Re.look number_mask_fns, cut := fun n => memB n [], win := fun n => memB n [], one := fun n => memB n [], onc := fun n => memB n [], parr := Re.look [] }
noncomputable def number_mask_an : An (Ds ((([.tmp 4 ((.int .u64), .view)] : List RV).map RV.pm).map (·.1) ++ ioTys [.val (.int .i64), .val (.int .i64)])) :=
(.seq (.rg [] none)
(.seq (.seq (.rg [] (some (.op ⟨[], []⟩ (.op ⟨[], []⟩ (.op ⟨[], []⟩ (.split 7 [(10, .bool)] (.op ⟨[], []⟩ (.op ⟨[], []⟩ (.op ⟨[], []⟩ .done))) (.op ⟨[], []⟩ (.split 11 [(14, .bool)] (.op ⟨[], []⟩ (.op ⟨[], []⟩ (.op ⟨[], []⟩ .done))) (.op ⟨[], []⟩ (.split 15 [(20, .bool)] (.op ⟨[], []⟩ (.op ⟨[], []⟩ (.op ⟨[], []⟩ (.op ⟨[], []⟩ (.op ⟨[], []⟩ .done))))) .done))))))))))
(.cond (.seq (.rg [] none)
.leaf) .leaf))
(.seq (.rg [] none)
.leaf)))
theorem number_mask_Eok : EnvOk Try.prog number_mask_E := env_ok tab_ok (by simp) (allFn_mem (show AllFn Try.prog number_mask_fns from trivial)) mixed (by kernel_rfl)
theorem number_mask_eq (x : Int × Int) : evF number_mask_E 26 (bd Try.f29) [.val (.int .i64), .val (.int .i64)] [.tmp 4 ((.int .u64), .view)] number_mask_an x = number_mask x := by kernel_rfl
theorem number_mask_ok : FnOk Try.prog 29 { args := [.val (.int .i64), .val (.int .i64)], res := [((.int .u64), .view)], f := number_mask } :=
  fn_ok number_mask_Eok Try.func29 rfl (by kernel_rfl) (by kernel_rfl) (by kernel_rfl) (rs := [.tmp 4 ((.int .u64), .view)]) (c := bd Try.f29) (an := number_mask_an) (ob_flat _ _ _ _ _ _ _ (by kernel_rfl)) number_mask_eq
/-! number_Bits: function 28 -/
noncomputable def number_Bits_fns : List (Nat × Fun) := [(29, { args := [.val (.int .i64), .val (.int .i64)], res := [((.int .u64), .view)], f := number_mask })]
noncomputable def number_Bits_E : Env := { ty := Re.look tyTab, eq := fun n => memB n [], fn := Re.look number_Bits_fns, cut := fun n => memB n [], win := fun n => memB n [], one := fun n => memB n [], onc := fun n => memB n [], parr := Re.look [] }
noncomputable def number_Bits_an : An (Ds ((([.tmp 6 ((.int .u64), .view)] : List RV).map RV.pm).map (·.1) ++ ioTys [.val (.int .u64), .val (.int .i64), .val (.int .i64)])) :=
(.seq (.rg [] none)
(.seq (.rg [] none)
(.seq (.seq (.rg [] none)
(.cond (.seq (.rg [] none)
.leaf) .leaf))
(.seq (.rg [] none)
.leaf))))
theorem number_Bits_Eok : EnvOk Try.prog number_Bits_E := env_ok tab_ok (by simp) (allFn_mem (show AllFn Try.prog number_Bits_fns from ⟨number_mask_ok, trivial⟩)) mixed (by kernel_rfl)
theorem number_Bits_eq (x : (BitVec 64) × Int × Int) : evF number_Bits_E 18 (bd Try.f28) [.val (.int .u64), .val (.int .i64), .val (.int .i64)] [.tmp 6 ((.int .u64), .view)] number_Bits_an x = number_Bits x := by kernel_rfl
theorem number_Bits_ok : FnOk Try.prog 28 { args := [.val (.int .u64), .val (.int .i64), .val (.int .i64)], res := [((.int .u64), .view)], f := number_Bits } :=
  fn_ok number_Bits_Eok Try.func28 rfl (by kernel_rfl) (by kernel_rfl) (by kernel_rfl) (rs := [.tmp 6 ((.int .u64), .view)]) (c := bd Try.f28) (an := number_Bits_an) (ob_flat _ _ _ _ _ _ _ (by kernel_rfl)) number_Bits_eq
/-! setup_kind: function 24 -/
noncomputable def setup_kind_fns : List (Nat × Fun) := [(13, { args := [.val T24], res := [(.bool, .view)], f := setup_Right }), (28, { args := [.val (.int .u64), .val (.int .i64), .val (.int .i64)], res := [((.int .u64), .view)], f := number_Bits })]
noncomputable def setup_kind_E : Env := { ty := Re.look tyTab, eq := fun n => memB n [], fn := Re.look setup_kind_fns, cut := fun n => memB n [], win := fun n => memB n [], one := fun n => memB n [], onc := fun n => memB n [], parr := Re.look [] }
noncomputable def setup_kind_an : An (Ds ((([.tmp 6 ((.int .i64), .view)] : List RV).map RV.pm).map (·.1) ++ ioTys [.val T24, .val (.int .i64), .val (.int .i64)])) :=
(.seq (.rg [] none)
(.seq (.seq (.rg [] none)
(.cond (.seq (.rg [] none)
.leaf) .leaf))
(.seq (.rg [] none)
.leaf)))
theorem setup_kind_Eok : EnvOk Try.prog setup_kind_E := env_ok tab_ok (by simp) (allFn_mem (show AllFn Try.prog setup_kind_fns from ⟨setup_Right_ok, number_Bits_ok, trivial⟩)) mixed (by kernel_rfl)
theorem setup_kind_eq (x : (Int × (Int × (Int × (Int × (Int × Unit))))) × Int × Int) : evF setup_kind_E 17 (bd Try.f24) [.val T24, .val (.int .i64), .val (.int .i64)] [.tmp 6 ((.int .i64), .view)] setup_kind_an x = setup_kind x := by kernel_rfl
theorem setup_kind_ok : FnOk Try.prog 24 { args := [.val T24, .val (.int .i64), .val (.int .i64)], res := [((.int .i64), .view)], f := setup_kind } :=
  fn_ok setup_kind_Eok Try.func24 rfl (by kernel_rfl) (by kernel_rfl) (by kernel_rfl) (rs := [.tmp 6 ((.int .i64), .view)]) (c := bd Try.f24) (an := setup_kind_an) (ob_flat _ _ _ _ _ _ _ (by kernel_rfl)) setup_kind_eq
/-! setup_Dir: function 14 -/
noncomputable def setup_Dir_fns : List (Nat × Fun) := [(13, { args := [.val T24], res := [(.bool, .view)], f := setup_Right }), (24, { args := [.val T24, .val (.int .i64), .val (.int .i64)], res := [((.int .i64), .view)], f := setup_kind })]
noncomputable def setup_Dir_E : Env := { ty := Re.look tyTab, eq := fun n => memB n [], fn := Re.look setup_Dir_fns, cut := fun n => memB n [], win := fun n => memB n [], one := fun n => memB n [], onc := fun n => memB n [], parr := Re.look [] }
noncomputable def setup_Dir_an : An (Ds ((([.tmp 2 ((.int .i64), .view)] : List RV).map RV.pm).map (·.1) ++ ioTys [.val T24])) :=
(.seq (.rg [] none)
(.seq (.block (.seq (.rg [] (some (.op ⟨[16], []⟩ (.op ⟨[16], []⟩ (.op ⟨[], []⟩ (.op ⟨[], []⟩ (.split 7 [(11, .bool)] (.op ⟨[16], []⟩ (.op ⟨[144], []⟩ (.op ⟨[], []⟩ (.op ⟨[], []⟩ .done)))) (.op ⟨[], []⟩ .done))))))))
(.cond (.seq (.rg [] none)
.leaf) (.seq (.rg [] none)
(.cond (.seq (.rg [] none)
.leaf) .leaf)))))
(.seq (.rg [] none)
.leaf)))
theorem setup_Dir_Eok : EnvOk Try.prog setup_Dir_E := env_ok tab_ok (by simp) (allFn_mem (show AllFn Try.prog setup_Dir_fns from ⟨setup_Right_ok, setup_kind_ok, trivial⟩)) mixed (by kernel_rfl)
theorem setup_Dir_eq (x : (Int × (Int × (Int × (Int × (Int × Unit)))))) : evF setup_Dir_E 16 (bd Try.f14) [.val T24] [.tmp 2 ((.int .i64), .view)] setup_Dir_an x = setup_Dir x := by kernel_rfl
theorem setup_Dir_ok : FnOk Try.prog 14 { args := [.val T24], res := [((.int .i64), .view)], f := setup_Dir } :=
  fn_ok setup_Dir_Eok Try.func14 rfl (by kernel_rfl) (by kernel_rfl) (by kernel_rfl) (rs := [.tmp 2 ((.int .i64), .view)]) (c := bd Try.f14) (an := setup_Dir_an) (ob_flat _ _ _ _ _ _ _ (by kernel_rfl)) setup_Dir_eq
/-! setup_Class: function 16 -/
noncomputable def setup_Class_fns : List (Nat × Fun) := [(24, { args := [.val T24, .val (.int .i64), .val (.int .i64)], res := [((.int .i64), .view)], f := setup_kind })]
noncomputable def setup_Class_E : Env := { ty := Re.look tyTab, eq := fun n => memB n [], fn := Re.look setup_Class_fns, cut := fun n => memB n [], win := fun n => memB n [], one := fun n => memB n [], onc := fun n => memB n [], parr := Re.look [] }
noncomputable def setup_Class_an : An (Ds ((([.tmp 2 ((.int .i64), .view)] : List RV).map RV.pm).map (·.1) ++ ioTys [.val T24])) :=
(.seq (.rg [] none)
(.seq (.rg [] none)
.leaf))
theorem setup_Class_Eok : EnvOk Try.prog setup_Class_E := env_ok tab_ok (by simp) (allFn_mem (show AllFn Try.prog setup_Class_fns from ⟨setup_kind_ok, trivial⟩)) mixed (by kernel_rfl)
theorem setup_Class_eq (x : (Int × (Int × (Int × (Int × (Int × Unit)))))) : evF setup_Class_E 5 (bd Try.f16) [.val T24] [.tmp 2 ((.int .i64), .view)] setup_Class_an x = setup_Class x := by kernel_rfl
theorem setup_Class_ok : FnOk Try.prog 16 { args := [.val T24], res := [((.int .i64), .view)], f := setup_Class } :=
  fn_ok setup_Class_Eok Try.func16 rfl (by kernel_rfl) (by kernel_rfl) (by kernel_rfl) (rs := [.tmp 2 ((.int .i64), .view)]) (c := bd Try.f16) (an := setup_Class_an) (ob_flat _ _ _ _ _ _ _ (by kernel_rfl)) setup_Class_eq
/-! setup_Whom: function 18 -/
noncomputable def setup_Whom_fns : List (Nat × Fun) := [(24, { args := [.val T24, .val (.int .i64), .val (.int .i64)], res := [((.int .i64), .view)], f := setup_kind })]
noncomputable def setup_Whom_E : Env := { ty := Re.look tyTab, eq := fun n => memB n [], fn := Re.look setup_Whom_fns, cut := fun n => memB n [], win := fun n => memB n [], one := fun n => memB n [], onc := fun n => memB n [], parr := Re.look [] }
noncomputable def setup_Whom_an : An (Ds ((([.tmp 2 ((.int .i64), .view)] : List RV).map RV.pm).map (·.1) ++ ioTys [.val T24])) :=
(.seq (.rg [] none)
(.seq (.rg [] none)
.leaf))
theorem setup_Whom_Eok : EnvOk Try.prog setup_Whom_E := env_ok tab_ok (by simp) (allFn_mem (show AllFn Try.prog setup_Whom_fns from ⟨setup_kind_ok, trivial⟩)) mixed (by kernel_rfl)
theorem setup_Whom_eq (x : (Int × (Int × (Int × (Int × (Int × Unit)))))) : evF setup_Whom_E 5 (bd Try.f18) [.val T24] [.tmp 2 ((.int .i64), .view)] setup_Whom_an x = setup_Whom x := by kernel_rfl
theorem setup_Whom_ok : FnOk Try.prog 18 { args := [.val T24], res := [((.int .i64), .view)], f := setup_Whom } :=
  fn_ok setup_Whom_Eok Try.func18 rfl (by kernel_rfl) (by kernel_rfl) (by kernel_rfl) (rs := [.tmp 2 ((.int .i64), .view)]) (c := bd Try.f18) (an := setup_Whom_an) (ob_flat _ _ _ _ _ _ _ (by kernel_rfl)) setup_Whom_eq
/-! reticulelaw15_alive: function 8 -/
noncomputable def reticulelaw15_alive_fns : List (Nat × Fun) := [(9, { args := [.val (.sl (.int .u8))], res := [(T24, .view), (.bool, .view)], f := setup_Parse }), (11, { args := [.val T24], res := [((.sl (.int .u8)), .full), (.bool, .view)], f := setup_Bytes }), (14, { args := [.val T24], res := [((.int .i64), .view)], f := setup_Dir }), (16, { args := [.val T24], res := [((.int .i64), .view)], f := setup_Class }), (18, { args := [.val T24], res := [((.int .i64), .view)], f := setup_Whom }), (13, { args := [.val T24], res := [(.bool, .view)], f := setup_Right })]
noncomputable def reticulelaw15_alive_E : Env := { ty := Re.look tyTab, eq := fun n => memB n [25], fn := Re.look reticulelaw15_alive_fns, cut := fun n => memB n [], win := fun n => memB n [], one := fun n => memB n [], onc := fun n => memB n [], parr := Re.look [] }
noncomputable def reticulelaw15_alive_an : An (Ds ((([.tmp 0 (.bool, .view)] : List RV).map RV.pm).map (·.1) ++ ioTys [])) :=
(.seq (.rg [] none)
(.seq (.rg [] none)
(.seq (.rg [] none)
(.seq (.rg [] none)
(.seq (.rg [] none)
(.seq (.rg [] none)
(.seq (.rg [] (some (.op ⟨[], []⟩ (.op ⟨[], []⟩ (.split 32 [(34, .bool)] (.op ⟨[], []⟩ (.op ⟨[], []⟩ .done)) (.op ⟨[], []⟩ (.split 35 [(38, .bool)] (.op ⟨[], []⟩ (.op ⟨[], []⟩ (.op ⟨[], []⟩ .done))) (.op ⟨[], []⟩ (.split 39 [(42, .bool)] (.op ⟨[], []⟩ (.op ⟨[], []⟩ (.op ⟨[], []⟩ .done))) (.op ⟨[], []⟩ (.split 43 [(47, .bool)] (.op ⟨[16], []⟩ (.op ⟨[], []⟩ (.op ⟨[], []⟩ (.op ⟨[], []⟩ .done)))) (.op ⟨[], []⟩ (.split 48 [(52, .bool)] (.op ⟨[], []⟩ (.op ⟨[272], []⟩ (.op ⟨[], []⟩ (.op ⟨[], []⟩ .done)))) (.op ⟨[], []⟩ (.split 53 [(57, .bool)] (.op ⟨[16], []⟩ (.op ⟨[880], []⟩ (.op ⟨[], []⟩ (.op ⟨[], []⟩ .done)))) (.op ⟨[], []⟩ (.split 58 [(62, .bool)] (.op ⟨[144], []⟩ (.op ⟨[960], []⟩ (.op ⟨[], []⟩ (.op ⟨[], []⟩ .done)))) (.op ⟨[], []⟩ (.split 63 [(67, .bool)] (.op ⟨[144], []⟩ (.op ⟨[1040], []⟩ (.op ⟨[], []⟩ (.op ⟨[], []⟩ .done)))) (.op ⟨[], []⟩ (.split 68 [(72, .bool)] (.op ⟨[144], []⟩ (.op ⟨[1120], []⟩ (.op ⟨[], []⟩ (.op ⟨[], []⟩ .done)))) (.op ⟨[], []⟩ (.split 73 [(76, .bool)] (.op ⟨[144], []⟩ (.op ⟨[1200], []⟩ (.op ⟨[], []⟩ .done))) (.op ⟨[], []⟩ .done))))))))))))))))))))))))
.leaf)))))))
theorem reticulelaw15_alive_Eok : EnvOk Try.prog reticulelaw15_alive_E := env_ok tab_ok (by intro t h; simp only [List.mem_cons, List.mem_nil_iff, or_false, List.not_mem_nil] at h; rcases h with rfl <;> exact ⟨by kernel_rfl, by kernel_rfl, by kernel_rfl⟩) (allFn_mem (show AllFn Try.prog reticulelaw15_alive_fns from ⟨setup_Parse_ok, setup_Bytes_ok, setup_Dir_ok, setup_Class_ok, setup_Whom_ok, setup_Right_ok, trivial⟩)) mixed (by kernel_rfl)
theorem reticulelaw15_alive_eq (x : Unit) : evF reticulelaw15_alive_E 77 (bd Try.f8) [] [.tmp 0 (.bool, .view)] reticulelaw15_alive_an x = reticulelaw15_alive x := by kernel_rfl
theorem reticulelaw15_alive_ok : FnOk Try.prog 8 { args := [], res := [(.bool, .view)], f := reticulelaw15_alive } :=
  fn_ok reticulelaw15_alive_Eok Try.func8 rfl (by kernel_rfl) (by kernel_rfl) (by kernel_rfl) (rs := [.tmp 0 (.bool, .view)]) (c := bd Try.f8) (an := reticulelaw15_alive_an) (ob_flat _ _ _ _ _ _ _ (by kernel_rfl)) reticulelaw15_alive_eq
/-! reticuleref15_Parse: function 10 -/
noncomputable def reticuleref15_Parse_fns : List (Nat × Fun) := []
noncomputable def reticuleref15_Parse_E : Env := { ty := Re.look tyTab, eq := fun n => memB n [], fn := Re.look reticuleref15_Parse_fns, cut := fun n => memB n [], win := fun n => memB n [], one := fun n => memB n [], onc := fun n => memB n [], parr := Re.look [] }
noncomputable def reticuleref15_Parse_an : An (Ds ((([.cell 2 T24, .tmp 3 (.bool, .view)] : List RV).map RV.pm).map (·.1) ++ ioTys [.val (.sl (.int .u8))])) :=
(.seq (.rg [] none)
(.seq (.seq (.rg [] none)
(.cond (.seq (.rg [] none)
.leaf) .leaf))
(.seq (.rg [] (some (.op ⟨[], []⟩ (.op ⟨[], []⟩ (.op ⟨[], []⟩ (.op ⟨[], []⟩ (.op ⟨[], []⟩ (.op ⟨[], []⟩ (.op ⟨[], []⟩ (.op ⟨[], []⟩ (.op ⟨[], []⟩ (.op ⟨[], []⟩ (.op ⟨[], []⟩ (.op ⟨[], []⟩ (.op ⟨[], []⟩ (.op ⟨[], []⟩ (.op ⟨[], []⟩ (.op ⟨[], []⟩ (.op ⟨[], []⟩ (.op ⟨[], []⟩ (.op ⟨[], []⟩ (.op ⟨[], []⟩ (.op ⟨[], []⟩ (.op ⟨[], []⟩ (.op ⟨[], []⟩ (.op ⟨[], []⟩ (.op ⟨[], []⟩ (.op ⟨[], []⟩ (.op ⟨[], []⟩ (.op ⟨[], []⟩ (.op ⟨[], []⟩ (.op ⟨[], []⟩ (.op ⟨[], []⟩ (.op ⟨[], []⟩ (.op ⟨[], []⟩ (.op ⟨[], []⟩ (.op ⟨[], []⟩ (.op ⟨[], []⟩ (.op ⟨[], []⟩ (.op ⟨[], []⟩ (.op ⟨[], []⟩ (.op ⟨[32], [32]⟩ (.op ⟨[], []⟩ .done)))))))))))))))))))))))))))))))))))))))))))
.leaf)))
theorem reticuleref15_Parse_Eok : EnvOk Try.prog reticuleref15_Parse_E := env_ok tab_ok (by simp) (allFn_mem (show AllFn Try.prog reticuleref15_Parse_fns from trivial)) mixed (by kernel_rfl)
theorem reticuleref15_Parse_eq (x : (List (BitVec 8))) : evF reticuleref15_Parse_E 47 (bd Try.f10) [.val (.sl (.int .u8))] [.cell 2 T24, .tmp 3 (.bool, .view)] reticuleref15_Parse_an x = reticuleref15_Parse x := by kernel_rfl
theorem reticuleref15_Parse_ok : FnOk Try.prog 10 { args := [.val (.sl (.int .u8))], res := [(T24, .view), (.bool, .view)], f := reticuleref15_Parse } :=
  fn_ok reticuleref15_Parse_Eok Try.func10 rfl (by kernel_rfl) (by kernel_rfl) (by kernel_rfl) (rs := [.cell 2 T24, .tmp 3 (.bool, .view)]) (c := bd Try.f10) (an := reticuleref15_Parse_an) (ob_flat _ _ _ _ _ _ _ (by kernel_rfl)) reticuleref15_Parse_eq
/-! reticulelaw15_SetupParses: function 3 -/
noncomputable def reticulelaw15_SetupParses_fns : List (Nat × Fun) := [(8, { args := [], res := [(.bool, .view)], f := reticulelaw15_alive }), (9, { args := [.val (.sl (.int .u8))], res := [(T24, .view), (.bool, .view)], f := setup_Parse }), (10, { args := [.val (.sl (.int .u8))], res := [(T24, .view), (.bool, .view)], f := reticuleref15_Parse })]
noncomputable def reticulelaw15_SetupParses_E : Env := { ty := Re.look tyTab, eq := fun n => memB n [25], fn := Re.look reticulelaw15_SetupParses_fns, cut := fun n => memB n [], win := fun n => memB n [], one := fun n => memB n [], onc := fun n => memB n [], parr := Re.look [] }
noncomputable def reticulelaw15_SetupParses_an : An (Ds ((([.tmp 2 (.bool, .view)] : List RV).map RV.pm).map (·.1) ++ ioTys [.val (.sl (.int .u8))])) :=
(.seq (.rg [] none)
(.seq (.seq (.rg [] none)
(.cond (.seq (.rg [] none)
.leaf) .leaf))
(.seq (.seq (.rg [] none)
(.cond (.seq (.rg [] none)
.leaf) .leaf))
(.seq (.rg [] none)
(.seq (.rg [] none)
(.seq (.rg [] (some (.op ⟨[48], []⟩ (.op ⟨[80], []⟩ (.op ⟨[], []⟩ (.op ⟨[], []⟩ (.split 25 [(29, .bool)] (.op ⟨[], []⟩ (.op ⟨[], []⟩ (.op ⟨[], []⟩ (.op ⟨[], []⟩ .done)))) (.op ⟨[], []⟩ .done))))))))
.leaf))))))
theorem reticulelaw15_SetupParses_Eok : EnvOk Try.prog reticulelaw15_SetupParses_E := env_ok tab_ok (by intro t h; simp only [List.mem_cons, List.mem_nil_iff, or_false, List.not_mem_nil] at h; rcases h with rfl <;> exact ⟨by kernel_rfl, by kernel_rfl, by kernel_rfl⟩) (allFn_mem (show AllFn Try.prog reticulelaw15_SetupParses_fns from ⟨reticulelaw15_alive_ok, setup_Parse_ok, reticuleref15_Parse_ok, trivial⟩)) mixed (by kernel_rfl)
theorem reticulelaw15_SetupParses_eq (x : (List (BitVec 8))) : evF reticulelaw15_SetupParses_E 30 (bd Try.f3) [.val (.sl (.int .u8))] [.tmp 2 (.bool, .view)] reticulelaw15_SetupParses_an x = reticulelaw15_SetupParses x := by kernel_rfl
theorem reticulelaw15_SetupParses_ok : FnOk Try.prog 3 { args := [.val (.sl (.int .u8))], res := [(.bool, .view)], f := reticulelaw15_SetupParses } :=
  fn_ok reticulelaw15_SetupParses_Eok Try.func3 rfl (by kernel_rfl) (by kernel_rfl) (by kernel_rfl) (rs := [.tmp 2 (.bool, .view)]) (c := bd Try.f3) (an := reticulelaw15_SetupParses_an) (ob_flat _ _ _ _ _ _ _ (by kernel_rfl)) reticulelaw15_SetupParses_eq
/-! reticuleref15_byteful: function 26 -/
noncomputable def reticuleref15_byteful_fns : List (Nat × Fun) := []
noncomputable def reticuleref15_byteful_E : Env := { ty := Re.look tyTab, eq := fun n => memB n [], fn := Re.look reticuleref15_byteful_fns, cut := fun n => memB n [], win := fun n => memB n [], one := fun n => memB n [], onc := fun n => memB n [], parr := Re.look [] }
noncomputable def reticuleref15_byteful_an : An (Ds ((([.tmp 2 (.bool, .view)] : List RV).map RV.pm).map (·.1) ++ ioTys [.val (.int .i64)])) :=
(.seq (.rg [] none)
(.seq (.rg [] (some (.op ⟨[], []⟩ (.op ⟨[], []⟩ (.op ⟨[], []⟩ (.split 5 [(8, .bool)] (.op ⟨[], []⟩ (.op ⟨[], []⟩ (.op ⟨[], []⟩ .done))) (.op ⟨[], []⟩ .done)))))))
.leaf))
theorem reticuleref15_byteful_Eok : EnvOk Try.prog reticuleref15_byteful_E := env_ok tab_ok (by simp) (allFn_mem (show AllFn Try.prog reticuleref15_byteful_fns from trivial)) mixed (by kernel_rfl)
theorem reticuleref15_byteful_eq (x : Int) : evF reticuleref15_byteful_E 9 (bd Try.f26) [.val (.int .i64)] [.tmp 2 (.bool, .view)] reticuleref15_byteful_an x = reticuleref15_byteful x := by kernel_rfl
theorem reticuleref15_byteful_ok : FnOk Try.prog 26 { args := [.val (.int .i64)], res := [(.bool, .view)], f := reticuleref15_byteful } :=
  fn_ok reticuleref15_byteful_Eok Try.func26 rfl (by kernel_rfl) (by kernel_rfl) (by kernel_rfl) (rs := [.tmp 2 (.bool, .view)]) (c := bd Try.f26) (an := reticuleref15_byteful_an) (ob_flat _ _ _ _ _ _ _ (by kernel_rfl)) reticuleref15_byteful_eq
/-! reticuleref15_word: function 27 -/
noncomputable def reticuleref15_word_fns : List (Nat × Fun) := []
noncomputable def reticuleref15_word_E : Env := { ty := Re.look tyTab, eq := fun n => memB n [], fn := Re.look reticuleref15_word_fns, cut := fun n => memB n [], win := fun n => memB n [], one := fun n => memB n [], onc := fun n => memB n [], parr := Re.look [] }
noncomputable def reticuleref15_word_an : An (Ds ((([.tmp 2 (.bool, .view)] : List RV).map RV.pm).map (·.1) ++ ioTys [.val (.int .i64)])) :=
(.seq (.rg [] none)
(.seq (.rg [] (some (.op ⟨[], []⟩ (.op ⟨[], []⟩ (.op ⟨[], []⟩ (.split 5 [(8, .bool)] (.op ⟨[], []⟩ (.op ⟨[], []⟩ (.op ⟨[], []⟩ .done))) (.op ⟨[], []⟩ .done)))))))
.leaf))
theorem reticuleref15_word_Eok : EnvOk Try.prog reticuleref15_word_E := env_ok tab_ok (by simp) (allFn_mem (show AllFn Try.prog reticuleref15_word_fns from trivial)) mixed (by kernel_rfl)
theorem reticuleref15_word_eq (x : Int) : evF reticuleref15_word_E 9 (bd Try.f27) [.val (.int .i64)] [.tmp 2 (.bool, .view)] reticuleref15_word_an x = reticuleref15_word x := by kernel_rfl
theorem reticuleref15_word_ok : FnOk Try.prog 27 { args := [.val (.int .i64)], res := [(.bool, .view)], f := reticuleref15_word } :=
  fn_ok reticuleref15_word_Eok Try.func27 rfl (by kernel_rfl) (by kernel_rfl) (by kernel_rfl) (rs := [.tmp 2 (.bool, .view)]) (c := bd Try.f27) (an := reticuleref15_word_an) (ob_flat _ _ _ _ _ _ _ (by kernel_rfl)) reticuleref15_word_eq
/-! reticuleref15_Right: function 23 -/
noncomputable def reticuleref15_Right_fns : List (Nat × Fun) := [(26, { args := [.val (.int .i64)], res := [(.bool, .view)], f := reticuleref15_byteful }), (27, { args := [.val (.int .i64)], res := [(.bool, .view)], f := reticuleref15_word })]
noncomputable def reticuleref15_Right_E : Env := { ty := Re.look tyTab, eq := fun n => memB n [], fn := Re.look reticuleref15_Right_fns, cut := fun n => memB n [], win := fun n => memB n [], one := fun n => memB n [], onc := fun n => memB n [], parr := Re.look [] }
noncomputable def reticuleref15_Right_an : An (Ds ((([.tmp 2 (.bool, .view)] : List RV).map RV.pm).map (·.1) ++ ioTys [.val T24])) :=
(.seq (.rg [] none)
(.seq (.rg [] (some (.op ⟨[16], []⟩ (.op ⟨[16], []⟩ (.op ⟨[80], []⟩ (.op ⟨[], []⟩ (.split 6 [(10, .bool)] (.op ⟨[16], []⟩ (.op ⟨[16], []⟩ (.op ⟨[144], []⟩ (.op ⟨[], []⟩ .done)))) (.op ⟨[], []⟩ (.split 11 [(15, .bool)] (.op ⟨[16], []⟩ (.op ⟨[16], []⟩ (.op ⟨[224], []⟩ (.op ⟨[], []⟩ .done)))) (.op ⟨[], []⟩ (.split 16 [(20, .bool)] (.op ⟨[16], []⟩ (.op ⟨[16], []⟩ (.op ⟨[304], []⟩ (.op ⟨[], []⟩ .done)))) (.op ⟨[], []⟩ (.split 21 [(25, .bool)] (.op ⟨[16], []⟩ (.op ⟨[16], []⟩ (.op ⟨[384], []⟩ (.op ⟨[], []⟩ .done)))) (.op ⟨[], []⟩ .done))))))))))))))
.leaf))
theorem reticuleref15_Right_Eok : EnvOk Try.prog reticuleref15_Right_E := env_ok tab_ok (by simp) (allFn_mem (show AllFn Try.prog reticuleref15_Right_fns from ⟨reticuleref15_byteful_ok, reticuleref15_word_ok, trivial⟩)) mixed (by kernel_rfl)
theorem reticuleref15_Right_eq (x : (Int × (Int × (Int × (Int × (Int × Unit)))))) : evF reticuleref15_Right_E 26 (bd Try.f23) [.val T24] [.tmp 2 (.bool, .view)] reticuleref15_Right_an x = reticuleref15_Right x := by kernel_rfl
theorem reticuleref15_Right_ok : FnOk Try.prog 23 { args := [.val T24], res := [(.bool, .view)], f := reticuleref15_Right } :=
  fn_ok reticuleref15_Right_Eok Try.func23 rfl (by kernel_rfl) (by kernel_rfl) (by kernel_rfl) (rs := [.tmp 2 (.bool, .view)]) (c := bd Try.f23) (an := reticuleref15_Right_an) (ob_flat _ _ _ _ _ _ _ (by kernel_rfl)) reticuleref15_Right_eq
/-! reticuleref15_Bytes: function 12 -/
noncomputable def reticuleref15_Bytes_fns : List (Nat × Fun) := [(23, { args := [.val T24], res := [(.bool, .view)], f := reticuleref15_Right })]
noncomputable def reticuleref15_Bytes_E : Env := { ty := Re.look tyTab, eq := fun n => memB n [], fn := Re.look reticuleref15_Bytes_fns, cut := fun n => memB n [], win := fun n => memB n [], one := fun n => memB n [], onc := fun n => memB n [], parr := Re.look [] }
noncomputable def reticuleref15_Bytes_an : An (Ds ((([.tmp 2 ((.sl (.int .u8)), .full), .tmp 3 (.bool, .view)] : List RV).map RV.pm).map (·.1) ++ ioTys [.val T24])) :=
(.seq (.rg [] none)
(.seq (.seq (.rg [] none)
(.cond (.seq (.rg [] none)
.leaf) .leaf))
(.seq (.rg [] none)
.leaf)))
theorem reticuleref15_Bytes_Eok : EnvOk Try.prog reticuleref15_Bytes_E := env_ok tab_ok (by simp) (allFn_mem (show AllFn Try.prog reticuleref15_Bytes_fns from ⟨reticuleref15_Right_ok, trivial⟩)) mixed (by kernel_rfl)
theorem reticuleref15_Bytes_eq (x : (Int × (Int × (Int × (Int × (Int × Unit)))))) : evF reticuleref15_Bytes_E 38 (bd Try.f12) [.val T24] [.tmp 2 ((.sl (.int .u8)), .full), .tmp 3 (.bool, .view)] reticuleref15_Bytes_an x = reticuleref15_Bytes x := by kernel_rfl
theorem reticuleref15_Bytes_ok : FnOk Try.prog 12 { args := [.val T24], res := [((.sl (.int .u8)), .full), (.bool, .view)], f := reticuleref15_Bytes } :=
  fn_ok reticuleref15_Bytes_Eok Try.func12 rfl (by kernel_rfl) (by kernel_rfl) (by kernel_rfl) (rs := [.tmp 2 ((.sl (.int .u8)), .full), .tmp 3 (.bool, .view)]) (c := bd Try.f12) (an := reticuleref15_Bytes_an) (ob_flat _ _ _ _ _ _ _ (by kernel_rfl)) reticuleref15_Bytes_eq
/-! reticulelaw15_SetupBytes: function 4 -/
noncomputable def reticulelaw15_SetupBytes_fns : List (Nat × Fun) := [(8, { args := [], res := [(.bool, .view)], f := reticulelaw15_alive }), (11, { args := [.val T24], res := [((.sl (.int .u8)), .full), (.bool, .view)], f := setup_Bytes }), (12, { args := [.val T24], res := [((.sl (.int .u8)), .full), (.bool, .view)], f := reticuleref15_Bytes }), (13, { args := [.val T24], res := [(.bool, .view)], f := setup_Right })]
noncomputable def reticulelaw15_SetupBytes_E : Env := { ty := Re.look tyTab, eq := fun n => memB n [], fn := Re.look reticulelaw15_SetupBytes_fns, cut := fun n => memB n [], win := fun n => memB n [], one := fun n => memB n [], onc := fun n => memB n [], parr := Re.look [] }
noncomputable def reticulelaw15_SetupBytes_an : An (Ds ((([.tmp 2 (.bool, .view)] : List RV).map RV.pm).map (·.1) ++ ioTys [.val T24])) :=
(.seq (.rg [] none)
(.seq (.seq (.rg [] none)
(.cond (.seq (.rg [] none)
.leaf) .leaf))
(.seq (.rg [] none)
(.seq (.rg [] none)
(.seq (.rg [] (some (.op ⟨[], []⟩ (.op ⟨[176], []⟩ (.op ⟨[], []⟩ (.op ⟨[256], []⟩ (.op ⟨[], []⟩ (.op ⟨[], []⟩ (.split 24 [(28, .bool)] (.op ⟨[], []⟩ (.op ⟨[], []⟩ (.op ⟨[], []⟩ (.op ⟨[], []⟩ .done)))) (.op ⟨[], []⟩ (.split 29 [(34, .bool)] (.op ⟨[16], []⟩ (.op ⟨[496], []⟩ (.op ⟨[], []⟩ (.op ⟨[], []⟩ (.op ⟨[], []⟩ .done))))) (.op ⟨[], []⟩ .done))))))))))))
.leaf)))))
theorem reticulelaw15_SetupBytes_Eok : EnvOk Try.prog reticulelaw15_SetupBytes_E := env_ok tab_ok (by simp) (allFn_mem (show AllFn Try.prog reticulelaw15_SetupBytes_fns from ⟨reticulelaw15_alive_ok, setup_Bytes_ok, reticuleref15_Bytes_ok, setup_Right_ok, trivial⟩)) mixed (by kernel_rfl)
theorem reticulelaw15_SetupBytes_eq (x : (Int × (Int × (Int × (Int × (Int × Unit)))))) : evF reticulelaw15_SetupBytes_E 35 (bd Try.f4) [.val T24] [.tmp 2 (.bool, .view)] reticulelaw15_SetupBytes_an x = reticulelaw15_SetupBytes x := by kernel_rfl
theorem reticulelaw15_SetupBytes_ok : FnOk Try.prog 4 { args := [.val T24], res := [(.bool, .view)], f := reticulelaw15_SetupBytes } :=
  fn_ok reticulelaw15_SetupBytes_Eok Try.func4 rfl (by kernel_rfl) (by kernel_rfl) (by kernel_rfl) (rs := [.tmp 2 (.bool, .view)]) (c := bd Try.f4) (an := reticulelaw15_SetupBytes_an) (ob_flat _ _ _ _ _ _ _ (by kernel_rfl)) reticulelaw15_SetupBytes_eq
/-! reticuleref15_Dir: function 15 -/
noncomputable def reticuleref15_Dir_fns : List (Nat × Fun) := [(23, { args := [.val T24], res := [(.bool, .view)], f := reticuleref15_Right })]
noncomputable def reticuleref15_Dir_E : Env := { ty := Re.look tyTab, eq := fun n => memB n [], fn := Re.look reticuleref15_Dir_fns, cut := fun n => memB n [], win := fun n => memB n [], one := fun n => memB n [], onc := fun n => memB n [], parr := Re.look [] }
noncomputable def reticuleref15_Dir_an : An (Ds ((([.tmp 2 ((.int .i64), .view)] : List RV).map RV.pm).map (·.1) ++ ioTys [.val T24])) :=
(.seq (.rg [] none)
(.seq (.seq (.rg [] (some (.op ⟨[16], []⟩ (.op ⟨[64], []⟩ (.op ⟨[], []⟩ (.op ⟨[], []⟩ (.split 6 [(10, .bool)] (.op ⟨[16], []⟩ (.op ⟨[16], []⟩ (.op ⟨[], []⟩ (.op ⟨[], []⟩ .done)))) .done)))))))
(.cond (.seq (.rg [] none)
.leaf) .leaf))
(.seq (.seq (.rg [] none)
(.cond (.seq (.rg [] none)
.leaf) .leaf))
(.seq (.rg [] none)
.leaf))))
theorem reticuleref15_Dir_Eok : EnvOk Try.prog reticuleref15_Dir_E := env_ok tab_ok (by simp) (allFn_mem (show AllFn Try.prog reticuleref15_Dir_fns from ⟨reticuleref15_Right_ok, trivial⟩)) mixed (by kernel_rfl)
theorem reticuleref15_Dir_eq (x : (Int × (Int × (Int × (Int × (Int × Unit)))))) : evF reticuleref15_Dir_E 14 (bd Try.f15) [.val T24] [.tmp 2 ((.int .i64), .view)] reticuleref15_Dir_an x = reticuleref15_Dir x := by kernel_rfl
theorem reticuleref15_Dir_ok : FnOk Try.prog 15 { args := [.val T24], res := [((.int .i64), .view)], f := reticuleref15_Dir } :=
  fn_ok reticuleref15_Dir_Eok Try.func15 rfl (by kernel_rfl) (by kernel_rfl) (by kernel_rfl) (rs := [.tmp 2 ((.int .i64), .view)]) (c := bd Try.f15) (an := reticuleref15_Dir_an) (ob_flat _ _ _ _ _ _ _ (by kernel_rfl)) reticuleref15_Dir_eq
/-! reticuleref15_Class: function 17 -/
noncomputable def reticuleref15_Class_fns : List (Nat × Fun) := [(23, { args := [.val T24], res := [(.bool, .view)], f := reticuleref15_Right })]
noncomputable def reticuleref15_Class_E : Env := { ty := Re.look tyTab, eq := fun n => memB n [], fn := Re.look reticuleref15_Class_fns, cut := fun n => memB n [], win := fun n => memB n [], one := fun n => memB n [], onc := fun n => memB n [], parr := Re.look [] }
noncomputable def reticuleref15_Class_an : An (Ds ((([.tmp 2 ((.int .i64), .view)] : List RV).map RV.pm).map (·.1) ++ ioTys [.val T24])) :=
(.seq (.rg [] none)
(.seq (.seq (.rg [] none)
(.cond (.seq (.rg [] none)
.leaf) .leaf))
(.seq (.rg [] none)
.leaf)))
theorem reticuleref15_Class_Eok : EnvOk Try.prog reticuleref15_Class_E := env_ok tab_ok (by simp) (allFn_mem (show AllFn Try.prog reticuleref15_Class_fns from ⟨reticuleref15_Right_ok, trivial⟩)) mixed (by kernel_rfl)
theorem reticuleref15_Class_eq (x : (Int × (Int × (Int × (Int × (Int × Unit)))))) : evF reticuleref15_Class_E 10 (bd Try.f17) [.val T24] [.tmp 2 ((.int .i64), .view)] reticuleref15_Class_an x = reticuleref15_Class x := by kernel_rfl
theorem reticuleref15_Class_ok : FnOk Try.prog 17 { args := [.val T24], res := [((.int .i64), .view)], f := reticuleref15_Class } :=
  fn_ok reticuleref15_Class_Eok Try.func17 rfl (by kernel_rfl) (by kernel_rfl) (by kernel_rfl) (rs := [.tmp 2 ((.int .i64), .view)]) (c := bd Try.f17) (an := reticuleref15_Class_an) (ob_flat _ _ _ _ _ _ _ (by kernel_rfl)) reticuleref15_Class_eq
/-! reticuleref15_Whom: function 19 -/
noncomputable def reticuleref15_Whom_fns : List (Nat × Fun) := [(23, { args := [.val T24], res := [(.bool, .view)], f := reticuleref15_Right })]
noncomputable def reticuleref15_Whom_E : Env := { ty := Re.look tyTab, eq := fun n => memB n [], fn := Re.look reticuleref15_Whom_fns, cut := fun n => memB n [], win := fun n => memB n [], one := fun n => memB n [], onc := fun n => memB n [], parr := Re.look [] }
noncomputable def reticuleref15_Whom_an : An (Ds ((([.tmp 2 ((.int .i64), .view)] : List RV).map RV.pm).map (·.1) ++ ioTys [.val T24])) :=
(.seq (.rg [] none)
(.seq (.seq (.rg [] none)
(.cond (.seq (.rg [] none)
.leaf) .leaf))
(.seq (.rg [] none)
.leaf)))
theorem reticuleref15_Whom_Eok : EnvOk Try.prog reticuleref15_Whom_E := env_ok tab_ok (by simp) (allFn_mem (show AllFn Try.prog reticuleref15_Whom_fns from ⟨reticuleref15_Right_ok, trivial⟩)) mixed (by kernel_rfl)
theorem reticuleref15_Whom_eq (x : (Int × (Int × (Int × (Int × (Int × Unit)))))) : evF reticuleref15_Whom_E 9 (bd Try.f19) [.val T24] [.tmp 2 ((.int .i64), .view)] reticuleref15_Whom_an x = reticuleref15_Whom x := by kernel_rfl
theorem reticuleref15_Whom_ok : FnOk Try.prog 19 { args := [.val T24], res := [((.int .i64), .view)], f := reticuleref15_Whom } :=
  fn_ok reticuleref15_Whom_Eok Try.func19 rfl (by kernel_rfl) (by kernel_rfl) (by kernel_rfl) (rs := [.tmp 2 ((.int .i64), .view)]) (c := bd Try.f19) (an := reticuleref15_Whom_an) (ob_flat _ _ _ _ _ _ _ (by kernel_rfl)) reticuleref15_Whom_eq
/-! reticulelaw15_SetupKinds: function 5 -/
noncomputable def reticulelaw15_SetupKinds_fns : List (Nat × Fun) := [(8, { args := [], res := [(.bool, .view)], f := reticulelaw15_alive }), (14, { args := [.val T24], res := [((.int .i64), .view)], f := setup_Dir }), (15, { args := [.val T24], res := [((.int .i64), .view)], f := reticuleref15_Dir }), (16, { args := [.val T24], res := [((.int .i64), .view)], f := setup_Class }), (17, { args := [.val T24], res := [((.int .i64), .view)], f := reticuleref15_Class }), (18, { args := [.val T24], res := [((.int .i64), .view)], f := setup_Whom }), (19, { args := [.val T24], res := [((.int .i64), .view)], f := reticuleref15_Whom })]
noncomputable def reticulelaw15_SetupKinds_E : Env := { ty := Re.look tyTab, eq := fun n => memB n [], fn := Re.look reticulelaw15_SetupKinds_fns, cut := fun n => memB n [], win := fun n => memB n [], one := fun n => memB n [], onc := fun n => memB n [], parr := Re.look [] }
noncomputable def reticulelaw15_SetupKinds_an : An (Ds ((([.tmp 2 (.bool, .view)] : List RV).map RV.pm).map (·.1) ++ ioTys [.val T24])) :=
(.seq (.rg [] none)
(.seq (.seq (.rg [] none)
(.cond (.seq (.rg [] none)
.leaf) .leaf))
(.seq (.rg [] (some (.op ⟨[16], []⟩ (.op ⟨[96], []⟩ (.op ⟨[16], []⟩ (.op ⟨[128], []⟩ (.op ⟨[], []⟩ (.op ⟨[], []⟩ (.split 10 [(16, .bool)] (.op ⟨[16], []⟩ (.op ⟨[192], []⟩ (.op ⟨[16], []⟩ (.op ⟨[224], []⟩ (.op ⟨[], []⟩ (.op ⟨[], []⟩ .done)))))) (.op ⟨[], []⟩ (.split 17 [(23, .bool)] (.op ⟨[16], []⟩ (.op ⟨[304], []⟩ (.op ⟨[16], []⟩ (.op ⟨[336], []⟩ (.op ⟨[], []⟩ (.op ⟨[], []⟩ .done)))))) (.op ⟨[], []⟩ .done))))))))))))
.leaf)))
theorem reticulelaw15_SetupKinds_Eok : EnvOk Try.prog reticulelaw15_SetupKinds_E := env_ok tab_ok (by simp) (allFn_mem (show AllFn Try.prog reticulelaw15_SetupKinds_fns from ⟨reticulelaw15_alive_ok, setup_Dir_ok, reticuleref15_Dir_ok, setup_Class_ok, reticuleref15_Class_ok, setup_Whom_ok, reticuleref15_Whom_ok, trivial⟩)) mixed (by kernel_rfl)
theorem reticulelaw15_SetupKinds_eq (x : (Int × (Int × (Int × (Int × (Int × Unit)))))) : evF reticulelaw15_SetupKinds_E 24 (bd Try.f5) [.val T24] [.tmp 2 (.bool, .view)] reticulelaw15_SetupKinds_an x = reticulelaw15_SetupKinds x := by kernel_rfl
theorem reticulelaw15_SetupKinds_ok : FnOk Try.prog 5 { args := [.val T24], res := [(.bool, .view)], f := reticulelaw15_SetupKinds } :=
  fn_ok reticulelaw15_SetupKinds_Eok Try.func5 rfl (by kernel_rfl) (by kernel_rfl) (by kernel_rfl) (rs := [.tmp 2 (.bool, .view)]) (c := bd Try.f5) (an := reticulelaw15_SetupKinds_an) (ob_flat _ _ _ _ _ _ _ (by kernel_rfl)) reticulelaw15_SetupKinds_eq
/-! reticulelaw15_SetupBack: function 6 -/
noncomputable def reticulelaw15_SetupBack_fns : List (Nat × Fun) := [(8, { args := [], res := [(.bool, .view)], f := reticulelaw15_alive }), (11, { args := [.val T24], res := [((.sl (.int .u8)), .full), (.bool, .view)], f := setup_Bytes }), (9, { args := [.val (.sl (.int .u8))], res := [(T24, .view), (.bool, .view)], f := setup_Parse })]
noncomputable def reticulelaw15_SetupBack_E : Env := { ty := Re.look tyTab, eq := fun n => memB n [25], fn := Re.look reticulelaw15_SetupBack_fns, cut := fun n => memB n [], win := fun n => memB n [], one := fun n => memB n [3], onc := fun n => memB n [], parr := Re.look [] }
noncomputable def reticulelaw15_SetupBack_an : An (Ds ((([.tmp 4 (.bool, .view)] : List RV).map RV.pm).map (·.1) ++ ioTys [.val T24, .val (.arr 8 (.int .u8))])) :=
(.seq (.rg [] none)
(.seq (.seq (.rg [] none)
(.cond (.seq (.rg [] none)
.leaf) .leaf))
(.seq (.rg [] none)
(.join [.rpt 3 (.arr 8 (.int .u8))]
(.seq (.rg [] none)
(.cond (.seq (.rg [] none)
(.seq (.rg [] (some (.op ⟨[], []⟩ (.op ⟨[], []⟩ (.op ⟨[], []⟩ (.split 28 [(32, .bool)] (.op ⟨[112], []⟩ (.op ⟨[32], []⟩ (.op ⟨[], []⟩ (.op ⟨[], []⟩ .done)))) (.op ⟨[], []⟩ (.split 33 [(37, .bool)] (.op ⟨[], []⟩ (.op ⟨[272], []⟩ (.op ⟨[], []⟩ (.op ⟨[], []⟩ .done)))) .done))))))))
(.cond (.seq (.rg [] none)
.leaf) .leaf))) .leaf))
(.seq (.rg [] none)
(.seq (.rg [] none)
(.seq (.rg [] (some (.op ⟨[], []⟩ (.op ⟨[], []⟩ (.split 49 [(51, .bool)] (.op ⟨[], []⟩ (.op ⟨[], []⟩ .done)) (.op ⟨[], []⟩ (.split 52 [(58, .bool)] (.op ⟨[], []⟩ (.op ⟨[720], []⟩ (.op ⟨[], []⟩ (.op ⟨[], []⟩ (.op ⟨[], []⟩ (.op ⟨[], []⟩ .done)))))) (.op ⟨[], []⟩ .done))))))))
.leaf)))))))
theorem reticulelaw15_SetupBack_Eok : EnvOk Try.prog reticulelaw15_SetupBack_E := env_ok tab_ok (by intro t h; simp only [List.mem_cons, List.mem_nil_iff, or_false, List.not_mem_nil] at h; rcases h with rfl <;> exact ⟨by kernel_rfl, by kernel_rfl, by kernel_rfl⟩) (allFn_mem (show AllFn Try.prog reticulelaw15_SetupBack_fns from ⟨reticulelaw15_alive_ok, setup_Bytes_ok, setup_Parse_ok, trivial⟩)) mixed (by kernel_rfl)
theorem reticulelaw15_SetupBack_eq (x : (Int × (Int × (Int × (Int × (Int × Unit))))) × (List (BitVec 8))) : evF reticulelaw15_SetupBack_E 59 (bd Try.f6) [.val T24, .val (.arr 8 (.int .u8))] [.tmp 4 (.bool, .view)] reticulelaw15_SetupBack_an x = reticulelaw15_SetupBack x := by kernel_rfl
theorem reticulelaw15_SetupBack_ok : FnOk Try.prog 6 { args := [.val T24, .val (.arr 8 (.int .u8))], res := [(.bool, .view)], f := reticulelaw15_SetupBack } :=
  fn_ok reticulelaw15_SetupBack_Eok Try.func6 rfl (by kernel_rfl) (by kernel_rfl) (by kernel_rfl) (rs := [.tmp 4 (.bool, .view)]) (c := bd Try.f6) (an := reticulelaw15_SetupBack_an) (ob_flat _ _ _ _ _ _ _ (by kernel_rfl)) reticulelaw15_SetupBack_eq
/-! reticulelaw15_SetupTurned: function 7 -/
noncomputable def reticulelaw15_SetupTurned_fns : List (Nat × Fun) := [(8, { args := [], res := [(.bool, .view)], f := reticulelaw15_alive }), (11, { args := [.val T24], res := [((.sl (.int .u8)), .full), (.bool, .view)], f := setup_Bytes }), (9, { args := [.val (.sl (.int .u8))], res := [(T24, .view), (.bool, .view)], f := setup_Parse })]
noncomputable def reticulelaw15_SetupTurned_E : Env := { ty := Re.look tyTab, eq := fun n => memB n [25], fn := Re.look reticulelaw15_SetupTurned_fns, cut := fun n => memB n [], win := fun n => memB n [], one := fun n => memB n [], onc := fun n => memB n [], parr := Re.look [] }
noncomputable def reticulelaw15_SetupTurned_an : An (Ds ((([.tmp 4 (.bool, .view)] : List RV).map RV.pm).map (·.1) ++ ioTys [.val T24, .val (.int .u8)])) :=
(.seq (.rg [] none)
(.seq (.seq (.rg [] none)
(.cond (.seq (.rg [] none)
.leaf) .leaf))
(.seq (.rg [] none)
(.seq (.seq (.rg [] (some (.op ⟨[], []⟩ (.op ⟨[], []⟩ (.op ⟨[], []⟩ (.split 19 [(23, .bool)] (.op ⟨[], []⟩ (.op ⟨[224], []⟩ (.op ⟨[], []⟩ (.op ⟨[], []⟩ .done)))) .done))))))
(.cond (.seq (.rg [] (some (.op ⟨[], []⟩ (.op ⟨[], []⟩ (.op ⟨[], []⟩ (.split 26 [(30, .bool)] (.op ⟨[], []⟩ (.op ⟨[224], []⟩ (.op ⟨[], []⟩ (.op ⟨[], []⟩ .done)))) (.op ⟨[], []⟩ .done)))))))
.leaf) .leaf))
(.seq (.rg [] none)
(.seq (.rg [] none)
(.seq (.rg [] none)
(.seq (.rg [] (some (.op ⟨[], []⟩ (.op ⟨[], []⟩ (.split 55 [(59, .bool)] (.op ⟨[128], []⟩ (.op ⟨[32], []⟩ (.op ⟨[], []⟩ (.op ⟨[], []⟩ .done)))) (.op ⟨[], []⟩ .done))))))
.leaf))))))))
theorem reticulelaw15_SetupTurned_Eok : EnvOk Try.prog reticulelaw15_SetupTurned_E := env_ok tab_ok (by intro t h; simp only [List.mem_cons, List.mem_nil_iff, or_false, List.not_mem_nil] at h; rcases h with rfl <;> exact ⟨by kernel_rfl, by kernel_rfl, by kernel_rfl⟩) (allFn_mem (show AllFn Try.prog reticulelaw15_SetupTurned_fns from ⟨reticulelaw15_alive_ok, setup_Bytes_ok, setup_Parse_ok, trivial⟩)) mixed (by kernel_rfl)
theorem reticulelaw15_SetupTurned_eq (x : (Int × (Int × (Int × (Int × (Int × Unit))))) × (BitVec 8)) : evF reticulelaw15_SetupTurned_E 60 (bd Try.f7) [.val T24, .val (.int .u8)] [.tmp 4 (.bool, .view)] reticulelaw15_SetupTurned_an x = reticulelaw15_SetupTurned x := by kernel_rfl
theorem reticulelaw15_SetupTurned_ok : FnOk Try.prog 7 { args := [.val T24, .val (.int .u8)], res := [(.bool, .view)], f := reticulelaw15_SetupTurned } :=
  fn_ok reticulelaw15_SetupTurned_Eok Try.func7 rfl (by kernel_rfl) (by kernel_rfl) (by kernel_rfl) (rs := [.tmp 4 (.bool, .view)]) (c := bd Try.f7) (an := reticulelaw15_SetupTurned_an) (ob_flat _ _ _ _ _ _ _ (by kernel_rfl)) reticulelaw15_SetupTurned_eq
end Go.Proofs.Ytmlfojdgfimfbaa
