/- Each function does what its plain one tells. Printed by the session's own program. -/
import Derived.Test.YtdaelapmgecdpaaXT
import Derived.Test.YtdaelapmgecdpaaXF
namespace Go.Proofs.Ytdaelapmgecdpaa
open Go Go.Re
set_option linter.unusedVariables false
set_option linter.unusedSimpArgs false
set_option maxRecDepth 100000
set_option maxHeartbeats 1000000
/-! script_within: function 26 -/
noncomputable def script_within_fns : List (Nat × Fun) := []
noncomputable def script_within_E : Env := { ty := Re.look tyTab, eq := fun n => memB n [], fn := Re.look script_within_fns, cut := fun n => memB n [], win := fun n => memB n [], one := fun n => memB n [], onc := fun n => memB n [], pre := fun n => memB n [], ptr := fun n => memB n [], psl := fun n => memB n [], parr := Re.look [] }
noncomputable def script_within_an : An (Ds ((([.tmp 4 (.bool, .view)] : List RV).map RV.pm).map (·.1) ++ ioTys [.val (.int .i64), .val (.int .i64)])) :=
(.seq (.rg [] none)
(.seq (.rg [] (some (.op ⟨[], []⟩ (.op ⟨[], []⟩ (.op ⟨[], []⟩ (.split 7 [(11, .bool)] (.op ⟨[], []⟩ (.op ⟨[], []⟩ (.op ⟨[], []⟩ (.op ⟨[], []⟩ .done)))) (.op ⟨[], []⟩ .done)))))))
.leaf))
theorem script_within_Eok : EnvOk Try.prog script_within_E := env_ok tab_ok (by simp) (allFn_mem (show AllFn Try.prog script_within_fns from trivial)) mixed (by kernel_rfl) (by kernel_rfl) (by kernel_rfl)
theorem script_within_eq (x : Int × Int) : evF script_within_E 12 (bd Try.f26) [.val (.int .i64), .val (.int .i64)] [.tmp 4 (.bool, .view)] script_within_an x = script_within x := by kernel_rfl
theorem script_within_ok : FnOk Try.prog 26 { args := [.val (.int .i64), .val (.int .i64)], res := [(.bool, .view)], f := script_within } :=
  fn_ok script_within_Eok Try.func26 rfl (by kernel_rfl) (by kernel_rfl) (by kernel_rfl) (rs := [.tmp 4 (.bool, .view)]) (c := bd Try.f26) (an := script_within_an) (ob_flat _ _ _ _ _ _ _ (by kernel_rfl)) script_within_eq
/-! script_Right: function 11 -/
noncomputable def script_Right_fns : List (Nat × Fun) := [(26, { args := [.val (.int .i64), .val (.int .i64)], res := [(.bool, .view)], f := script_within })]
noncomputable def script_Right_E : Env := { ty := Re.look tyTab, eq := fun n => memB n [], fn := Re.look script_Right_fns, cut := fun n => memB n [], win := fun n => memB n [], one := fun n => memB n [], onc := fun n => memB n [], pre := fun n => memB n [], ptr := fun n => memB n [], psl := fun n => memB n [], parr := Re.look [] }
noncomputable def script_Right_an : An (Ds ((([.tmp 2 (.bool, .view)] : List RV).map RV.pm).map (·.1) ++ ioTys [.val T24])) :=
(.seq (.rg [] none)
(.seq (.rg [] (some (.op ⟨[16], []⟩ (.op ⟨[16], []⟩ (.op ⟨[], []⟩ (.op ⟨[], []⟩ (.split 6 [(10, .bool)] (.op ⟨[16], []⟩ (.op ⟨[16], []⟩ (.op ⟨[], []⟩ (.op ⟨[], []⟩ .done)))) (.op ⟨[], []⟩ (.split 11 [(15, .bool)] (.op ⟨[16], []⟩ (.op ⟨[16], []⟩ (.op ⟨[224], []⟩ (.op ⟨[], []⟩ .done)))) (.op ⟨[], []⟩ (.split 16 [(20, .bool)] (.op ⟨[16], []⟩ (.op ⟨[16], []⟩ (.op ⟨[304], []⟩ (.op ⟨[], []⟩ .done)))) (.op ⟨[], []⟩ (.split 21 [(25, .bool)] (.op ⟨[16], []⟩ (.op ⟨[16], []⟩ (.op ⟨[384], []⟩ (.op ⟨[], []⟩ .done)))) (.op ⟨[], []⟩ (.split 26 [(30, .bool)] (.op ⟨[16], []⟩ (.op ⟨[16], []⟩ (.op ⟨[464], []⟩ (.op ⟨[], []⟩ .done)))) (.op ⟨[], []⟩ (.split 31 [(35, .bool)] (.op ⟨[16], []⟩ (.op ⟨[16], []⟩ (.op ⟨[544], []⟩ (.op ⟨[], []⟩ .done)))) (.op ⟨[], []⟩ (.split 36 [(41, .bool)] (.op ⟨[16], []⟩ (.op ⟨[16], []⟩ (.op ⟨[], []⟩ (.op ⟨[], []⟩ (.op ⟨[], []⟩ .done))))) (.op ⟨[], []⟩ .done))))))))))))))))))))
.leaf))
theorem script_Right_Eok : EnvOk Try.prog script_Right_E := env_ok tab_ok (by simp) (allFn_mem (show AllFn Try.prog script_Right_fns from ⟨script_within_ok, trivial⟩)) mixed (by kernel_rfl) (by kernel_rfl) (by kernel_rfl)
theorem script_Right_eq (x : (Int × (Int × (Int × (Int × (Int × (Bool × (Int × (BitVec 64 × (List (BitVec 8) × Unit)))))))))) : evF script_Right_E 42 (bd Try.f11) [.val T24] [.tmp 2 (.bool, .view)] script_Right_an x = script_Right x := by kernel_rfl
theorem script_Right_ok : FnOk Try.prog 11 { args := [.val T24], res := [(.bool, .view)], f := script_Right } :=
  fn_ok script_Right_Eok Try.func11 rfl (by kernel_rfl) (by kernel_rfl) (by kernel_rfl) (rs := [.tmp 2 (.bool, .view)]) (c := bd Try.f11) (an := script_Right_an) (ob_flat _ _ _ _ _ _ _ (by kernel_rfl)) script_Right_eq
/-! number_PutLittle: function 31 -/
noncomputable def number_PutLittle_fns : List (Nat × Fun) := []
noncomputable def number_PutLittle_E : Env := { ty := Re.look tyTab, eq := fun n => memB n [], fn := Re.look number_PutLittle_fns, cut := fun n => memB n [], win := fun n => memB n [], one := fun n => memB n [], onc := fun n => memB n [], pre := fun n => memB n [], ptr := fun n => memB n [], psl := fun n => memB n [], parr := Re.look [] }
noncomputable def number_PutLittle_an : An (Ds ((([.tmp 4 ((.sl (.int .u8)), .full)] : List RV).map RV.pm).map (·.1) ++ ioTys [.val (.int .u64), .val (.int .i64)])) :=
(.seq (.rg [] none)
(.seq (.seq (.rg [] (some (.op ⟨[], []⟩ (.op ⟨[], []⟩ (.op ⟨[], []⟩ (.split 7 [(10, .bool)] (.op ⟨[], []⟩ (.op ⟨[], []⟩ (.op ⟨[], []⟩ .done))) .done))))))
(.cond (.seq (.rg [] none)
.leaf) .leaf))
(.seq (.seq (.rg [] none)
(.loop [.val 0 (.int .u64), .row 4 (.int .u8) .full, .val 11 (.int .i64), .val 12 (.int .i64)] [.row 4 (.int .u8) .full] number_PutLittle_L0
(.seq (.rg [] none)
(.seq (.cond .leaf .leaf)
(.seq (.block (.seq (.rg [] none)
(.rg [] none)))
(.rg [] none))))))
(.seq (.rg [] none)
.leaf))))
theorem number_PutLittle_Eok : EnvOk Try.prog number_PutLittle_E := env_ok tab_ok (by simp) (allFn_mem (show AllFn Try.prog number_PutLittle_fns from trivial)) mixed (by kernel_rfl) (by kernel_rfl) (by kernel_rfl)
theorem number_PutLittle_eq (x : (BitVec 64) × Int) : evF number_PutLittle_E 23 (bd Try.f31) [.val (.int .u64), .val (.int .i64)] [.tmp 4 ((.sl (.int .u8)), .full)] number_PutLittle_an x = number_PutLittle x := by kernel_rfl
theorem number_PutLittle_ok : FnOk Try.prog 31 { args := [.val (.int .u64), .val (.int .i64)], res := [((.sl (.int .u8)), .full)], f := number_PutLittle } :=
  fn_ok number_PutLittle_Eok Try.func31 rfl (by kernel_rfl) (by kernel_rfl) (by kernel_rfl) (rs := [.tmp 4 ((.sl (.int .u8)), .full)]) (c := bd Try.f31) (an := number_PutLittle_an) (show obF number_PutLittle_E 23 (bd Try.f31) [.val (.int .u64), .val (.int .i64)] [.tmp 4 ((.sl (.int .u8)), .full)] number_PutLittle_an from (And.intro trivial (And.intro (And.intro trivial (And.intro (And.intro trivial trivial) trivial)) (And.intro (And.intro trivial (And.intro (fun _ => rfl) (And.intro (fun n j => by kernel_rfl) (fun n => (And.intro trivial (And.intro (And.intro trivial trivial) (And.intro (And.intro trivial trivial) trivial))))))) (And.intro trivial trivial))))) number_PutLittle_eq
/-! slices_Reverse_byte: function 32 -/
noncomputable def slices_Reverse_byte_fns : List (Nat × Fun) := []
noncomputable def slices_Reverse_byte_E : Env := { ty := Re.look tyTab, eq := fun n => memB n [], fn := Re.look slices_Reverse_byte_fns, cut := fun n => memB n [], win := fun n => memB n [], one := fun n => memB n [], onc := fun n => memB n [], pre := fun n => memB n [], ptr := fun n => memB n [], psl := fun n => memB n [], parr := Re.look [] }
noncomputable def slices_Reverse_byte_an : An (Ds ((([] : List RV).map RV.pm).map (·.1) ++ ioTys [.row (.int .u8)])) :=
(.seq (.rg [] none)
(.loop [.prow 0 (.int .u8), .val 2 (.int .i64), .val 3 (.int .i64)] [.prow 0 (.int .u8)] slices_Reverse_byte_L0
(.seq (.seq (.rg [] none)
(.cond .leaf .leaf))
(.seq (.block (.rg [] (some (.op ⟨[], []⟩ (.op ⟨[], []⟩ (.op ⟨[], []⟩ (.op ⟨[], []⟩ (.op ⟨[], []⟩ (.op ⟨[], []⟩ (.op ⟨[0], []⟩ (.op ⟨[0], []⟩ (.op ⟨[], []⟩ (.op ⟨[], []⟩ (.op ⟨[0], []⟩ (.op ⟨[0], []⟩ (.op ⟨[0], []⟩ (.op ⟨[0], [0]⟩ (.op ⟨[0], []⟩ (.op ⟨[0], [0]⟩ .done)))))))))))))))))))
(.rg [] none)))))
theorem slices_Reverse_byte_Eok : EnvOk Try.prog slices_Reverse_byte_E := env_ok tab_ok (by simp) (allFn_mem (show AllFn Try.prog slices_Reverse_byte_fns from trivial)) mixed (by kernel_rfl) (by kernel_rfl) (by kernel_rfl)
theorem slices_Reverse_byte_eq (x : (List (BitVec 8))) : evF slices_Reverse_byte_E 28 (bd Try.f32) [.row (.int .u8)] [] slices_Reverse_byte_an x = slices_Reverse_byte x := by kernel_rfl
theorem slices_Reverse_byte_ok : FnOk Try.prog 32 { args := [.row (.int .u8)], res := [], f := slices_Reverse_byte } :=
  fn_ok slices_Reverse_byte_Eok Try.func32 rfl (by kernel_rfl) (by kernel_rfl) (by kernel_rfl) (rs := []) (c := bd Try.f32) (an := slices_Reverse_byte_an) (show obF slices_Reverse_byte_E 28 (bd Try.f32) [.row (.int .u8)] [] slices_Reverse_byte_an from (And.intro trivial (And.intro (fun _ => rfl) (And.intro (fun n j => by kernel_rfl) (fun n => (And.intro (And.intro trivial (And.intro trivial trivial)) (And.intro trivial trivial))))))) slices_Reverse_byte_eq
/-! number_PutBig: function 24 -/
noncomputable def number_PutBig_fns : List (Nat × Fun) := [(31, { args := [.val (.int .u64), .val (.int .i64)], res := [((.sl (.int .u8)), .full)], f := number_PutLittle }), (32, { args := [.row (.int .u8)], res := [], f := slices_Reverse_byte })]
noncomputable def number_PutBig_E : Env := { ty := Re.look tyTab, eq := fun n => memB n [], fn := Re.look number_PutBig_fns, cut := fun n => memB n [], win := fun n => memB n [], one := fun n => memB n [], onc := fun n => memB n [], pre := fun n => memB n [], ptr := fun n => memB n [], psl := fun n => memB n [], parr := Re.look [] }
noncomputable def number_PutBig_an : An (Ds ((([.tmp 4 ((.sl (.int .u8)), .full)] : List RV).map RV.pm).map (·.1) ++ ioTys [.val (.int .u64), .val (.int .i64)])) :=
(.seq (.rg [] none)
(.seq (.rg [] none)
(.seq (.rg [] none)
(.seq (.rg [] none)
.leaf))))
theorem number_PutBig_Eok : EnvOk Try.prog number_PutBig_E := env_ok tab_ok (by simp) (allFn_mem (show AllFn Try.prog number_PutBig_fns from ⟨number_PutLittle_ok, slices_Reverse_byte_ok, trivial⟩)) mixed (by kernel_rfl) (by kernel_rfl) (by kernel_rfl)
theorem number_PutBig_eq (x : (BitVec 64) × Int) : evF number_PutBig_E 12 (bd Try.f24) [.val (.int .u64), .val (.int .i64)] [.tmp 4 ((.sl (.int .u8)), .full)] number_PutBig_an x = number_PutBig x := by kernel_rfl
theorem number_PutBig_ok : FnOk Try.prog 24 { args := [.val (.int .u64), .val (.int .i64)], res := [((.sl (.int .u8)), .full)], f := number_PutBig } :=
  fn_ok number_PutBig_Eok Try.func24 rfl (by kernel_rfl) (by kernel_rfl) (by kernel_rfl) (rs := [.tmp 4 ((.sl (.int .u8)), .full)]) (c := bd Try.f24) (an := number_PutBig_an) (ob_flat _ _ _ _ _ _ _ (by kernel_rfl)) number_PutBig_eq
/-! slices_Grow_byte: function 30 -/
noncomputable def slices_Grow_byte_fns : List (Nat × Fun) := []
noncomputable def slices_Grow_byte_E : Env := { ty := Re.look tyTab, eq := fun n => memB n [], fn := Re.look slices_Grow_byte_fns, cut := fun n => memB n [25], win := fun n => memB n [], one := fun n => memB n [], onc := fun n => memB n [], pre := fun n => memB n [], ptr := fun n => memB n [], psl := fun n => memB n [], parr := Re.look [] }
noncomputable def slices_Grow_byte_an : An (Ds ((([.tmp 4 ((.sl (.int .u8)), .full)] : List RV).map RV.pm).map (·.1) ++ ioTys [.nils (.int .u8), .val (.int .i64)])) :=
(.seq (.rg [] none)
(.seq (.seq (.rg [] none)
(.cond .leaf .leaf))
(.join [.row 0 (.int .u8) .full]
(.seq (.rg [] none)
(.seq (.rg [] none)
(.cond (.rg [] none) .leaf)))
(.seq (.rg [] none)
.leaf))))
theorem slices_Grow_byte_Eok : EnvOk Try.prog slices_Grow_byte_E := env_ok tab_ok (by simp) (allFn_mem (show AllFn Try.prog slices_Grow_byte_fns from trivial)) mixed (by kernel_rfl) (by kernel_rfl) (by kernel_rfl)
theorem slices_Grow_byte_eq (x : Unit × Int) : evF slices_Grow_byte_E 27 (bd Try.f30) [.nils (.int .u8), .val (.int .i64)] [.tmp 4 ((.sl (.int .u8)), .full)] slices_Grow_byte_an x = slices_Grow_byte x := by kernel_rfl
theorem slices_Grow_byte_ok : FnOk Try.prog 30 { args := [.nils (.int .u8), .val (.int .i64)], res := [((.sl (.int .u8)), .full)], f := slices_Grow_byte } :=
  fn_ok slices_Grow_byte_Eok Try.func30 rfl (by kernel_rfl) (by kernel_rfl) (by kernel_rfl) (rs := [.tmp 4 ((.sl (.int .u8)), .full)]) (c := bd Try.f30) (an := slices_Grow_byte_an) (ob_flat _ _ _ _ _ _ _ (by kernel_rfl)) slices_Grow_byte_eq
/-! slices_Concat_byte: function 23 -/
noncomputable def slices_Concat_byte_fns : List (Nat × Fun) := [(30, { args := [.nils (.int .u8), .val (.int .i64)], res := [((.sl (.int .u8)), .full)], f := slices_Grow_byte })]
noncomputable def slices_Concat_byte_E : Env := { ty := Re.look tyTab, eq := fun n => memB n [], fn := Re.look slices_Concat_byte_fns, cut := fun n => memB n [], win := fun n => memB n [], one := fun n => memB n [], onc := fun n => memB n [], pre := fun n => memB n [], ptr := fun n => memB n [], psl := fun n => memB n [], parr := Re.look [] }
noncomputable def slices_Concat_byte_an : An (Ds ((([.tmp 2 ((.sl (.int .u8)), .full)] : List RV).map RV.pm).map (·.1) ++ ioTys [.val (.sl (.sl (.int .u8)))])) :=
(.seq (.rg [] none)
(.seq (.rg [] none)
(.seq (.seq (.rg [] none)
(.loop [.val 0 (.sl (.sl (.int .u8))), .val 3 (.int .i64), .val 9 (.sl (.sl (.int .u8))), .val 10 (.int .i64), .val 11 (.int .i64)] [.val 0 (.sl (.sl (.int .u8))), .val 3 (.int .i64)] slices_Concat_byte_L0
(.seq (.rg [] none)
(.seq (.cond .leaf .leaf)
(.seq (.block (.seq (.rg [] none)
(.seq (.rg [] none)
(.seq (.rg [] none)
(.cond .leaf .leaf)))))
(.rg [] none))))))
(.seq (.rg [] none)
(.seq (.seq (.rg [] none)
(.loop [.row 6 (.int .u8) .full, .val 25 (.sl (.sl (.int .u8))), .val 26 (.int .i64), .val 27 (.int .i64)] [.row 6 (.int .u8) .full] slices_Concat_byte_L1
(.seq (.rg [] none)
(.seq (.cond .leaf .leaf)
(.seq (.block (.seq (.rg [] none)
(.rg [] none)))
(.rg [] none))))))
(.seq (.rg [] none)
.leaf))))))
theorem slices_Concat_byte_Eok : EnvOk Try.prog slices_Concat_byte_E := env_ok tab_ok (by simp) (allFn_mem (show AllFn Try.prog slices_Concat_byte_fns from ⟨slices_Grow_byte_ok, trivial⟩)) mixed (by kernel_rfl) (by kernel_rfl) (by kernel_rfl)
theorem slices_Concat_byte_eq (x : (List (List (BitVec 8)))) : evF slices_Concat_byte_E 36 (bd Try.f23) [.val (.sl (.sl (.int .u8)))] [.tmp 2 ((.sl (.int .u8)), .full)] slices_Concat_byte_an x = slices_Concat_byte x := by kernel_rfl
theorem slices_Concat_byte_ok : FnOk Try.prog 23 { args := [.val (.sl (.sl (.int .u8)))], res := [((.sl (.int .u8)), .full)], f := slices_Concat_byte } :=
  fn_ok slices_Concat_byte_Eok Try.func23 rfl (by kernel_rfl) (by kernel_rfl) (by kernel_rfl) (rs := [.tmp 2 ((.sl (.int .u8)), .full)]) (c := bd Try.f23) (an := slices_Concat_byte_an) (show obF slices_Concat_byte_E 36 (bd Try.f23) [.val (.sl (.sl (.int .u8)))] [.tmp 2 ((.sl (.int .u8)), .full)] slices_Concat_byte_an from (And.intro trivial (And.intro trivial (And.intro (And.intro trivial (And.intro (fun _ => rfl) (And.intro (fun n j => by kernel_rfl) (fun n => (And.intro trivial (And.intro (And.intro trivial trivial) (And.intro (And.intro trivial (And.intro trivial (And.intro trivial (And.intro trivial trivial)))) trivial))))))) (And.intro trivial (And.intro (And.intro trivial (And.intro (fun _ => rfl) (And.intro (fun n j => by kernel_rfl) (fun n => (And.intro trivial (And.intro (And.intro trivial trivial) (And.intro (And.intro trivial trivial) trivial))))))) (And.intro trivial trivial))))))) slices_Concat_byte_eq
/-! script_Append: function 9 -/
noncomputable def script_Append_fns : List (Nat × Fun) := [(11, { args := [.val T24], res := [(.bool, .view)], f := script_Right }), (24, { args := [.val (.int .u64), .val (.int .i64)], res := [((.sl (.int .u8)), .full)], f := number_PutBig }), (23, { args := [.val (.sl (.sl (.int .u8)))], res := [((.sl (.int .u8)), .full)], f := slices_Concat_byte })]
noncomputable def script_Append_E : Env := { ty := Re.look tyTab, eq := fun n => memB n [], fn := Re.look script_Append_fns, cut := fun n => memB n [], win := fun n => memB n [], one := fun n => memB n [], onc := fun n => memB n [], pre := fun n => memB n [], ptr := fun n => memB n [], psl := fun n => memB n [], parr := Re.look [] }
noncomputable def script_Append_an : An (Ds ((([.tmp 4 ((.sl (.int .u8)), .full), .tmp 5 ((.int .i64), .view)] : List RV).map RV.pm).map (·.1) ++ ioTys [.val (.sl (.int .u8)), .val T24])) :=
(.seq (.rg [] none)
(.seq (.seq (.rg [] none)
(.cond (.seq (.rg [] none)
.leaf) .leaf))
(.seq (.rg [] none)
(.join [.val 0 (.sl (.int .u8)), .box 3 T24, .val 6 (.int .u8)]
(.seq (.rg [] none)
(.cond (.rg [] none) .leaf))
(.seq (.rg [432, 496, 576, 624, 704, 752] (some (.op ⟨[], []⟩ (.op ⟨[48], []⟩ (.op ⟨[48], []⟩ (.op ⟨[], []⟩ (.op ⟨[48], []⟩ (.op ⟨[48], []⟩ (.op ⟨[], []⟩ (.op ⟨[48], []⟩ (.op ⟨[48], []⟩ (.op ⟨[], []⟩ (.op ⟨[432], [432]⟩ (.op ⟨[48], []⟩ (.op ⟨[48], []⟩ (.op ⟨[], []⟩ (.op ⟨[496], [496]⟩ (.op ⟨[], []⟩ (.op ⟨[48], []⟩ (.op ⟨[48], []⟩ (.op ⟨[], []⟩ (.op ⟨[576], [576]⟩ (.op ⟨[48], []⟩ (.op ⟨[48], []⟩ (.op ⟨[624], [624]⟩ (.op ⟨[48], []⟩ (.op ⟨[48], []⟩ (.op ⟨[], []⟩ (.op ⟨[], []⟩ (.op ⟨[704], [704]⟩ (.op ⟨[48], []⟩ (.op ⟨[48], []⟩ (.op ⟨[432, 496, 576, 624, 704, 752], [432, 496, 576, 624, 704, 752]⟩ (.op ⟨[752, 768], [752, 768]⟩ (.op ⟨[], []⟩ (.op ⟨[], []⟩ .done))))))))))))))))))))))))))))))))))))
.leaf)))))
theorem script_Append_Eok : EnvOk Try.prog script_Append_E := env_ok tab_ok (by simp) (allFn_mem (show AllFn Try.prog script_Append_fns from ⟨script_Right_ok, number_PutBig_ok, slices_Concat_byte_ok, trivial⟩)) mixed (by kernel_rfl) (by kernel_rfl) (by kernel_rfl)
theorem script_Append_eq (x : (List (BitVec 8)) × (Int × (Int × (Int × (Int × (Int × (Bool × (Int × (BitVec 64 × (List (BitVec 8) × Unit)))))))))) : evF script_Append_E 49 (bd Try.f9) [.val (.sl (.int .u8)), .val T24] [.tmp 4 ((.sl (.int .u8)), .full), .tmp 5 ((.int .i64), .view)] script_Append_an x = script_Append x := by kernel_rfl
theorem script_Append_ok : FnOk Try.prog 9 { args := [.val (.sl (.int .u8)), .val T24], res := [((.sl (.int .u8)), .full), ((.int .i64), .view)], f := script_Append } :=
  fn_ok script_Append_Eok Try.func9 rfl (by kernel_rfl) (by kernel_rfl) (by kernel_rfl) (rs := [.tmp 4 ((.sl (.int .u8)), .full), .tmp 5 ((.int .i64), .view)]) (c := bd Try.f9) (an := script_Append_an) (ob_flat _ _ _ _ _ _ _ (by kernel_rfl)) script_Append_eq
/-! script_All: function 20 -/
noncomputable def script_All_fns : List (Nat × Fun) := [(9, { args := [.val (.sl (.int .u8)), .val T24], res := [((.sl (.int .u8)), .full), ((.int .i64), .view)], f := script_Append })]
noncomputable def script_All_E : Env := { ty := Re.look tyTab, eq := fun n => memB n [], fn := Re.look script_All_fns, cut := fun n => memB n [], win := fun n => memB n [], one := fun n => memB n [], onc := fun n => memB n [], pre := fun n => memB n [], ptr := fun n => memB n [], psl := fun n => memB n [], parr := Re.look [] }
noncomputable def script_All_an : An (Ds ((([.tmp 2 ((.sl (.int .u8)), .full), .tmp 3 ((.int .i64), .view)] : List RV).map RV.pm).map (·.1) ++ ioTys [.val (.sl T24)])) :=
(.seq (.rg [] none)
(.seq (.seq (.rg [] none)
(.cond (.seq (.rg [] none)
.leaf) .leaf))
(.seq (.seq (.rg [] none)
(.loop [.row 2 (.int .u8) .full, .val 9 (.sl T24), .val 10 (.int .i64), .val 11 (.int .i64)] [.row 2 (.int .u8) .full] script_All_L0
(.seq (.rg [] none)
(.seq (.cond .leaf .leaf)
(.seq (.block (.seq (.rg [] none)
(.seq (.rg [] none)
(.seq (.rg [] none)
(.cond (.seq (.rg [] none)
.leaf) .leaf)))))
(.rg [] none))))))
(.seq (.rg [] none)
.leaf))))
theorem script_All_Eok : EnvOk Try.prog script_All_E := env_ok tab_ok (by simp) (allFn_mem (show AllFn Try.prog script_All_fns from ⟨script_Append_ok, trivial⟩)) mixed (by kernel_rfl) (by kernel_rfl) (by kernel_rfl)
theorem script_All_eq (x : (List (Int × (Int × (Int × (Int × (Int × (Bool × (Int × (BitVec 64 × (List (BitVec 8) × Unit))))))))))) : evF script_All_E 26 (bd Try.f20) [.val (.sl T24)] [.tmp 2 ((.sl (.int .u8)), .full), .tmp 3 ((.int .i64), .view)] script_All_an x = script_All x := by kernel_rfl
theorem script_All_ok : FnOk Try.prog 20 { args := [.val (.sl T24)], res := [((.sl (.int .u8)), .full), ((.int .i64), .view)], f := script_All } :=
  fn_ok script_All_Eok Try.func20 rfl (by kernel_rfl) (by kernel_rfl) (by kernel_rfl) (rs := [.tmp 2 ((.sl (.int .u8)), .full), .tmp 3 ((.int .i64), .view)]) (c := bd Try.f20) (an := script_All_an) (show obF script_All_E 26 (bd Try.f20) [.val (.sl T24)] [.tmp 2 ((.sl (.int .u8)), .full), .tmp 3 ((.int .i64), .view)] script_All_an from (And.intro trivial (And.intro (And.intro trivial (And.intro (And.intro trivial trivial) trivial)) (And.intro (And.intro trivial (And.intro (fun _ => rfl) (And.intro (fun n j => by kernel_rfl) (fun n => (And.intro trivial (And.intro (And.intro trivial trivial) (And.intro (And.intro trivial (And.intro trivial (And.intro trivial (And.intro (And.intro trivial trivial) trivial)))) trivial))))))) (And.intro trivial trivial))))) script_All_eq
/-! number_cut: function 34 -/
noncomputable def number_cut_fns : List (Nat × Fun) := []
noncomputable def number_cut_E : Env := { ty := Re.look tyTab, eq := fun n => memB n [], fn := Re.look number_cut_fns, cut := fun n => memB n [], win := fun n => memB n [], one := fun n => memB n [], onc := fun n => memB n [], pre := fun n => memB n [], ptr := fun n => memB n [], psl := fun n => memB n [], parr := Re.look [] }
noncomputable def number_cut_an : An (Ds ((([.tmp 6 ((.sl (.int .u8)), .view), .tmp 7 (.bool, .view)] : List RV).map RV.pm).map (·.1) ++ ioTys [.val (.sl (.int .u8)), .val (.int .i64), .val (.int .i64)])) :=
(.seq (.rg [] none)
(.seq (.seq (.rg [] (some (.op ⟨[], []⟩ (.op ⟨[], []⟩ (.op ⟨[], []⟩ (.split 10 [(13, .bool)] (.op ⟨[], []⟩ (.op ⟨[], []⟩ (.op ⟨[], []⟩ .done))) (.op ⟨[], []⟩ (.split 14 [(17, .bool)] (.op ⟨[], []⟩ (.op ⟨[], []⟩ (.op ⟨[], []⟩ .done))) (.op ⟨[], []⟩ (.split 18 [(25, .bool)] (.op ⟨[], []⟩ (.op ⟨[], []⟩ (.op ⟨[], []⟩ (.op ⟨[], []⟩ (.op ⟨[], []⟩ (.op ⟨[], []⟩ (.op ⟨[], []⟩ .done))))))) .done))))))))))
(.cond (.seq (.rg [] none)
.leaf) .leaf))
(.seq (.rg [] none)
.leaf)))
theorem number_cut_Eok : EnvOk Try.prog number_cut_E := env_ok tab_ok (by simp) (allFn_mem (show AllFn Try.prog number_cut_fns from trivial)) mixed (by kernel_rfl) (by kernel_rfl) (by kernel_rfl)
theorem number_cut_eq (x : (List (BitVec 8)) × Int × Int) : evF number_cut_E 32 (bd Try.f34) [.val (.sl (.int .u8)), .val (.int .i64), .val (.int .i64)] [.tmp 6 ((.sl (.int .u8)), .view), .tmp 7 (.bool, .view)] number_cut_an x = number_cut x := by kernel_rfl
theorem number_cut_ok : FnOk Try.prog 34 { args := [.val (.sl (.int .u8)), .val (.int .i64), .val (.int .i64)], res := [((.sl (.int .u8)), .view), (.bool, .view)], f := number_cut } :=
  fn_ok number_cut_Eok Try.func34 rfl (by kernel_rfl) (by kernel_rfl) (by kernel_rfl) (rs := [.tmp 6 ((.sl (.int .u8)), .view), .tmp 7 (.bool, .view)]) (c := bd Try.f34) (an := number_cut_an) (ob_flat _ _ _ _ _ _ _ (by kernel_rfl)) number_cut_eq
/-! number_Big: function 33 -/
noncomputable def number_Big_fns : List (Nat × Fun) := [(34, { args := [.val (.sl (.int .u8)), .val (.int .i64), .val (.int .i64)], res := [((.sl (.int .u8)), .view), (.bool, .view)], f := number_cut })]
noncomputable def number_Big_E : Env := { ty := Re.look tyTab, eq := fun n => memB n [], fn := Re.look number_Big_fns, cut := fun n => memB n [], win := fun n => memB n [], one := fun n => memB n [], onc := fun n => memB n [], pre := fun n => memB n [], ptr := fun n => memB n [], psl := fun n => memB n [], parr := Re.look [] }
noncomputable def number_Big_an : An (Ds ((([.tmp 6 ((.int .u64), .view), .tmp 7 (.bool, .view)] : List RV).map RV.pm).map (·.1) ++ ioTys [.val (.sl (.int .u8)), .val (.int .i64), .val (.int .i64)])) :=
(.seq (.rg [] none)
(.seq (.rg [] none)
(.seq (.seq (.rg [] none)
(.loop [.val 6 (.int .u64), .val 7 .bool, .val 18 (.sl (.int .u8)), .val 19 (.int .i64), .val 20 (.int .i64)] [.val 6 (.int .u64), .val 7 .bool] number_Big_L0
(.seq (.rg [] none)
(.seq (.cond .leaf .leaf)
(.seq (.block (.seq (.rg [] none)
(.rg [] none)))
(.rg [] none))))))
(.seq (.rg [] none)
.leaf))))
theorem number_Big_Eok : EnvOk Try.prog number_Big_E := env_ok tab_ok (by simp) (allFn_mem (show AllFn Try.prog number_Big_fns from ⟨number_cut_ok, trivial⟩)) mixed (by kernel_rfl) (by kernel_rfl) (by kernel_rfl)
theorem number_Big_eq (x : (List (BitVec 8)) × Int × Int) : evF number_Big_E 32 (bd Try.f33) [.val (.sl (.int .u8)), .val (.int .i64), .val (.int .i64)] [.tmp 6 ((.int .u64), .view), .tmp 7 (.bool, .view)] number_Big_an x = number_Big x := by kernel_rfl
theorem number_Big_ok : FnOk Try.prog 33 { args := [.val (.sl (.int .u8)), .val (.int .i64), .val (.int .i64)], res := [((.int .u64), .view), (.bool, .view)], f := number_Big } :=
  fn_ok number_Big_Eok Try.func33 rfl (by kernel_rfl) (by kernel_rfl) (by kernel_rfl) (rs := [.tmp 6 ((.int .u64), .view), .tmp 7 (.bool, .view)]) (c := bd Try.f33) (an := number_Big_an) (show obF number_Big_E 32 (bd Try.f33) [.val (.sl (.int .u8)), .val (.int .i64), .val (.int .i64)] [.tmp 6 ((.int .u64), .view), .tmp 7 (.bool, .view)] number_Big_an from (And.intro trivial (And.intro trivial (And.intro (And.intro trivial (And.intro (fun _ => rfl) (And.intro (fun n j => by kernel_rfl) (fun n => (And.intro trivial (And.intro (And.intro trivial trivial) (And.intro (And.intro trivial trivial) trivial))))))) (And.intro trivial trivial))))) number_Big_eq
/-! script_cursor_next: function 27 -/
noncomputable def script_cursor_next_fns : List (Nat × Fun) := [(33, { args := [.val (.sl (.int .u8)), .val (.int .i64), .val (.int .i64)], res := [((.int .u64), .view), (.bool, .view)], f := number_Big })]
noncomputable def script_cursor_next_E : Env := { ty := Re.look tyTab, eq := fun n => memB n [], fn := Re.look script_cursor_next_fns, cut := fun n => memB n [], win := fun n => memB n [], one := fun n => memB n [], onc := fun n => memB n [], pre := fun n => memB n [], ptr := fun n => memB n [], psl := fun n => memB n [], parr := Re.look [] }
noncomputable def script_cursor_next_an : An (Ds ((([.tmp 4 ((.int .u64), .view)] : List RV).map RV.pm).map (·.1) ++ ioTys [.box T50, .val (.int .i64)])) :=
(.seq (.rg [] none)
(.seq (.rg [] none)
(.seq (.rg [] none)
(.seq (.rg [] none)
.leaf))))
theorem script_cursor_next_Eok : EnvOk Try.prog script_cursor_next_E := env_ok tab_ok (by simp) (allFn_mem (show AllFn Try.prog script_cursor_next_fns from ⟨number_Big_ok, trivial⟩)) mixed (by kernel_rfl) (by kernel_rfl) (by kernel_rfl)
theorem script_cursor_next_eq (x : (List (BitVec 8) × Unit) × Int) : evF script_cursor_next_E 26 (bd Try.f27) [.box T50, .val (.int .i64)] [.tmp 4 ((.int .u64), .view)] script_cursor_next_an x = script_cursor_next x := by kernel_rfl
theorem script_cursor_next_ok : FnOk Try.prog 27 { args := [.box T50, .val (.int .i64)], res := [((.int .u64), .view)], f := script_cursor_next } :=
  fn_ok script_cursor_next_Eok Try.func27 rfl (by kernel_rfl) (by kernel_rfl) (by kernel_rfl) (rs := [.tmp 4 ((.int .u64), .view)]) (c := bd Try.f27) (an := script_cursor_next_an) (ob_flat _ _ _ _ _ _ _ (by kernel_rfl)) script_cursor_next_eq
/-! slices_Clone_byte: function 28 -/
noncomputable def slices_Clone_byte_fns : List (Nat × Fun) := []
noncomputable def slices_Clone_byte_E : Env := { ty := Re.look tyTab, eq := fun n => memB n [], fn := Re.look slices_Clone_byte_fns, cut := fun n => memB n [], win := fun n => memB n [], one := fun n => memB n [], onc := fun n => memB n [], pre := fun n => memB n [], ptr := fun n => memB n [], psl := fun n => memB n [], parr := Re.look [] }
noncomputable def slices_Clone_byte_an : An (Ds ((([.tmp 2 ((.sl (.int .u8)), .full)] : List RV).map RV.pm).map (·.1) ++ ioTys [.val (.sl (.int .u8))])) :=
(.seq (.rg [] none)
(.seq (.seq (.rg [] none)
(.cond (.seq (.rg [] none)
.leaf) .leaf))
(.seq (.rg [] none)
.leaf)))
theorem slices_Clone_byte_Eok : EnvOk Try.prog slices_Clone_byte_E := env_ok tab_ok (by simp) (allFn_mem (show AllFn Try.prog slices_Clone_byte_fns from trivial)) mixed (by kernel_rfl) (by kernel_rfl) (by kernel_rfl)
theorem slices_Clone_byte_eq (x : (List (BitVec 8))) : evF slices_Clone_byte_E 8 (bd Try.f28) [.val (.sl (.int .u8))] [.tmp 2 ((.sl (.int .u8)), .full)] slices_Clone_byte_an x = slices_Clone_byte x := by kernel_rfl
theorem slices_Clone_byte_ok : FnOk Try.prog 28 { args := [.val (.sl (.int .u8))], res := [((.sl (.int .u8)), .full)], f := slices_Clone_byte } :=
  fn_ok slices_Clone_byte_Eok Try.func28 rfl (by kernel_rfl) (by kernel_rfl) (by kernel_rfl) (rs := [.tmp 2 ((.sl (.int .u8)), .full)]) (c := bd Try.f28) (an := slices_Clone_byte_an) (ob_flat _ _ _ _ _ _ _ (by kernel_rfl)) slices_Clone_byte_eq
/-! script_Read: function 13 -/
noncomputable def script_Read_fns : List (Nat × Fun) := [(27, { args := [.box T50, .val (.int .i64)], res := [((.int .u64), .view)], f := script_cursor_next }), (11, { args := [.val T24], res := [(.bool, .view)], f := script_Right }), (28, { args := [.val (.sl (.int .u8))], res := [((.sl (.int .u8)), .full)], f := slices_Clone_byte })]
noncomputable def script_Read_E : Env := { ty := Re.look tyTab, eq := fun n => memB n [], fn := Re.look script_Read_fns, cut := fun n => memB n [], win := fun n => memB n [], one := fun n => memB n [], onc := fun n => memB n [], pre := fun n => memB n [], ptr := fun n => memB n [52], psl := fun n => memB n [53], parr := Re.look [] }
noncomputable def script_Read_an : An (Ds ((([.cell 4 T24, .tmp 5 ((.int .i64), .view), .tmp 6 ((.int .i64), .view)] : List RV).map RV.pm).map (·.1) ++ ioTys [.val (.sl (.int .u8)), .val (.int .i64)])) :=
(.seq (.rg [] none)
(.seq (.block (.seq (.rg [] (some (.op ⟨[], []⟩ (.op ⟨[], []⟩ (.op ⟨[], []⟩ (.split 16 [(21, .bool)] (.op ⟨[], []⟩ (.op ⟨[], []⟩ (.op ⟨[], []⟩ (.op ⟨[], []⟩ (.op ⟨[], []⟩ .done))))) (.op ⟨[], []⟩ .done)))))))
(.cond (.seq (.rg [] none)
.leaf) (.seq (.rg [] none)
(.cond (.seq (.rg [] none)
.leaf) .leaf)))))
(.seq (.rg [] none)
(.seq (.rg [] none)
(.seq (.seq (.rg [] none)
(.unroll 4 (.seq (.rg [] none)
(.seq (.cond .leaf .leaf)
(.seq (.block (.seq (.rg [] none)
(.rg [] none)))
(.rg [] none))))))
(.seq (.rg [] none)
(.seq (.rg [] none)
(.seq (.rg [] none)
(.seq (.rg [] none)
(.seq (.rg [] none)
(.seq (.rg [] none)
(.seq (.block (.seq (.rg [] (some (.op ⟨[128], []⟩ (.op ⟨[1216], []⟩ (.op ⟨[], []⟩ (.op ⟨[], []⟩ (.split 78 [(81, .bool)] (.op ⟨[], []⟩ (.op ⟨[], []⟩ (.op ⟨[], []⟩ .done))) (.op ⟨[], []⟩ .done))))))))
(.cond (.seq (.rg [] none)
.leaf) (.seq (.rg [] none)
(.cond (.seq (.rg [] none)
.leaf) (.seq (.rg [] none)
(.cond (.seq (.rg [] none)
.leaf) .leaf)))))))
(.seq (.rg [] none)
(.seq (.rg [] none)
.leaf))))))))))))))
theorem script_Read_Eok : EnvOk Try.prog script_Read_E := env_ok tab_ok (by simp) (allFn_mem (show AllFn Try.prog script_Read_fns from ⟨script_cursor_next_ok, script_Right_ok, slices_Clone_byte_ok, trivial⟩)) mixed (by kernel_rfl) (by kernel_rfl) (by kernel_rfl)
theorem script_Read_eq (x : (List (BitVec 8)) × Int) : evF script_Read_E 109 (bd Try.f13) [.val (.sl (.int .u8)), .val (.int .i64)] [.cell 4 T24, .tmp 5 ((.int .i64), .view), .tmp 6 ((.int .i64), .view)] script_Read_an x = script_Read x := by kernel_rfl
theorem script_Read_ok : FnOk Try.prog 13 { args := [.val (.sl (.int .u8)), .val (.int .i64)], res := [(T24, .view), ((.int .i64), .view), ((.int .i64), .view)], f := script_Read } :=
  fn_ok script_Read_Eok Try.func13 rfl (by kernel_rfl) (by kernel_rfl) (by kernel_rfl) (rs := [.cell 4 T24, .tmp 5 ((.int .i64), .view), .tmp 6 ((.int .i64), .view)]) (c := bd Try.f13) (an := script_Read_an) (show obF script_Read_E 109 (bd Try.f13) [.val (.sl (.int .u8)), .val (.int .i64)] [.cell 4 T24, .tmp 5 ((.int .i64), .view), .tmp 6 ((.int .i64), .view)] script_Read_an from (And.intro trivial (And.intro (And.intro trivial (And.intro (And.intro trivial trivial) (And.intro trivial (And.intro (And.intro trivial trivial) trivial)))) (And.intro trivial (And.intro trivial (And.intro (And.intro trivial (fun K => (And.intro trivial (And.intro (And.intro trivial trivial) (And.intro (And.intro trivial trivial) trivial))))) (And.intro trivial (And.intro trivial (And.intro trivial (And.intro trivial (And.intro trivial (And.intro trivial (And.intro (And.intro trivial (And.intro (And.intro trivial trivial) (And.intro trivial (And.intro (And.intro trivial trivial) (And.intro trivial (And.intro (And.intro trivial trivial) trivial)))))) (And.intro trivial (And.intro trivial trivial))))))))))))))) script_Read_eq
/-! script_List: function 15 -/
noncomputable def script_List_fns : List (Nat × Fun) := [(13, { args := [.val (.sl (.int .u8)), .val (.int .i64)], res := [(T24, .view), ((.int .i64), .view), ((.int .i64), .view)], f := script_Read })]
noncomputable def script_List_E : Env := { ty := Re.look tyTab, eq := fun n => memB n [], fn := Re.look script_List_fns, cut := fun n => memB n [], win := fun n => memB n [], one := fun n => memB n [], onc := fun n => memB n [], pre := fun n => memB n [], ptr := fun n => memB n [], psl := fun n => memB n [], parr := Re.look [] }
noncomputable def script_List_an : An (Ds ((([.tmp 2 ((.sl T24), .full), .tmp 3 ((.int .i64), .view)] : List RV).map RV.pm).map (·.1) ++ ioTys [.val (.sl (.int .u8))])) :=
(.seq (.rg [] none)
(.seq (.seq (.rg [] none)
(.loop [.val 0 (.sl (.int .u8)), .row 2 T24 .full, .val 4 (.int .i64)] [.row 2 T24 .full] script_List_L0
(.seq (.seq (.rg [] none)
(.cond .leaf .leaf))
(.block (.seq (.rg [] none)
(.seq (.block (.seq (.rg [] none)
(.cond (.seq (.rg [] none)
.leaf) (.seq (.rg [] none)
(.cond (.seq (.rg [] none)
.leaf) .leaf)))))
(.rg [] none)))))))
(.seq (.rg [] none)
.leaf)))
theorem script_List_Eok : EnvOk Try.prog script_List_E := env_ok tab_ok (by simp) (allFn_mem (show AllFn Try.prog script_List_fns from ⟨script_Read_ok, trivial⟩)) mixed (by kernel_rfl) (by kernel_rfl) (by kernel_rfl)
theorem script_List_eq (x : (List (BitVec 8))) : evF script_List_E 33 (bd Try.f15) [.val (.sl (.int .u8))] [.tmp 2 ((.sl T24), .full), .tmp 3 ((.int .i64), .view)] script_List_an x = script_List x := by kernel_rfl
theorem script_List_ok : FnOk Try.prog 15 { args := [.val (.sl (.int .u8))], res := [((.sl T24), .full), ((.int .i64), .view)], f := script_List } :=
  fn_ok script_List_Eok Try.func15 rfl (by kernel_rfl) (by kernel_rfl) (by kernel_rfl) (rs := [.tmp 2 ((.sl T24), .full), .tmp 3 ((.int .i64), .view)]) (c := bd Try.f15) (an := script_List_an) (show obF script_List_E 33 (bd Try.f15) [.val (.sl (.int .u8))] [.tmp 2 ((.sl T24), .full), .tmp 3 ((.int .i64), .view)] script_List_an from (And.intro trivial (And.intro (And.intro trivial (And.intro (fun _ => rfl) (And.intro (fun n j => by kernel_rfl) (fun n => (And.intro (And.intro trivial (And.intro trivial trivial)) (And.intro trivial (And.intro (And.intro trivial (And.intro (And.intro trivial trivial) (And.intro trivial (And.intro (And.intro trivial trivial) trivial)))) trivial))))))) (And.intro trivial trivial)))) script_List_eq
/-! reticuleref13_One: function 17 -/
noncomputable def reticuleref13_One_fns : List (Nat × Fun) := []
noncomputable def reticuleref13_One_E : Env := { ty := Re.look tyTab, eq := fun n => memB n [], fn := Re.look reticuleref13_One_fns, cut := fun n => memB n [], win := fun n => memB n [], one := fun n => memB n [], onc := fun n => memB n [], pre := fun n => memB n [], ptr := fun n => memB n [], psl := fun n => memB n [], parr := Re.look [] }
noncomputable def reticuleref13_One_an : An (Ds ((([.tmp 4 (.bool, .view)] : List RV).map RV.pm).map (·.1) ++ ioTys [.val T24, .val T24])) :=
(.seq (.rg [] none)
(.seq (.rg [] (some (.op ⟨[32], []⟩ (.op ⟨[32], []⟩ (.op ⟨[48], []⟩ (.op ⟨[48], []⟩ (.op ⟨[], []⟩ (.op ⟨[], []⟩ (.split 10 [(16, .bool)] (.op ⟨[32], []⟩ (.op ⟨[32], []⟩ (.op ⟨[48], []⟩ (.op ⟨[48], []⟩ (.op ⟨[], []⟩ (.op ⟨[], []⟩ .done)))))) (.op ⟨[], []⟩ (.split 17 [(23, .bool)] (.op ⟨[32], []⟩ (.op ⟨[32], []⟩ (.op ⟨[48], []⟩ (.op ⟨[48], []⟩ (.op ⟨[], []⟩ (.op ⟨[], []⟩ .done)))))) (.op ⟨[], []⟩ (.split 24 [(30, .bool)] (.op ⟨[32], []⟩ (.op ⟨[32], []⟩ (.op ⟨[48], []⟩ (.op ⟨[48], []⟩ (.op ⟨[], []⟩ (.op ⟨[], []⟩ .done)))))) (.op ⟨[], []⟩ (.split 31 [(37, .bool)] (.op ⟨[32], []⟩ (.op ⟨[32], []⟩ (.op ⟨[48], []⟩ (.op ⟨[48], []⟩ (.op ⟨[], []⟩ (.op ⟨[], []⟩ .done)))))) (.op ⟨[], []⟩ (.split 38 [(44, .bool)] (.op ⟨[32], []⟩ (.op ⟨[32], []⟩ (.op ⟨[48], []⟩ (.op ⟨[48], []⟩ (.op ⟨[], []⟩ (.op ⟨[], []⟩ .done)))))) (.op ⟨[], []⟩ (.split 45 [(51, .bool)] (.op ⟨[32], []⟩ (.op ⟨[32], []⟩ (.op ⟨[48], []⟩ (.op ⟨[48], []⟩ (.op ⟨[], []⟩ (.op ⟨[], []⟩ .done)))))) (.op ⟨[], []⟩ (.split 52 [(58, .bool)] (.op ⟨[32], []⟩ (.op ⟨[32], []⟩ (.op ⟨[48], []⟩ (.op ⟨[48], []⟩ (.op ⟨[], []⟩ (.op ⟨[], []⟩ .done)))))) (.op ⟨[], []⟩ (.split 59 [(67, .bool)] (.op ⟨[32], []⟩ (.op ⟨[32], []⟩ (.op ⟨[], []⟩ (.op ⟨[48], []⟩ (.op ⟨[48], []⟩ (.op ⟨[], []⟩ (.op ⟨[], []⟩ (.op ⟨[], []⟩ .done)))))))) (.op ⟨[], []⟩ .done))))))))))))))))))))))))
.leaf))
theorem reticuleref13_One_Eok : EnvOk Try.prog reticuleref13_One_E := env_ok tab_ok (by simp) (allFn_mem (show AllFn Try.prog reticuleref13_One_fns from trivial)) mixed (by kernel_rfl) (by kernel_rfl) (by kernel_rfl)
theorem reticuleref13_One_eq (x : (Int × (Int × (Int × (Int × (Int × (Bool × (Int × (BitVec 64 × (List (BitVec 8) × Unit))))))))) × (Int × (Int × (Int × (Int × (Int × (Bool × (Int × (BitVec 64 × (List (BitVec 8) × Unit)))))))))) : evF reticuleref13_One_E 68 (bd Try.f17) [.val T24, .val T24] [.tmp 4 (.bool, .view)] reticuleref13_One_an x = reticuleref13_One x := by kernel_rfl
theorem reticuleref13_One_ok : FnOk Try.prog 17 { args := [.val T24, .val T24], res := [(.bool, .view)], f := reticuleref13_One } :=
  fn_ok reticuleref13_One_Eok Try.func17 rfl (by kernel_rfl) (by kernel_rfl) (by kernel_rfl) (rs := [.tmp 4 (.bool, .view)]) (c := bd Try.f17) (an := reticuleref13_One_an) (ob_flat _ _ _ _ _ _ _ (by kernel_rfl)) reticuleref13_One_eq
/-! reticuleref13_Same: function 18 -/
noncomputable def reticuleref13_Same_fns : List (Nat × Fun) := [(17, { args := [.val T24, .val T24], res := [(.bool, .view)], f := reticuleref13_One })]
noncomputable def reticuleref13_Same_E : Env := { ty := Re.look tyTab, eq := fun n => memB n [], fn := Re.look reticuleref13_Same_fns, cut := fun n => memB n [], win := fun n => memB n [], one := fun n => memB n [], onc := fun n => memB n [], pre := fun n => memB n [], ptr := fun n => memB n [], psl := fun n => memB n [], parr := Re.look [] }
noncomputable def reticuleref13_Same_an : An (Ds ((([.tmp 4 (.bool, .view)] : List RV).map RV.pm).map (·.1) ++ ioTys [.val (.sl T24), .val (.sl T24)])) :=
(.seq (.rg [] none)
(.seq (.seq (.rg [] none)
(.cond (.seq (.rg [] none)
.leaf) .leaf))
(.seq (.seq (.rg [] none)
(.loop [.val 0 (.sl T24), .val 1 (.sl T24), .val 5 (.int .i64)] [] reticuleref13_Same_L0
(.seq (.seq (.rg [] none)
(.cond .leaf .leaf))
(.seq (.block (.seq (.rg [] (some (.op ⟨[], []⟩ (.op ⟨[], []⟩ (.op ⟨[], []⟩ (.op ⟨[], []⟩ (.op ⟨[], []⟩ (.op ⟨[], []⟩ (.op ⟨[], []⟩ (.op ⟨[], []⟩ (.op ⟨[400], []⟩ (.op ⟨[], []⟩ .done))))))))))))
(.cond (.seq (.rg [] none)
.leaf) .leaf)))
(.rg [] none)))))
(.seq (.rg [] none)
.leaf))))
theorem reticuleref13_Same_Eok : EnvOk Try.prog reticuleref13_Same_E := env_ok tab_ok (by simp) (allFn_mem (show AllFn Try.prog reticuleref13_Same_fns from ⟨reticuleref13_One_ok, trivial⟩)) mixed (by kernel_rfl) (by kernel_rfl) (by kernel_rfl)
theorem reticuleref13_Same_eq (x : (List (Int × (Int × (Int × (Int × (Int × (Bool × (Int × (BitVec 64 × (List (BitVec 8) × Unit)))))))))) × (List (Int × (Int × (Int × (Int × (Int × (Bool × (Int × (BitVec 64 × (List (BitVec 8) × Unit))))))))))) : evF reticuleref13_Same_E 27 (bd Try.f18) [.val (.sl T24), .val (.sl T24)] [.tmp 4 (.bool, .view)] reticuleref13_Same_an x = reticuleref13_Same x := by kernel_rfl
theorem reticuleref13_Same_ok : FnOk Try.prog 18 { args := [.val (.sl T24), .val (.sl T24)], res := [(.bool, .view)], f := reticuleref13_Same } :=
  fn_ok reticuleref13_Same_Eok Try.func18 rfl (by kernel_rfl) (by kernel_rfl) (by kernel_rfl) (rs := [.tmp 4 (.bool, .view)]) (c := bd Try.f18) (an := reticuleref13_Same_an) (show obF reticuleref13_Same_E 27 (bd Try.f18) [.val (.sl T24), .val (.sl T24)] [.tmp 4 (.bool, .view)] reticuleref13_Same_an from (And.intro trivial (And.intro (And.intro trivial (And.intro (And.intro trivial trivial) trivial)) (And.intro (And.intro trivial (And.intro (fun _ => rfl) (And.intro (fun n j => by kernel_rfl) (fun n => (And.intro (And.intro trivial (And.intro trivial trivial)) (And.intro (And.intro trivial (And.intro (And.intro trivial trivial) trivial)) trivial)))))) (And.intro trivial trivial))))) reticuleref13_Same_eq
/-! reticulelaw13_alive: function 8 -/
noncomputable def reticulelaw13_alive_fns : List (Nat × Fun) := [(20, { args := [.val (.sl T24)], res := [((.sl (.int .u8)), .full), ((.int .i64), .view)], f := script_All }), (15, { args := [.val (.sl (.int .u8))], res := [((.sl T24), .full), ((.int .i64), .view)], f := script_List }), (9, { args := [.val (.sl (.int .u8)), .val T24], res := [((.sl (.int .u8)), .full), ((.int .i64), .view)], f := script_Append }), (18, { args := [.val (.sl T24), .val (.sl T24)], res := [(.bool, .view)], f := reticuleref13_Same }), (11, { args := [.val T24], res := [(.bool, .view)], f := script_Right })]
noncomputable def reticulelaw13_alive_E : Env := { ty := Re.look tyTab, eq := fun n => memB n [], fn := Re.look reticulelaw13_alive_fns, cut := fun n => memB n [], win := fun n => memB n [], one := fun n => memB n [], onc := fun n => memB n [], pre := fun n => memB n [], ptr := fun n => memB n [], psl := fun n => memB n [], parr := Re.look [] }
noncomputable def reticulelaw13_alive_an : An (Ds ((([.tmp 0 (.bool, .view)] : List RV).map RV.pm).map (·.1) ++ ioTys [])) :=
(.seq (.rg [] none)
(.seq (.rg [] none)
(.seq (.rg [] none)
(.seq (.rg [] none)
(.seq (.rg [] none)
(.seq (.rg [] none)
(.seq (.rg [352] (some (.op ⟨[], []⟩ (.op ⟨[], []⟩ (.op ⟨[], []⟩ (.split 37 [(40, .bool)] (.op ⟨[], []⟩ (.op ⟨[], []⟩ (.op ⟨[], []⟩ .done))) (.op ⟨[], []⟩ (.split 41 [(44, .bool)] (.op ⟨[], []⟩ (.op ⟨[], []⟩ (.op ⟨[], []⟩ .done))) (.op ⟨[], []⟩ (.split 45 [(48, .bool)] (.op ⟨[], []⟩ (.op ⟨[], []⟩ (.op ⟨[], []⟩ .done))) (.op ⟨[], []⟩ (.split 49 [(53, .bool)] (.op ⟨[], []⟩ (.op ⟨[352], []⟩ (.op ⟨[], []⟩ (.op ⟨[], []⟩ .done)))) (.op ⟨[], []⟩ (.split 54 [(58, .bool)] (.op ⟨[], []⟩ (.op ⟨[], []⟩ (.op ⟨[224, 352, 912], [352]⟩ (.op ⟨[], []⟩ .done)))) (.op ⟨[], []⟩ (.split 59 [(63, .bool)] (.op ⟨[], []⟩ (.op ⟨[272], []⟩ (.op ⟨[], []⟩ (.op ⟨[], []⟩ .done)))) (.op ⟨[], []⟩ (.split 64 [(69, .bool)] (.op ⟨[], []⟩ (.op ⟨[272], []⟩ (.op ⟨[], []⟩ (.op ⟨[], []⟩ (.op ⟨[], []⟩ .done))))) (.op ⟨[], []⟩ (.split 70 [(75, .bool)] (.op ⟨[], []⟩ (.op ⟨[224], []⟩ (.op ⟨[], []⟩ (.op ⟨[1184], []⟩ (.op ⟨[], []⟩ .done))))) (.op ⟨[], []⟩ (.split 76 [(80, .bool)] (.op ⟨[], []⟩ (.op ⟨[1248], []⟩ (.op ⟨[], []⟩ (.op ⟨[], []⟩ .done)))) (.op ⟨[], []⟩ .done)))))))))))))))))))))))
.leaf)))))))
theorem reticulelaw13_alive_Eok : EnvOk Try.prog reticulelaw13_alive_E := env_ok tab_ok (by simp) (allFn_mem (show AllFn Try.prog reticulelaw13_alive_fns from ⟨script_All_ok, script_List_ok, script_Append_ok, reticuleref13_Same_ok, script_Right_ok, trivial⟩)) mixed (by kernel_rfl) (by kernel_rfl) (by kernel_rfl)
theorem reticulelaw13_alive_eq (x : Unit) : evF reticulelaw13_alive_E 81 (bd Try.f8) [] [.tmp 0 (.bool, .view)] reticulelaw13_alive_an x = reticulelaw13_alive x := by kernel_rfl
theorem reticulelaw13_alive_ok : FnOk Try.prog 8 { args := [], res := [(.bool, .view)], f := reticulelaw13_alive } :=
  fn_ok reticulelaw13_alive_Eok Try.func8 rfl (by kernel_rfl) (by kernel_rfl) (by kernel_rfl) (rs := [.tmp 0 (.bool, .view)]) (c := bd Try.f8) (an := reticulelaw13_alive_an) (ob_flat _ _ _ _ _ _ _ (by kernel_rfl)) reticulelaw13_alive_eq
/-! reticuleref13_Right: function 12 -/
noncomputable def reticuleref13_Right_fns : List (Nat × Fun) := []
noncomputable def reticuleref13_Right_E : Env := { ty := Re.look tyTab, eq := fun n => memB n [], fn := Re.look reticuleref13_Right_fns, cut := fun n => memB n [], win := fun n => memB n [], one := fun n => memB n [], onc := fun n => memB n [], pre := fun n => memB n [], ptr := fun n => memB n [], psl := fun n => memB n [], parr := Re.look [] }
noncomputable def reticuleref13_Right_an : An (Ds ((([.tmp 2 (.bool, .view)] : List RV).map RV.pm).map (·.1) ++ ioTys [.val T24])) :=
(.seq (.rg [] none)
(.seq (.seq (.rg [] (some (.op ⟨[16], []⟩ (.op ⟨[16], []⟩ (.op ⟨[], []⟩ (.op ⟨[], []⟩ (.split 6 [(10, .bool)] (.op ⟨[16], []⟩ (.op ⟨[16], []⟩ (.op ⟨[], []⟩ (.op ⟨[], []⟩ .done)))) (.op ⟨[], []⟩ (.split 11 [(15, .bool)] (.op ⟨[16], []⟩ (.op ⟨[16], []⟩ (.op ⟨[], []⟩ (.op ⟨[], []⟩ .done)))) (.op ⟨[], []⟩ (.split 16 [(20, .bool)] (.op ⟨[16], []⟩ (.op ⟨[16], []⟩ (.op ⟨[], []⟩ (.op ⟨[], []⟩ .done)))) (.op ⟨[], []⟩ (.split 21 [(25, .bool)] (.op ⟨[16], []⟩ (.op ⟨[16], []⟩ (.op ⟨[], []⟩ (.op ⟨[], []⟩ .done)))) (.op ⟨[], []⟩ (.split 26 [(30, .bool)] (.op ⟨[16], []⟩ (.op ⟨[16], []⟩ (.op ⟨[], []⟩ (.op ⟨[], []⟩ .done)))) (.op ⟨[], []⟩ (.split 31 [(35, .bool)] (.op ⟨[16], []⟩ (.op ⟨[16], []⟩ (.op ⟨[], []⟩ (.op ⟨[], []⟩ .done)))) (.op ⟨[], []⟩ (.split 36 [(40, .bool)] (.op ⟨[16], []⟩ (.op ⟨[16], []⟩ (.op ⟨[], []⟩ (.op ⟨[], []⟩ .done)))) .done)))))))))))))))))))
(.cond (.seq (.rg [] none)
.leaf) .leaf))
(.seq (.rg [] (some (.op ⟨[16], []⟩ (.op ⟨[16], []⟩ (.op ⟨[], []⟩ (.op ⟨[], []⟩ (.split 44 [(48, .bool)] (.op ⟨[16], []⟩ (.op ⟨[16], []⟩ (.op ⟨[], []⟩ (.op ⟨[], []⟩ .done)))) (.op ⟨[], []⟩ (.split 49 [(53, .bool)] (.op ⟨[16], []⟩ (.op ⟨[16], []⟩ (.op ⟨[], []⟩ (.op ⟨[], []⟩ .done)))) (.op ⟨[], []⟩ (.split 54 [(58, .bool)] (.op ⟨[16], []⟩ (.op ⟨[16], []⟩ (.op ⟨[], []⟩ (.op ⟨[], []⟩ .done)))) (.op ⟨[], []⟩ (.split 59 [(64, .bool)] (.op ⟨[16], []⟩ (.op ⟨[16], []⟩ (.op ⟨[], []⟩ (.op ⟨[], []⟩ (.op ⟨[], []⟩ .done))))) (.op ⟨[], []⟩ .done))))))))))))))
.leaf)))
theorem reticuleref13_Right_Eok : EnvOk Try.prog reticuleref13_Right_E := env_ok tab_ok (by simp) (allFn_mem (show AllFn Try.prog reticuleref13_Right_fns from trivial)) mixed (by kernel_rfl) (by kernel_rfl) (by kernel_rfl)
theorem reticuleref13_Right_eq (x : (Int × (Int × (Int × (Int × (Int × (Bool × (Int × (BitVec 64 × (List (BitVec 8) × Unit)))))))))) : evF reticuleref13_Right_E 65 (bd Try.f12) [.val T24] [.tmp 2 (.bool, .view)] reticuleref13_Right_an x = reticuleref13_Right x := by kernel_rfl
theorem reticuleref13_Right_ok : FnOk Try.prog 12 { args := [.val T24], res := [(.bool, .view)], f := reticuleref13_Right } :=
  fn_ok reticuleref13_Right_Eok Try.func12 rfl (by kernel_rfl) (by kernel_rfl) (by kernel_rfl) (rs := [.tmp 2 (.bool, .view)]) (c := bd Try.f12) (an := reticuleref13_Right_an) (ob_flat _ _ _ _ _ _ _ (by kernel_rfl)) reticuleref13_Right_eq
/-! reticuleref01_PutBig: function 25 -/
noncomputable def reticuleref01_PutBig_fns : List (Nat × Fun) := []
noncomputable def reticuleref01_PutBig_E : Env := { ty := Re.look tyTab, eq := fun n => memB n [], fn := Re.look reticuleref01_PutBig_fns, cut := fun n => memB n [], win := fun n => memB n [], one := fun n => memB n [], onc := fun n => memB n [], pre := fun n => memB n [], ptr := fun n => memB n [], psl := fun n => memB n [], parr := Re.look [] }
noncomputable def reticuleref01_PutBig_an : An (Ds ((([.tmp 4 ((.sl (.int .u8)), .full)] : List RV).map RV.pm).map (·.1) ++ ioTys [.val (.int .u64), .val (.int .i64)])) :=
(.seq (.rg [] none)
(.seq (.seq (.rg [] (some (.op ⟨[], []⟩ (.op ⟨[], []⟩ (.op ⟨[], []⟩ (.split 9 [(12, .bool)] (.op ⟨[], []⟩ (.op ⟨[], []⟩ (.op ⟨[], []⟩ .done))) .done))))))
(.cond (.seq (.rg [] none)
.leaf) .leaf))
(.seq (.rg [] none)
(.seq (.seq (.rg [] none)
(.loop [.val 0 (.int .u64), .row 5 (.int .u8) .full, .val 6 (.int .i64)] [.row 5 (.int .u8) .full] reticuleref01_PutBig_L0
(.seq (.seq (.rg [] none)
(.cond .leaf .leaf))
(.seq (.block (.seq (.rg [] none)
(.rg [] none)))
(.rg [] none)))))
(.seq (.rg [] none)
.leaf)))))
theorem reticuleref01_PutBig_Eok : EnvOk Try.prog reticuleref01_PutBig_E := env_ok tab_ok (by simp) (allFn_mem (show AllFn Try.prog reticuleref01_PutBig_fns from trivial)) mixed (by kernel_rfl) (by kernel_rfl) (by kernel_rfl)
theorem reticuleref01_PutBig_eq (x : (BitVec 64) × Int) : evF reticuleref01_PutBig_E 30 (bd Try.f25) [.val (.int .u64), .val (.int .i64)] [.tmp 4 ((.sl (.int .u8)), .full)] reticuleref01_PutBig_an x = reticuleref01_PutBig x := by kernel_rfl
theorem reticuleref01_PutBig_ok : FnOk Try.prog 25 { args := [.val (.int .u64), .val (.int .i64)], res := [((.sl (.int .u8)), .full)], f := reticuleref01_PutBig } :=
  fn_ok reticuleref01_PutBig_Eok Try.func25 rfl (by kernel_rfl) (by kernel_rfl) (by kernel_rfl) (rs := [.tmp 4 ((.sl (.int .u8)), .full)]) (c := bd Try.f25) (an := reticuleref01_PutBig_an) (show obF reticuleref01_PutBig_E 30 (bd Try.f25) [.val (.int .u64), .val (.int .i64)] [.tmp 4 ((.sl (.int .u8)), .full)] reticuleref01_PutBig_an from (And.intro trivial (And.intro (And.intro trivial (And.intro (And.intro trivial trivial) trivial)) (And.intro trivial (And.intro (And.intro trivial (And.intro (fun _ => rfl) (And.intro (fun n j => by kernel_rfl) (fun n => (And.intro (And.intro trivial (And.intro trivial trivial)) (And.intro (And.intro trivial trivial) trivial)))))) (And.intro trivial trivial)))))) reticuleref01_PutBig_eq
/-! reticuleref13_Append: function 10 -/
noncomputable def reticuleref13_Append_fns : List (Nat × Fun) := [(12, { args := [.val T24], res := [(.bool, .view)], f := reticuleref13_Right }), (25, { args := [.val (.int .u64), .val (.int .i64)], res := [((.sl (.int .u8)), .full)], f := reticuleref01_PutBig })]
noncomputable def reticuleref13_Append_E : Env := { ty := Re.look tyTab, eq := fun n => memB n [], fn := Re.look reticuleref13_Append_fns, cut := fun n => memB n [], win := fun n => memB n [], one := fun n => memB n [], onc := fun n => memB n [], pre := fun n => memB n [], ptr := fun n => memB n [], psl := fun n => memB n [], parr := Re.look [] }
noncomputable def reticuleref13_Append_an : An (Ds ((([.tmp 4 ((.sl (.int .u8)), .full), .tmp 5 ((.int .i64), .view)] : List RV).map RV.pm).map (·.1) ++ ioTys [.val (.sl (.int .u8)), .val T24])) :=
(.seq (.rg [] none)
(.seq (.seq (.rg [] none)
(.cond (.seq (.rg [] none)
.leaf) .leaf))
(.seq (.rg [] none)
(.join [.val 0 (.sl (.int .u8)), .box 3 T24, .val 6 (.int .u8)]
(.seq (.rg [] none)
(.cond (.rg [] none) .leaf))
(.seq (.rg [] (some (.op ⟨[288], [288]⟩ (.op ⟨[], []⟩ (.op ⟨[288, 320], [288, 320]⟩ (.op ⟨[48], []⟩ (.op ⟨[48], []⟩ (.op ⟨[], []⟩ (.op ⟨[48], []⟩ (.op ⟨[48], []⟩ (.op ⟨[], []⟩ (.op ⟨[48], []⟩ (.op ⟨[48], []⟩ (.op ⟨[], []⟩ (.op ⟨[48], []⟩ (.op ⟨[48], []⟩ (.op ⟨[], []⟩ (.op ⟨[], []⟩ (.op ⟨[48], []⟩ (.op ⟨[48], []⟩ (.op ⟨[], []⟩ (.op ⟨[], []⟩ (.op ⟨[], []⟩ (.op ⟨[48], []⟩ (.op ⟨[48], []⟩ (.op ⟨[], []⟩ (.op ⟨[672], [672]⟩ (.op ⟨[320, 672, 688], [320, 688]⟩ (.op ⟨[], []⟩ .done)))))))))))))))))))))))))))))
(.seq (.rg [] none)
(.seq (.rg [] none)
(.seq (.rg [] none)
.leaf))))))))
theorem reticuleref13_Append_Eok : EnvOk Try.prog reticuleref13_Append_E := env_ok tab_ok (by simp) (allFn_mem (show AllFn Try.prog reticuleref13_Append_fns from ⟨reticuleref13_Right_ok, reticuleref01_PutBig_ok, trivial⟩)) mixed (by kernel_rfl) (by kernel_rfl) (by kernel_rfl)
theorem reticuleref13_Append_eq (x : (List (BitVec 8)) × (Int × (Int × (Int × (Int × (Int × (Bool × (Int × (BitVec 64 × (List (BitVec 8) × Unit)))))))))) : evF reticuleref13_Append_E 66 (bd Try.f10) [.val (.sl (.int .u8)), .val T24] [.tmp 4 ((.sl (.int .u8)), .full), .tmp 5 ((.int .i64), .view)] reticuleref13_Append_an x = reticuleref13_Append x := by kernel_rfl
theorem reticuleref13_Append_ok : FnOk Try.prog 10 { args := [.val (.sl (.int .u8)), .val T24], res := [((.sl (.int .u8)), .full), ((.int .i64), .view)], f := reticuleref13_Append } :=
  fn_ok reticuleref13_Append_Eok Try.func10 rfl (by kernel_rfl) (by kernel_rfl) (by kernel_rfl) (rs := [.tmp 4 ((.sl (.int .u8)), .full), .tmp 5 ((.int .i64), .view)]) (c := bd Try.f10) (an := reticuleref13_Append_an) (ob_flat _ _ _ _ _ _ _ (by kernel_rfl)) reticuleref13_Append_eq
/-! reticulelaw13_ScriptAppends: function 3 -/
noncomputable def reticulelaw13_ScriptAppends_fns : List (Nat × Fun) := [(8, { args := [], res := [(.bool, .view)], f := reticulelaw13_alive }), (9, { args := [.val (.sl (.int .u8)), .val T24], res := [((.sl (.int .u8)), .full), ((.int .i64), .view)], f := script_Append }), (10, { args := [.val (.sl (.int .u8)), .val T24], res := [((.sl (.int .u8)), .full), ((.int .i64), .view)], f := reticuleref13_Append }), (11, { args := [.val T24], res := [(.bool, .view)], f := script_Right }), (12, { args := [.val T24], res := [(.bool, .view)], f := reticuleref13_Right })]
noncomputable def reticulelaw13_ScriptAppends_E : Env := { ty := Re.look tyTab, eq := fun n => memB n [], fn := Re.look reticulelaw13_ScriptAppends_fns, cut := fun n => memB n [], win := fun n => memB n [], one := fun n => memB n [], onc := fun n => memB n [], pre := fun n => memB n [], ptr := fun n => memB n [], psl := fun n => memB n [], parr := Re.look [] }
noncomputable def reticulelaw13_ScriptAppends_an : An (Ds ((([.tmp 4 (.bool, .view)] : List RV).map RV.pm).map (·.1) ++ ioTys [.val (.sl (.int .u8)), .val T24])) :=
(.seq (.rg [] none)
(.seq (.seq (.rg [] none)
(.cond (.seq (.rg [] none)
.leaf) .leaf))
(.seq (.seq (.rg [] (some (.op ⟨[], []⟩ (.op ⟨[], []⟩ (.op ⟨[], []⟩ (.op ⟨[], []⟩ (.split 14 [(19, .bool)] (.op ⟨[48], []⟩ (.op ⟨[48], []⟩ (.op ⟨[], []⟩ (.op ⟨[], []⟩ (.op ⟨[], []⟩ .done))))) .done)))))))
(.cond (.seq (.rg [] none)
.leaf) .leaf))
(.seq (.rg [] none)
(.seq (.rg [] none)
(.seq (.rg [] (some (.op ⟨[], []⟩ (.op ⟨[368], []⟩ (.op ⟨[], []⟩ (.op ⟨[464], []⟩ (.op ⟨[], []⟩ (.op ⟨[], []⟩ (.split 37 [(41, .bool)] (.op ⟨[], []⟩ (.op ⟨[], []⟩ (.op ⟨[], []⟩ (.op ⟨[], []⟩ .done)))) (.op ⟨[], []⟩ (.split 42 [(48, .bool)] (.op ⟨[48], []⟩ (.op ⟨[704], []⟩ (.op ⟨[48], []⟩ (.op ⟨[736], []⟩ (.op ⟨[], []⟩ (.op ⟨[], []⟩ .done)))))) (.op ⟨[], []⟩ .done))))))))))))
.leaf))))))
theorem reticulelaw13_ScriptAppends_Eok : EnvOk Try.prog reticulelaw13_ScriptAppends_E := env_ok tab_ok (by simp) (allFn_mem (show AllFn Try.prog reticulelaw13_ScriptAppends_fns from ⟨reticulelaw13_alive_ok, script_Append_ok, reticuleref13_Append_ok, script_Right_ok, reticuleref13_Right_ok, trivial⟩)) mixed (by kernel_rfl) (by kernel_rfl) (by kernel_rfl)
theorem reticulelaw13_ScriptAppends_eq (x : (List (BitVec 8)) × (Int × (Int × (Int × (Int × (Int × (Bool × (Int × (BitVec 64 × (List (BitVec 8) × Unit)))))))))) : evF reticulelaw13_ScriptAppends_E 49 (bd Try.f3) [.val (.sl (.int .u8)), .val T24] [.tmp 4 (.bool, .view)] reticulelaw13_ScriptAppends_an x = reticulelaw13_ScriptAppends x := by kernel_rfl
theorem reticulelaw13_ScriptAppends_ok : FnOk Try.prog 3 { args := [.val (.sl (.int .u8)), .val T24], res := [(.bool, .view)], f := reticulelaw13_ScriptAppends } :=
  fn_ok reticulelaw13_ScriptAppends_Eok Try.func3 rfl (by kernel_rfl) (by kernel_rfl) (by kernel_rfl) (rs := [.tmp 4 (.bool, .view)]) (c := bd Try.f3) (an := reticulelaw13_ScriptAppends_an) (ob_flat _ _ _ _ _ _ _ (by kernel_rfl)) reticulelaw13_ScriptAppends_eq
/-! reticuleref01_Big: function 29 -/
noncomputable def reticuleref01_Big_fns : List (Nat × Fun) := []
noncomputable def reticuleref01_Big_E : Env := { ty := Re.look tyTab, eq := fun n => memB n [], fn := Re.look reticuleref01_Big_fns, cut := fun n => memB n [], win := fun n => memB n [], one := fun n => memB n [], onc := fun n => memB n [], pre := fun n => memB n [], ptr := fun n => memB n [], psl := fun n => memB n [], parr := Re.look [] }
noncomputable def reticuleref01_Big_an : An (Ds ((([.tmp 6 ((.int .u64), .view), .tmp 7 (.bool, .view)] : List RV).map RV.pm).map (·.1) ++ ioTys [.val (.sl (.int .u8)), .val (.int .i64), .val (.int .i64)])) :=
(.seq (.rg [] none)
(.seq (.seq (.rg [] (some (.op ⟨[], []⟩ (.op ⟨[], []⟩ (.op ⟨[], []⟩ (.split 12 [(15, .bool)] (.op ⟨[], []⟩ (.op ⟨[], []⟩ (.op ⟨[], []⟩ .done))) (.op ⟨[], []⟩ (.split 16 [(19, .bool)] (.op ⟨[], []⟩ (.op ⟨[], []⟩ (.op ⟨[], []⟩ .done))) (.op ⟨[], []⟩ (.split 20 [(25, .bool)] (.op ⟨[], []⟩ (.op ⟨[], []⟩ (.op ⟨[], []⟩ (.op ⟨[], []⟩ (.op ⟨[], []⟩ .done))))) (.op ⟨[], []⟩ (.split 26 [(33, .bool)] (.op ⟨[], []⟩ (.op ⟨[], []⟩ (.op ⟨[], []⟩ (.op ⟨[], []⟩ (.op ⟨[], []⟩ (.op ⟨[], []⟩ (.op ⟨[], []⟩ .done))))))) .done))))))))))))
(.cond (.seq (.rg [] none)
.leaf) .leaf))
(.seq (.rg [] none)
(.seq (.seq (.rg [] none)
(.loop [.val 0 (.sl (.int .u8)), .val 1 (.int .i64), .val 2 (.int .i64), .val 8 (.int .u64), .val 9 (.int .i64)] [.val 8 (.int .u64)] reticuleref01_Big_L0
(.seq (.seq (.rg [] none)
(.cond .leaf .leaf))
(.seq (.block (.rg [] none))
(.rg [] none)))))
(.seq (.rg [] none)
.leaf)))))
theorem reticuleref01_Big_Eok : EnvOk Try.prog reticuleref01_Big_E := env_ok tab_ok (by simp) (allFn_mem (show AllFn Try.prog reticuleref01_Big_fns from trivial)) mixed (by kernel_rfl) (by kernel_rfl) (by kernel_rfl)
theorem reticuleref01_Big_eq (x : (List (BitVec 8)) × Int × Int) : evF reticuleref01_Big_E 50 (bd Try.f29) [.val (.sl (.int .u8)), .val (.int .i64), .val (.int .i64)] [.tmp 6 ((.int .u64), .view), .tmp 7 (.bool, .view)] reticuleref01_Big_an x = reticuleref01_Big x := by kernel_rfl
theorem reticuleref01_Big_ok : FnOk Try.prog 29 { args := [.val (.sl (.int .u8)), .val (.int .i64), .val (.int .i64)], res := [((.int .u64), .view), (.bool, .view)], f := reticuleref01_Big } :=
  fn_ok reticuleref01_Big_Eok Try.func29 rfl (by kernel_rfl) (by kernel_rfl) (by kernel_rfl) (rs := [.tmp 6 ((.int .u64), .view), .tmp 7 (.bool, .view)]) (c := bd Try.f29) (an := reticuleref01_Big_an) (show obF reticuleref01_Big_E 50 (bd Try.f29) [.val (.sl (.int .u8)), .val (.int .i64), .val (.int .i64)] [.tmp 6 ((.int .u64), .view), .tmp 7 (.bool, .view)] reticuleref01_Big_an from (And.intro trivial (And.intro (And.intro trivial (And.intro (And.intro trivial trivial) trivial)) (And.intro trivial (And.intro (And.intro trivial (And.intro (fun _ => rfl) (And.intro (fun n j => by kernel_rfl) (fun n => (And.intro (And.intro trivial (And.intro trivial trivial)) (And.intro trivial trivial)))))) (And.intro trivial trivial)))))) reticuleref01_Big_eq
/-! reticuleref13_Read: function 14 -/
noncomputable def reticuleref13_Read_fns : List (Nat × Fun) := [(29, { args := [.val (.sl (.int .u8)), .val (.int .i64), .val (.int .i64)], res := [((.int .u64), .view), (.bool, .view)], f := reticuleref01_Big })]
noncomputable def reticuleref13_Read_E : Env := { ty := Re.look tyTab, eq := fun n => memB n [], fn := Re.look reticuleref13_Read_fns, cut := fun n => memB n [], win := fun n => memB n [], one := fun n => memB n [], onc := fun n => memB n [], pre := fun n => memB n [], ptr := fun n => memB n [], psl := fun n => memB n [], parr := Re.look [] }
noncomputable def reticuleref13_Read_an : An (Ds ((([.cell 4 T24, .tmp 5 ((.int .i64), .view), .tmp 6 ((.int .i64), .view)] : List RV).map RV.pm).map (·.1) ++ ioTys [.val (.sl (.int .u8)), .val (.int .i64)])) :=
(.seq (.rg [] none)
(.seq (.seq (.rg [] (some (.op ⟨[], []⟩ (.op ⟨[], []⟩ (.op ⟨[], []⟩ (.split 12 [(17, .bool)] (.op ⟨[], []⟩ (.op ⟨[], []⟩ (.op ⟨[], []⟩ (.op ⟨[], []⟩ (.op ⟨[], []⟩ .done))))) .done))))))
(.cond (.seq (.rg [] none)
.leaf) .leaf))
(.seq (.seq (.rg [] none)
(.cond (.seq (.rg [] none)
.leaf) .leaf))
(.seq (.rg [] none)
(.seq (.seq (.rg [] (some (.op ⟨[], []⟩ (.op ⟨[], []⟩ (.op ⟨[], []⟩ (.op ⟨[], []⟩ (.op ⟨[], []⟩ (.split 34 [(39, .bool)] (.op ⟨[], []⟩ (.op ⟨[], []⟩ (.op ⟨[], []⟩ (.op ⟨[], []⟩ (.op ⟨[], []⟩ .done))))) (.op ⟨[], []⟩ (.split 40 [(45, .bool)] (.op ⟨[], []⟩ (.op ⟨[], []⟩ (.op ⟨[], []⟩ (.op ⟨[], []⟩ (.op ⟨[], []⟩ .done))))) (.op ⟨[], []⟩ (.split 46 [(51, .bool)] (.op ⟨[], []⟩ (.op ⟨[], []⟩ (.op ⟨[], []⟩ (.op ⟨[], []⟩ (.op ⟨[], []⟩ .done))))) (.op ⟨[], []⟩ (.split 52 [(57, .bool)] (.op ⟨[], []⟩ (.op ⟨[], []⟩ (.op ⟨[], []⟩ (.op ⟨[], []⟩ (.op ⟨[], []⟩ .done))))) .done))))))))))))))
(.cond (.seq (.rg [] none)
.leaf) .leaf))
(.seq (.rg [] (some (.op ⟨[], []⟩ (.op ⟨[], []⟩ (.op ⟨[], []⟩ (.op ⟨[], []⟩ (.op ⟨[], []⟩ (.op ⟨[], []⟩ (.op ⟨[], []⟩ (.op ⟨[], []⟩ (.op ⟨[], []⟩ (.op ⟨[], []⟩ (.op ⟨[], []⟩ .done)))))))))))))
(.seq (.seq (.rg [] none)
(.cond (.seq (.rg [] none)
.leaf) .leaf))
(.seq (.seq (.rg [] none)
(.cond (.seq (.rg [] none)
.leaf) .leaf))
(.seq (.rg [] (some (.op ⟨[], []⟩ (.op ⟨[], []⟩ (.op ⟨[], []⟩ (.op ⟨[], []⟩ (.op ⟨[], []⟩ (.op ⟨[], []⟩ (.op ⟨[], []⟩ (.op ⟨[], []⟩ (.op ⟨[], []⟩ (.op ⟨[], []⟩ (.op ⟨[], []⟩ (.op ⟨[], []⟩ (.op ⟨[], []⟩ (.op ⟨[], []⟩ (.op ⟨[], []⟩ (.op ⟨[], []⟩ (.op ⟨[], []⟩ (.op ⟨[], []⟩ (.op ⟨[], []⟩ (.op ⟨[], []⟩ (.op ⟨[], []⟩ (.op ⟨[], []⟩ (.op ⟨[], []⟩ (.op ⟨[], []⟩ (.op ⟨[], []⟩ (.op ⟨[], []⟩ (.op ⟨[], []⟩ (.op ⟨[], []⟩ (.op ⟨[], []⟩ (.op ⟨[], []⟩ (.op ⟨[], []⟩ (.op ⟨[], []⟩ (.op ⟨[], []⟩ (.op ⟨[], []⟩ (.op ⟨[], []⟩ (.op ⟨[], []⟩ (.op ⟨[144], [144]⟩ (.op ⟨[144], [144]⟩ .done))))))))))))))))))))))))))))))))))))))))
(.seq (.rg [] none)
(.seq (.rg [] none)
(.seq (.rg [] none)
.leaf))))))))))))
theorem reticuleref13_Read_Eok : EnvOk Try.prog reticuleref13_Read_E := env_ok tab_ok (by simp) (allFn_mem (show AllFn Try.prog reticuleref13_Read_fns from ⟨reticuleref01_Big_ok, trivial⟩)) mixed (by kernel_rfl) (by kernel_rfl) (by kernel_rfl)
theorem reticuleref13_Read_eq (x : (List (BitVec 8)) × Int) : evF reticuleref13_Read_E 138 (bd Try.f14) [.val (.sl (.int .u8)), .val (.int .i64)] [.cell 4 T24, .tmp 5 ((.int .i64), .view), .tmp 6 ((.int .i64), .view)] reticuleref13_Read_an x = reticuleref13_Read x := by kernel_rfl
theorem reticuleref13_Read_ok : FnOk Try.prog 14 { args := [.val (.sl (.int .u8)), .val (.int .i64)], res := [(T24, .view), ((.int .i64), .view), ((.int .i64), .view)], f := reticuleref13_Read } :=
  fn_ok reticuleref13_Read_Eok Try.func14 rfl (by kernel_rfl) (by kernel_rfl) (by kernel_rfl) (rs := [.cell 4 T24, .tmp 5 ((.int .i64), .view), .tmp 6 ((.int .i64), .view)]) (c := bd Try.f14) (an := reticuleref13_Read_an) (ob_flat _ _ _ _ _ _ _ (by kernel_rfl)) reticuleref13_Read_eq
/-! reticuleref13_List: function 16 -/
noncomputable def reticuleref13_List_fns : List (Nat × Fun) := [(14, { args := [.val (.sl (.int .u8)), .val (.int .i64)], res := [(T24, .view), ((.int .i64), .view), ((.int .i64), .view)], f := reticuleref13_Read })]
noncomputable def reticuleref13_List_E : Env := { ty := Re.look tyTab, eq := fun n => memB n [], fn := Re.look reticuleref13_List_fns, cut := fun n => memB n [], win := fun n => memB n [], one := fun n => memB n [], onc := fun n => memB n [], pre := fun n => memB n [], ptr := fun n => memB n [], psl := fun n => memB n [], parr := Re.look [] }
noncomputable def reticuleref13_List_an : An (Ds ((([.tmp 2 ((.sl T24), .full), .tmp 3 ((.int .i64), .view)] : List RV).map RV.pm).map (·.1) ++ ioTys [.val (.sl (.int .u8))])) :=
(.seq (.rg [] none)
(.seq (.rg [] none)
(.seq (.rg [] none)
(.seq (.loop [.val 0 (.sl (.int .u8)), .row 4 T24 .full, .val 5 (.int .i64)] [.row 4 T24 .full] reticuleref13_List_L0
(.seq (.seq (.rg [] none)
(.cond .leaf .leaf))
(.block (.seq (.rg [] none)
(.seq (.seq (.rg [] none)
(.cond (.seq (.rg [] none)
.leaf) .leaf))
(.seq (.seq (.rg [] none)
(.cond (.seq (.rg [] none)
.leaf) .leaf))
(.rg [] none)))))))
(.seq (.rg [] none)
.leaf)))))
theorem reticuleref13_List_Eok : EnvOk Try.prog reticuleref13_List_E := env_ok tab_ok (by simp) (allFn_mem (show AllFn Try.prog reticuleref13_List_fns from ⟨reticuleref13_Read_ok, trivial⟩)) mixed (by kernel_rfl) (by kernel_rfl) (by kernel_rfl)
theorem reticuleref13_List_eq (x : (List (BitVec 8))) : evF reticuleref13_List_E 32 (bd Try.f16) [.val (.sl (.int .u8))] [.tmp 2 ((.sl T24), .full), .tmp 3 ((.int .i64), .view)] reticuleref13_List_an x = reticuleref13_List x := by kernel_rfl
theorem reticuleref13_List_ok : FnOk Try.prog 16 { args := [.val (.sl (.int .u8))], res := [((.sl T24), .full), ((.int .i64), .view)], f := reticuleref13_List } :=
  fn_ok reticuleref13_List_Eok Try.func16 rfl (by kernel_rfl) (by kernel_rfl) (by kernel_rfl) (rs := [.tmp 2 ((.sl T24), .full), .tmp 3 ((.int .i64), .view)]) (c := bd Try.f16) (an := reticuleref13_List_an) (show obF reticuleref13_List_E 32 (bd Try.f16) [.val (.sl (.int .u8))] [.tmp 2 ((.sl T24), .full), .tmp 3 ((.int .i64), .view)] reticuleref13_List_an from (And.intro trivial (And.intro trivial (And.intro trivial (And.intro (And.intro (fun _ => rfl) (And.intro (fun n j => by kernel_rfl) (fun n => (And.intro (And.intro trivial (And.intro trivial trivial)) (And.intro trivial (And.intro (And.intro trivial (And.intro (And.intro trivial trivial) trivial)) (And.intro (And.intro trivial (And.intro (And.intro trivial trivial) trivial)) trivial))))))) (And.intro trivial trivial)))))) reticuleref13_List_eq
/-! reticulelaw13_ScriptReads: function 4 -/
noncomputable def reticulelaw13_ScriptReads_fns : List (Nat × Fun) := [(8, { args := [], res := [(.bool, .view)], f := reticulelaw13_alive }), (13, { args := [.val (.sl (.int .u8)), .val (.int .i64)], res := [(T24, .view), ((.int .i64), .view), ((.int .i64), .view)], f := script_Read }), (14, { args := [.val (.sl (.int .u8)), .val (.int .i64)], res := [(T24, .view), ((.int .i64), .view), ((.int .i64), .view)], f := reticuleref13_Read }), (15, { args := [.val (.sl (.int .u8))], res := [((.sl T24), .full), ((.int .i64), .view)], f := script_List }), (16, { args := [.val (.sl (.int .u8))], res := [((.sl T24), .full), ((.int .i64), .view)], f := reticuleref13_List }), (17, { args := [.val T24, .val T24], res := [(.bool, .view)], f := reticuleref13_One }), (18, { args := [.val (.sl T24), .val (.sl T24)], res := [(.bool, .view)], f := reticuleref13_Same })]
noncomputable def reticulelaw13_ScriptReads_E : Env := { ty := Re.look tyTab, eq := fun n => memB n [], fn := Re.look reticulelaw13_ScriptReads_fns, cut := fun n => memB n [], win := fun n => memB n [], one := fun n => memB n [], onc := fun n => memB n [], pre := fun n => memB n [], ptr := fun n => memB n [], psl := fun n => memB n [], parr := Re.look [] }
noncomputable def reticulelaw13_ScriptReads_an : An (Ds ((([.tmp 4 (.bool, .view)] : List RV).map RV.pm).map (·.1) ++ ioTys [.val (.sl (.int .u8)), .val (.int .i64)])) :=
(.seq (.rg [] none)
(.seq (.seq (.rg [] none)
(.cond (.seq (.rg [] none)
.leaf) .leaf))
(.seq (.seq (.rg [] none)
(.cond (.seq (.rg [] none)
.leaf) .leaf))
(.seq (.rg [] none)
(.seq (.rg [] none)
(.seq (.rg [] none)
(.seq (.rg [] none)
(.seq (.rg [576, 656] (some (.op ⟨[80], []⟩ (.op ⟨[128], []⟩ (.op ⟨[736], []⟩ (.op ⟨[], []⟩ (.split 47 [(51, .bool)] (.op ⟨[], []⟩ (.op ⟨[], []⟩ (.op ⟨[], []⟩ (.op ⟨[], []⟩ .done)))) (.op ⟨[], []⟩ (.split 52 [(56, .bool)] (.op ⟨[], []⟩ (.op ⟨[], []⟩ (.op ⟨[], []⟩ (.op ⟨[], []⟩ .done)))) (.op ⟨[], []⟩ (.split 57 [(61, .bool)] (.op ⟨[], []⟩ (.op ⟨[], []⟩ (.op ⟨[576, 656, 960], [576, 656]⟩ (.op ⟨[], []⟩ .done)))) (.op ⟨[], []⟩ (.split 62 [(66, .bool)] (.op ⟨[], []⟩ (.op ⟨[], []⟩ (.op ⟨[], []⟩ (.op ⟨[], []⟩ .done)))) (.op ⟨[], []⟩ .done))))))))))))))
.leaf))))))))
theorem reticulelaw13_ScriptReads_Eok : EnvOk Try.prog reticulelaw13_ScriptReads_E := env_ok tab_ok (by simp) (allFn_mem (show AllFn Try.prog reticulelaw13_ScriptReads_fns from ⟨reticulelaw13_alive_ok, script_Read_ok, reticuleref13_Read_ok, script_List_ok, reticuleref13_List_ok, reticuleref13_One_ok, reticuleref13_Same_ok, trivial⟩)) mixed (by kernel_rfl) (by kernel_rfl) (by kernel_rfl)
theorem reticulelaw13_ScriptReads_eq (x : (List (BitVec 8)) × Int) : evF reticulelaw13_ScriptReads_E 67 (bd Try.f4) [.val (.sl (.int .u8)), .val (.int .i64)] [.tmp 4 (.bool, .view)] reticulelaw13_ScriptReads_an x = reticulelaw13_ScriptReads x := by kernel_rfl
theorem reticulelaw13_ScriptReads_ok : FnOk Try.prog 4 { args := [.val (.sl (.int .u8)), .val (.int .i64)], res := [(.bool, .view)], f := reticulelaw13_ScriptReads } :=
  fn_ok reticulelaw13_ScriptReads_Eok Try.func4 rfl (by kernel_rfl) (by kernel_rfl) (by kernel_rfl) (rs := [.tmp 4 (.bool, .view)]) (c := bd Try.f4) (an := reticulelaw13_ScriptReads_an) (ob_flat _ _ _ _ _ _ _ (by kernel_rfl)) reticulelaw13_ScriptReads_eq
/-! reticuleref13_Great: function 19 -/
noncomputable def reticuleref13_Great_fns : List (Nat × Fun) := []
noncomputable def reticuleref13_Great_E : Env := { ty := Re.look tyTab, eq := fun n => memB n [], fn := Re.look reticuleref13_Great_fns, cut := fun n => memB n [], win := fun n => memB n [], one := fun n => memB n [], onc := fun n => memB n [], pre := fun n => memB n [], ptr := fun n => memB n [], psl := fun n => memB n [], parr := Re.look [] }
noncomputable def reticuleref13_Great_an : An (Ds ((([.tmp 4 (.bool, .view)] : List RV).map RV.pm).map (·.1) ++ ioTys [.val (.sl T24), .val (.int .i64)])) :=
(.seq (.rg [] none)
(.seq (.seq (.rg [] none)
(.cond (.seq (.rg [] none)
.leaf) .leaf))
(.seq (.seq (.rg [] none)
(.loop [.val 0 (.sl T24), .val 5 (.int .i64)] [] reticuleref13_Great_L0
(.seq (.seq (.rg [] none)
(.cond .leaf .leaf))
(.seq (.block (.seq (.rg [] none)
(.cond (.seq (.rg [] none)
.leaf) .leaf)))
(.rg [] none)))))
(.seq (.rg [] none)
.leaf))))
theorem reticuleref13_Great_Eok : EnvOk Try.prog reticuleref13_Great_E := env_ok tab_ok (by simp) (allFn_mem (show AllFn Try.prog reticuleref13_Great_fns from trivial)) mixed (by kernel_rfl) (by kernel_rfl) (by kernel_rfl)
theorem reticuleref13_Great_eq (x : (List (Int × (Int × (Int × (Int × (Int × (Bool × (Int × (BitVec 64 × (List (BitVec 8) × Unit)))))))))) × Int) : evF reticuleref13_Great_E 23 (bd Try.f19) [.val (.sl T24), .val (.int .i64)] [.tmp 4 (.bool, .view)] reticuleref13_Great_an x = reticuleref13_Great x := by kernel_rfl
theorem reticuleref13_Great_ok : FnOk Try.prog 19 { args := [.val (.sl T24), .val (.int .i64)], res := [(.bool, .view)], f := reticuleref13_Great } :=
  fn_ok reticuleref13_Great_Eok Try.func19 rfl (by kernel_rfl) (by kernel_rfl) (by kernel_rfl) (rs := [.tmp 4 (.bool, .view)]) (c := bd Try.f19) (an := reticuleref13_Great_an) (show obF reticuleref13_Great_E 23 (bd Try.f19) [.val (.sl T24), .val (.int .i64)] [.tmp 4 (.bool, .view)] reticuleref13_Great_an from (And.intro trivial (And.intro (And.intro trivial (And.intro (And.intro trivial trivial) trivial)) (And.intro (And.intro trivial (And.intro (fun _ => rfl) (And.intro (fun n j => by kernel_rfl) (fun n => (And.intro (And.intro trivial (And.intro trivial trivial)) (And.intro (And.intro trivial (And.intro (And.intro trivial trivial) trivial)) trivial)))))) (And.intro trivial trivial))))) reticuleref13_Great_eq
/-! reticuleref13_All: function 21 -/
noncomputable def reticuleref13_All_fns : List (Nat × Fun) := [(10, { args := [.val (.sl (.int .u8)), .val T24], res := [((.sl (.int .u8)), .full), ((.int .i64), .view)], f := reticuleref13_Append })]
noncomputable def reticuleref13_All_E : Env := { ty := Re.look tyTab, eq := fun n => memB n [], fn := Re.look reticuleref13_All_fns, cut := fun n => memB n [], win := fun n => memB n [], one := fun n => memB n [], onc := fun n => memB n [], pre := fun n => memB n [], ptr := fun n => memB n [], psl := fun n => memB n [], parr := Re.look [] }
noncomputable def reticuleref13_All_an : An (Ds ((([.tmp 2 ((.sl (.int .u8)), .full), .tmp 3 ((.int .i64), .view)] : List RV).map RV.pm).map (·.1) ++ ioTys [.val (.sl T24)])) :=
(.seq (.rg [] none)
(.seq (.seq (.rg [] none)
(.cond (.seq (.rg [] none)
.leaf) .leaf))
(.seq (.rg [] none)
(.seq (.seq (.rg [] none)
(.loop [.val 0 (.sl T24), .row 4 (.int .u8) .full, .val 5 (.int .i64)] [.row 4 (.int .u8) .full] reticuleref13_All_L0
(.seq (.seq (.rg [] none)
(.cond .leaf .leaf))
(.seq (.block (.seq (.rg [] none)
(.seq (.seq (.rg [] none)
(.cond (.seq (.rg [] none)
.leaf) .leaf))
(.rg [] none))))
(.rg [] none)))))
(.seq (.rg [] none)
.leaf)))))
theorem reticuleref13_All_Eok : EnvOk Try.prog reticuleref13_All_E := env_ok tab_ok (by simp) (allFn_mem (show AllFn Try.prog reticuleref13_All_fns from ⟨reticuleref13_Append_ok, trivial⟩)) mixed (by kernel_rfl) (by kernel_rfl) (by kernel_rfl)
theorem reticuleref13_All_eq (x : (List (Int × (Int × (Int × (Int × (Int × (Bool × (Int × (BitVec 64 × (List (BitVec 8) × Unit))))))))))) : evF reticuleref13_All_E 31 (bd Try.f21) [.val (.sl T24)] [.tmp 2 ((.sl (.int .u8)), .full), .tmp 3 ((.int .i64), .view)] reticuleref13_All_an x = reticuleref13_All x := by kernel_rfl
theorem reticuleref13_All_ok : FnOk Try.prog 21 { args := [.val (.sl T24)], res := [((.sl (.int .u8)), .full), ((.int .i64), .view)], f := reticuleref13_All } :=
  fn_ok reticuleref13_All_Eok Try.func21 rfl (by kernel_rfl) (by kernel_rfl) (by kernel_rfl) (rs := [.tmp 2 ((.sl (.int .u8)), .full), .tmp 3 ((.int .i64), .view)]) (c := bd Try.f21) (an := reticuleref13_All_an) (show obF reticuleref13_All_E 31 (bd Try.f21) [.val (.sl T24)] [.tmp 2 ((.sl (.int .u8)), .full), .tmp 3 ((.int .i64), .view)] reticuleref13_All_an from (And.intro trivial (And.intro (And.intro trivial (And.intro (And.intro trivial trivial) trivial)) (And.intro trivial (And.intro (And.intro trivial (And.intro (fun _ => rfl) (And.intro (fun n j => by kernel_rfl) (fun n => (And.intro (And.intro trivial (And.intro trivial trivial)) (And.intro (And.intro trivial (And.intro (And.intro trivial (And.intro (And.intro trivial trivial) trivial)) trivial)) trivial)))))) (And.intro trivial trivial)))))) reticuleref13_All_eq
/-! reticulelaw13_ScriptBack: function 5 -/
noncomputable def reticulelaw13_ScriptBack_fns : List (Nat × Fun) := [(8, { args := [], res := [(.bool, .view)], f := reticulelaw13_alive }), (19, { args := [.val (.sl T24), .val (.int .i64)], res := [(.bool, .view)], f := reticuleref13_Great }), (20, { args := [.val (.sl T24)], res := [((.sl (.int .u8)), .full), ((.int .i64), .view)], f := script_All }), (21, { args := [.val (.sl T24)], res := [((.sl (.int .u8)), .full), ((.int .i64), .view)], f := reticuleref13_All }), (15, { args := [.val (.sl (.int .u8))], res := [((.sl T24), .full), ((.int .i64), .view)], f := script_List }), (18, { args := [.val (.sl T24), .val (.sl T24)], res := [(.bool, .view)], f := reticuleref13_Same })]
noncomputable def reticulelaw13_ScriptBack_E : Env := { ty := Re.look tyTab, eq := fun n => memB n [], fn := Re.look reticulelaw13_ScriptBack_fns, cut := fun n => memB n [], win := fun n => memB n [], one := fun n => memB n [], onc := fun n => memB n [], pre := fun n => memB n [], ptr := fun n => memB n [], psl := fun n => memB n [], parr := Re.look [] }
noncomputable def reticulelaw13_ScriptBack_an : An (Ds ((([.tmp 4 (.bool, .view)] : List RV).map RV.pm).map (·.1) ++ ioTys [.val (.sl T24), .val (.sl (.int .u8))])) :=
(.seq (.rg [] none)
(.seq (.seq (.rg [] none)
(.cond (.seq (.rg [] none)
.leaf) .leaf))
(.seq (.seq (.rg [] (some (.op ⟨[], []⟩ (.op ⟨[288], []⟩ (.op ⟨[], []⟩ (.split 19 [(23, .bool)] (.op ⟨[], []⟩ (.op ⟨[], []⟩ (.op ⟨[], []⟩ (.op ⟨[], []⟩ .done)))) .done))))))
(.cond (.seq (.rg [] none)
.leaf) .leaf))
(.seq (.rg [] none)
(.seq (.rg [] none)
(.seq (.seq (.rg [] (some (.op ⟨[], []⟩ (.op ⟨[416], []⟩ (.op ⟨[], []⟩ (.op ⟨[496], []⟩ (.op ⟨[], []⟩ (.op ⟨[], []⟩ (.split 39 [(43, .bool)] (.op ⟨[], []⟩ (.op ⟨[], []⟩ (.op ⟨[], []⟩ (.op ⟨[], []⟩ .done)))) .done)))))))))
(.cond (.seq (.rg [] none)
.leaf) .leaf))
(.join [.val 1 (.sl (.int .u8))]
(.seq (.rg [] none)
(.cond (.seq (.rg [] none)
(.seq (.rg [768] (some (.op ⟨[], []⟩ (.op ⟨[], []⟩ (.op ⟨[], []⟩ (.split 53 [(58, .bool)] (.op ⟨[], []⟩ (.op ⟨[], []⟩ (.op ⟨[768, 896], [768]⟩ (.op ⟨[], []⟩ (.op ⟨[], []⟩ .done))))) .done))))))
(.cond (.seq (.rg [] none)
.leaf) .leaf))) .leaf))
(.seq (.rg [] none)
(.seq (.seq (.rg [] none)
(.cond (.seq (.rg [] none)
.leaf) .leaf))
(.seq (.rg [] none)
(.seq (.rg [] (some (.op ⟨[], []⟩ (.op ⟨[], []⟩ (.op ⟨[], []⟩ (.split 76 [(82, .bool)] (.op ⟨[], []⟩ (.op ⟨[1136], []⟩ (.op ⟨[], []⟩ (.op ⟨[], []⟩ (.op ⟨[], []⟩ (.op ⟨[], []⟩ .done)))))) (.op ⟨[], []⟩ .done)))))))
.leaf)))))))))))
theorem reticulelaw13_ScriptBack_Eok : EnvOk Try.prog reticulelaw13_ScriptBack_E := env_ok tab_ok (by simp) (allFn_mem (show AllFn Try.prog reticulelaw13_ScriptBack_fns from ⟨reticulelaw13_alive_ok, reticuleref13_Great_ok, script_All_ok, reticuleref13_All_ok, script_List_ok, reticuleref13_Same_ok, trivial⟩)) mixed (by kernel_rfl) (by kernel_rfl) (by kernel_rfl)
theorem reticulelaw13_ScriptBack_eq (x : (List (Int × (Int × (Int × (Int × (Int × (Bool × (Int × (BitVec 64 × (List (BitVec 8) × Unit)))))))))) × (List (BitVec 8))) : evF reticulelaw13_ScriptBack_E 83 (bd Try.f5) [.val (.sl T24), .val (.sl (.int .u8))] [.tmp 4 (.bool, .view)] reticulelaw13_ScriptBack_an x = reticulelaw13_ScriptBack x := by kernel_rfl
theorem reticulelaw13_ScriptBack_ok : FnOk Try.prog 5 { args := [.val (.sl T24), .val (.sl (.int .u8))], res := [(.bool, .view)], f := reticulelaw13_ScriptBack } :=
  fn_ok reticulelaw13_ScriptBack_Eok Try.func5 rfl (by kernel_rfl) (by kernel_rfl) (by kernel_rfl) (rs := [.tmp 4 (.bool, .view)]) (c := bd Try.f5) (an := reticulelaw13_ScriptBack_an) (ob_flat _ _ _ _ _ _ _ (by kernel_rfl)) reticulelaw13_ScriptBack_eq
/-! reticuleref01_Join: function 22 -/
noncomputable def reticuleref01_Join_fns : List (Nat × Fun) := []
noncomputable def reticuleref01_Join_E : Env := { ty := Re.look tyTab, eq := fun n => memB n [], fn := Re.look reticuleref01_Join_fns, cut := fun n => memB n [], win := fun n => memB n [], one := fun n => memB n [], onc := fun n => memB n [], pre := fun n => memB n [], ptr := fun n => memB n [], psl := fun n => memB n [], parr := Re.look [] }
noncomputable def reticuleref01_Join_an : An (Ds ((([.tmp 4 ((.sl (.int .u8)), .full)] : List RV).map RV.pm).map (·.1) ++ ioTys [.val (.sl (.int .u8)), .val (.sl (.int .u8))])) :=
(.seq (.rg [] none)
(.seq (.rg [] none)
.leaf))
theorem reticuleref01_Join_Eok : EnvOk Try.prog reticuleref01_Join_E := env_ok tab_ok (by simp) (allFn_mem (show AllFn Try.prog reticuleref01_Join_fns from trivial)) mixed (by kernel_rfl) (by kernel_rfl) (by kernel_rfl)
theorem reticuleref01_Join_eq (x : (List (BitVec 8)) × (List (BitVec 8))) : evF reticuleref01_Join_E 10 (bd Try.f22) [.val (.sl (.int .u8)), .val (.sl (.int .u8))] [.tmp 4 ((.sl (.int .u8)), .full)] reticuleref01_Join_an x = reticuleref01_Join x := by kernel_rfl
theorem reticuleref01_Join_ok : FnOk Try.prog 22 { args := [.val (.sl (.int .u8)), .val (.sl (.int .u8))], res := [((.sl (.int .u8)), .full)], f := reticuleref01_Join } :=
  fn_ok reticuleref01_Join_Eok Try.func22 rfl (by kernel_rfl) (by kernel_rfl) (by kernel_rfl) (rs := [.tmp 4 ((.sl (.int .u8)), .full)]) (c := bd Try.f22) (an := reticuleref01_Join_an) (ob_flat _ _ _ _ _ _ _ (by kernel_rfl)) reticuleref01_Join_eq
/-! reticulelaw13_ScriptCuts: function 6 -/
noncomputable def reticulelaw13_ScriptCuts_fns : List (Nat × Fun) := [(8, { args := [], res := [(.bool, .view)], f := reticulelaw13_alive }), (19, { args := [.val (.sl T24), .val (.int .i64)], res := [(.bool, .view)], f := reticuleref13_Great }), (20, { args := [.val (.sl T24)], res := [((.sl (.int .u8)), .full), ((.int .i64), .view)], f := script_All }), (15, { args := [.val (.sl (.int .u8))], res := [((.sl T24), .full), ((.int .i64), .view)], f := script_List }), (18, { args := [.val (.sl T24), .val (.sl T24)], res := [(.bool, .view)], f := reticuleref13_Same }), (22, { args := [.val (.sl (.int .u8)), .val (.sl (.int .u8))], res := [((.sl (.int .u8)), .full)], f := reticuleref01_Join })]
noncomputable def reticulelaw13_ScriptCuts_E : Env := { ty := Re.look tyTab, eq := fun n => memB n [], fn := Re.look reticulelaw13_ScriptCuts_fns, cut := fun n => memB n [], win := fun n => memB n [], one := fun n => memB n [], onc := fun n => memB n [], pre := fun n => memB n [], ptr := fun n => memB n [], psl := fun n => memB n [], parr := Re.look [] }
noncomputable def reticulelaw13_ScriptCuts_an : An (Ds ((([.tmp 4 (.bool, .view)] : List RV).map RV.pm).map (·.1) ++ ioTys [.val (.sl T24), .val (.int .u16)])) :=
(.seq (.rg [] none)
(.seq (.seq (.rg [] none)
(.cond (.seq (.rg [] none)
.leaf) .leaf))
(.seq (.seq (.rg [] none)
(.cond (.seq (.rg [] none)
.leaf) .leaf))
(.seq (.rg [] none)
(.seq (.seq (.rg [] (some (.op ⟨[], []⟩ (.op ⟨[], []⟩ (.op ⟨[], []⟩ (.split 23 [(27, .bool)] (.op ⟨[], []⟩ (.op ⟨[288], []⟩ (.op ⟨[], []⟩ (.op ⟨[], []⟩ .done)))) .done))))))
(.cond (.seq (.rg [] none)
.leaf) .leaf))
(.seq (.rg [] none)
(.seq (.rg [] none)
(.seq (.seq (.rg [] none)
(.cond (.seq (.rg [] (some (.op ⟨[], []⟩ (.op ⟨[], []⟩ (.op ⟨[], []⟩ (.split 44 [(48, .bool)] (.op ⟨[], []⟩ (.op ⟨[592], []⟩ (.op ⟨[], []⟩ (.op ⟨[], []⟩ .done)))) (.op ⟨[], []⟩ .done)))))))
.leaf) .leaf))
(.seq (.rg [] none)
(.seq (.rg [816] (some (.op ⟨[], []⟩ (.op ⟨[], []⟩ (.op ⟨[], []⟩ (.split 56 [(64, .bool)] (.op ⟨[], []⟩ (.op ⟨[816], []⟩ (.op ⟨[], []⟩ (.op ⟨[], []⟩ (.op ⟨[288], []⟩ (.op ⟨[], []⟩ (.op ⟨[], []⟩ (.op ⟨[], []⟩ .done)))))))) (.op ⟨[], []⟩ (.split 65 [(71, .bool)] (.op ⟨[], []⟩ (.op ⟨[592], []⟩ (.op ⟨[], []⟩ (.op ⟨[], []⟩ (.op ⟨[], []⟩ (.op ⟨[], []⟩ .done)))))) (.op ⟨[], []⟩ (.split 72 [(79, .bool)] (.op ⟨[], []⟩ (.op ⟨[], []⟩ (.op ⟨[], []⟩ (.op ⟨[592], []⟩ (.op ⟨[], []⟩ (.op ⟨[592, 1248], []⟩ (.op ⟨[], []⟩ .done))))))) (.op ⟨[], []⟩ (.split 80 [(90, .bool)] (.op ⟨[], []⟩ (.op ⟨[], []⟩ (.op ⟨[], []⟩ (.op ⟨[288], []⟩ (.op ⟨[816, 1360], [816, 1360]⟩ (.op ⟨[1360], []⟩ (.op ⟨[], []⟩ (.op ⟨[288], []⟩ (.op ⟨[], []⟩ (.op ⟨[], []⟩ .done)))))))))) (.op ⟨[], []⟩ .done)))))))))))))
.leaf))))))))))
theorem reticulelaw13_ScriptCuts_Eok : EnvOk Try.prog reticulelaw13_ScriptCuts_E := env_ok tab_ok (by simp) (allFn_mem (show AllFn Try.prog reticulelaw13_ScriptCuts_fns from ⟨reticulelaw13_alive_ok, reticuleref13_Great_ok, script_All_ok, script_List_ok, reticuleref13_Same_ok, reticuleref01_Join_ok, trivial⟩)) mixed (by kernel_rfl) (by kernel_rfl) (by kernel_rfl)
theorem reticulelaw13_ScriptCuts_eq (x : (List (Int × (Int × (Int × (Int × (Int × (Bool × (Int × (BitVec 64 × (List (BitVec 8) × Unit)))))))))) × (BitVec 16)) : evF reticulelaw13_ScriptCuts_E 91 (bd Try.f6) [.val (.sl T24), .val (.int .u16)] [.tmp 4 (.bool, .view)] reticulelaw13_ScriptCuts_an x = reticulelaw13_ScriptCuts x := by kernel_rfl
theorem reticulelaw13_ScriptCuts_ok : FnOk Try.prog 6 { args := [.val (.sl T24), .val (.int .u16)], res := [(.bool, .view)], f := reticulelaw13_ScriptCuts } :=
  fn_ok reticulelaw13_ScriptCuts_Eok Try.func6 rfl (by kernel_rfl) (by kernel_rfl) (by kernel_rfl) (rs := [.tmp 4 (.bool, .view)]) (c := bd Try.f6) (an := reticulelaw13_ScriptCuts_an) (ob_flat _ _ _ _ _ _ _ (by kernel_rfl)) reticulelaw13_ScriptCuts_eq
/-! reticulelaw13_ScriptJoins: function 7 -/
noncomputable def reticulelaw13_ScriptJoins_fns : List (Nat × Fun) := [(8, { args := [], res := [(.bool, .view)], f := reticulelaw13_alive }), (19, { args := [.val (.sl T24), .val (.int .i64)], res := [(.bool, .view)], f := reticuleref13_Great }), (20, { args := [.val (.sl T24)], res := [((.sl (.int .u8)), .full), ((.int .i64), .view)], f := script_All }), (22, { args := [.val (.sl (.int .u8)), .val (.sl (.int .u8))], res := [((.sl (.int .u8)), .full)], f := reticuleref01_Join }), (15, { args := [.val (.sl (.int .u8))], res := [((.sl T24), .full), ((.int .i64), .view)], f := script_List }), (18, { args := [.val (.sl T24), .val (.sl T24)], res := [(.bool, .view)], f := reticuleref13_Same })]
noncomputable def reticulelaw13_ScriptJoins_E : Env := { ty := Re.look tyTab, eq := fun n => memB n [], fn := Re.look reticulelaw13_ScriptJoins_fns, cut := fun n => memB n [], win := fun n => memB n [], one := fun n => memB n [], onc := fun n => memB n [], pre := fun n => memB n [], ptr := fun n => memB n [], psl := fun n => memB n [], parr := Re.look [] }
noncomputable def reticulelaw13_ScriptJoins_an : An (Ds ((([.tmp 4 (.bool, .view)] : List RV).map RV.pm).map (·.1) ++ ioTys [.val (.sl T24), .val (.sl T24)])) :=
(.seq (.rg [] none)
(.seq (.seq (.rg [] none)
(.cond (.seq (.rg [] none)
.leaf) .leaf))
(.seq (.seq (.rg [] (some (.op ⟨[], []⟩ (.op ⟨[272], []⟩ (.op ⟨[], []⟩ (.split 18 [(21, .bool)] (.op ⟨[], []⟩ (.op ⟨[320], []⟩ (.op ⟨[], []⟩ .done))) .done))))))
(.cond (.seq (.rg [] none)
.leaf) .leaf))
(.seq (.rg [] none)
(.seq (.rg [] none)
(.seq (.rg [] none)
(.seq (.rg [] none)
(.seq (.seq (.rg [] (some (.op ⟨[], []⟩ (.op ⟨[], []⟩ (.op ⟨[], []⟩ (.split 44 [(47, .bool)] (.op ⟨[], []⟩ (.op ⟨[], []⟩ (.op ⟨[], []⟩ .done))) .done))))))
(.cond (.seq (.rg [] (some (.op ⟨[], []⟩ (.op ⟨[], []⟩ (.op ⟨[], []⟩ (.split 50 [(54, .bool)] (.op ⟨[], []⟩ (.op ⟨[624], []⟩ (.op ⟨[], []⟩ (.op ⟨[], []⟩ .done)))) (.op ⟨[], []⟩ .done)))))))
.leaf) .leaf))
(.seq (.rg [] none)
(.seq (.rg [944] (some (.op ⟨[], []⟩ (.op ⟨[], []⟩ (.op ⟨[], []⟩ (.split 64 [(67, .bool)] (.op ⟨[], []⟩ (.op ⟨[], []⟩ (.op ⟨[], []⟩ .done))) (.op ⟨[], []⟩ (.split 68 [(76, .bool)] (.op ⟨[], []⟩ (.op ⟨[624], []⟩ (.op ⟨[], []⟩ (.op ⟨[], []⟩ (.op ⟨[384, 464, 1168], [1168]⟩ (.op ⟨[1168], []⟩ (.op ⟨[], []⟩ (.op ⟨[], []⟩ .done)))))))) (.op ⟨[], []⟩ (.split 77 [(81, .bool)] (.op ⟨[], []⟩ (.op ⟨[], []⟩ (.op ⟨[576, 944, 1280], [944]⟩ (.op ⟨[], []⟩ .done)))) (.op ⟨[], []⟩ .done)))))))))))
.leaf))))))))))
theorem reticulelaw13_ScriptJoins_Eok : EnvOk Try.prog reticulelaw13_ScriptJoins_E := env_ok tab_ok (by simp) (allFn_mem (show AllFn Try.prog reticulelaw13_ScriptJoins_fns from ⟨reticulelaw13_alive_ok, reticuleref13_Great_ok, script_All_ok, reticuleref01_Join_ok, script_List_ok, reticuleref13_Same_ok, trivial⟩)) mixed (by kernel_rfl) (by kernel_rfl) (by kernel_rfl)
theorem reticulelaw13_ScriptJoins_eq (x : (List (Int × (Int × (Int × (Int × (Int × (Bool × (Int × (BitVec 64 × (List (BitVec 8) × Unit)))))))))) × (List (Int × (Int × (Int × (Int × (Int × (Bool × (Int × (BitVec 64 × (List (BitVec 8) × Unit))))))))))) : evF reticulelaw13_ScriptJoins_E 82 (bd Try.f7) [.val (.sl T24), .val (.sl T24)] [.tmp 4 (.bool, .view)] reticulelaw13_ScriptJoins_an x = reticulelaw13_ScriptJoins x := by kernel_rfl
theorem reticulelaw13_ScriptJoins_ok : FnOk Try.prog 7 { args := [.val (.sl T24), .val (.sl T24)], res := [(.bool, .view)], f := reticulelaw13_ScriptJoins } :=
  fn_ok reticulelaw13_ScriptJoins_Eok Try.func7 rfl (by kernel_rfl) (by kernel_rfl) (by kernel_rfl) (rs := [.tmp 4 (.bool, .view)]) (c := bd Try.f7) (an := reticulelaw13_ScriptJoins_an) (ob_flat _ _ _ _ _ _ _ (by kernel_rfl)) reticulelaw13_ScriptJoins_eq
end Go.Proofs.Ytdaelapmgecdpaa
