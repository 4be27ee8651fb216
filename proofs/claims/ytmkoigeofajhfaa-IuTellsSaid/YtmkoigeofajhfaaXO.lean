/- Each function does what its plain one tells. Printed by the session's own program. -/
import Derived.Test.YtmkoigeofajhfaaXT
import Derived.Test.YtmkoigeofajhfaaXF
namespace Go.Proofs.Ytmkoigeofajhfaa
open Go Go.Re
set_option linter.unusedVariables false
set_option linter.unusedSimpArgs false
set_option maxRecDepth 100000
set_option maxHeartbeats 1000000
/-! number_PutLittle: function 49 -/
noncomputable def number_PutLittle_fns : List (Nat × Fun) := []
noncomputable def number_PutLittle_E : Env := { ty := Re.look tyTab, eq := fun n => memB n [], fn := Re.look number_PutLittle_fns, cut := fun n => memB n [], win := fun n => memB n [], one := fun n => memB n [], onc := fun n => memB n [], parr := Re.look [] }
noncomputable def number_PutLittle_an : An (Ds ((([.tmp 4 ((.sl (.int .u8)), .full)] : List RV).map RV.pm).map (·.1) ++ ioTys [.val (.int .u64), .val (.int .i64)])) :=
(.seq (.rg [] none)
(.seq (.seq (.rg [] (some (.op ⟨[], []⟩ (.op ⟨[], []⟩ (.op ⟨[], []⟩ (.split 7 [(10, .bool)] (.op ⟨[], []⟩ (.op ⟨[], []⟩ (.op ⟨[], []⟩ .done))) .done))))))
(.cond (.seq (.rg [] none)
.leaf) .leaf))
(.seq (.seq (.rg [] none)
(.loop [.val 0 (.int .u64), .row 4 (.int .u8) .full, .val 11 (.int .i64), .val 12 (.int .i64)] [.row 4 (.int .u8) .full] number_PutLittle_L0
(.seq (.rg [] none)
(.seq (.cond .leaf .leaf)
(.seq (.block (.seq (.rg [] none)
(.rg [] none)))
(.rg [] none))))))
(.seq (.rg [] none)
.leaf))))
theorem number_PutLittle_Eok : EnvOk Try.prog number_PutLittle_E := env_ok tab_ok (by simp) (allFn_mem (show AllFn Try.prog number_PutLittle_fns from trivial)) mixed (by kernel_rfl)
theorem number_PutLittle_eq (x : (BitVec 64) × Int) : evF number_PutLittle_E 23 (bd Try.f49) [.val (.int .u64), .val (.int .i64)] [.tmp 4 ((.sl (.int .u8)), .full)] number_PutLittle_an x = number_PutLittle x := by kernel_rfl
theorem number_PutLittle_ok : FnOk Try.prog 49 { args := [.val (.int .u64), .val (.int .i64)], res := [((.sl (.int .u8)), .full)], f := number_PutLittle } :=
  fn_ok number_PutLittle_Eok Try.func49 rfl (by kernel_rfl) (by kernel_rfl) (by kernel_rfl) (rs := [.tmp 4 ((.sl (.int .u8)), .full)]) (c := bd Try.f49) (an := number_PutLittle_an) (show obF number_PutLittle_E 23 (bd Try.f49) [.val (.int .u64), .val (.int .i64)] [.tmp 4 ((.sl (.int .u8)), .full)] number_PutLittle_an from (And.intro trivial (And.intro (And.intro trivial (And.intro (And.intro trivial trivial) trivial)) (And.intro (And.intro trivial (And.intro (fun _ => rfl) (And.intro (fun n j => by kernel_rfl) (fun n => (And.intro trivial (And.intro (And.intro trivial trivial) (And.intro (And.intro trivial trivial) trivial))))))) (And.intro trivial trivial))))) number_PutLittle_eq
/-! slices_Reverse_byte: function 50 -/
noncomputable def slices_Reverse_byte_fns : List (Nat × Fun) := []
noncomputable def slices_Reverse_byte_E : Env := { ty := Re.look tyTab, eq := fun n => memB n [], fn := Re.look slices_Reverse_byte_fns, cut := fun n => memB n [], win := fun n => memB n [], one := fun n => memB n [], onc := fun n => memB n [], parr := Re.look [] }
noncomputable def slices_Reverse_byte_an : An (Ds ((([] : List RV).map RV.pm).map (·.1) ++ ioTys [.row (.int .u8)])) :=
(.seq (.rg [] none)
(.loop [.prow 0 (.int .u8), .val 2 (.int .i64), .val 3 (.int .i64)] [.prow 0 (.int .u8)] slices_Reverse_byte_L0
(.seq (.seq (.rg [] none)
(.cond .leaf .leaf))
(.seq (.block (.rg [] (some (.op ⟨[], []⟩ (.op ⟨[], []⟩ (.op ⟨[], []⟩ (.op ⟨[], []⟩ (.op ⟨[], []⟩ (.op ⟨[], []⟩ (.op ⟨[0], []⟩ (.op ⟨[0], []⟩ (.op ⟨[], []⟩ (.op ⟨[], []⟩ (.op ⟨[0], []⟩ (.op ⟨[0], []⟩ (.op ⟨[0], []⟩ (.op ⟨[0], [0]⟩ (.op ⟨[0], []⟩ (.op ⟨[0], [0]⟩ .done)))))))))))))))))))
(.rg [] none)))))
theorem slices_Reverse_byte_Eok : EnvOk Try.prog slices_Reverse_byte_E := env_ok tab_ok (by simp) (allFn_mem (show AllFn Try.prog slices_Reverse_byte_fns from trivial)) mixed (by kernel_rfl)
theorem slices_Reverse_byte_eq (x : (List (BitVec 8))) : evF slices_Reverse_byte_E 28 (bd Try.f50) [.row (.int .u8)] [] slices_Reverse_byte_an x = slices_Reverse_byte x := by kernel_rfl
theorem slices_Reverse_byte_ok : FnOk Try.prog 50 { args := [.row (.int .u8)], res := [], f := slices_Reverse_byte } :=
  fn_ok slices_Reverse_byte_Eok Try.func50 rfl (by kernel_rfl) (by kernel_rfl) (by kernel_rfl) (rs := []) (c := bd Try.f50) (an := slices_Reverse_byte_an) (show obF slices_Reverse_byte_E 28 (bd Try.f50) [.row (.int .u8)] [] slices_Reverse_byte_an from (And.intro trivial (And.intro (fun _ => rfl) (And.intro (fun n j => by kernel_rfl) (fun n => (And.intro (And.intro trivial (And.intro trivial trivial)) (And.intro trivial trivial))))))) slices_Reverse_byte_eq
/-! number_PutBig: function 47 -/
noncomputable def number_PutBig_fns : List (Nat × Fun) := [(49, { args := [.val (.int .u64), .val (.int .i64)], res := [((.sl (.int .u8)), .full)], f := number_PutLittle }), (50, { args := [.row (.int .u8)], res := [], f := slices_Reverse_byte })]
noncomputable def number_PutBig_E : Env := { ty := Re.look tyTab, eq := fun n => memB n [], fn := Re.look number_PutBig_fns, cut := fun n => memB n [], win := fun n => memB n [], one := fun n => memB n [], onc := fun n => memB n [], parr := Re.look [] }
noncomputable def number_PutBig_an : An (Ds ((([.tmp 4 ((.sl (.int .u8)), .full)] : List RV).map RV.pm).map (·.1) ++ ioTys [.val (.int .u64), .val (.int .i64)])) :=
(.seq (.rg [] none)
(.seq (.rg [] none)
(.seq (.rg [] none)
(.seq (.rg [] none)
.leaf))))
theorem number_PutBig_Eok : EnvOk Try.prog number_PutBig_E := env_ok tab_ok (by simp) (allFn_mem (show AllFn Try.prog number_PutBig_fns from ⟨number_PutLittle_ok, slices_Reverse_byte_ok, trivial⟩)) mixed (by kernel_rfl)
theorem number_PutBig_eq (x : (BitVec 64) × Int) : evF number_PutBig_E 12 (bd Try.f47) [.val (.int .u64), .val (.int .i64)] [.tmp 4 ((.sl (.int .u8)), .full)] number_PutBig_an x = number_PutBig x := by kernel_rfl
theorem number_PutBig_ok : FnOk Try.prog 47 { args := [.val (.int .u64), .val (.int .i64)], res := [((.sl (.int .u8)), .full)], f := number_PutBig } :=
  fn_ok number_PutBig_Eok Try.func47 rfl (by kernel_rfl) (by kernel_rfl) (by kernel_rfl) (rs := [.tmp 4 ((.sl (.int .u8)), .full)]) (c := bd Try.f47) (an := number_PutBig_an) (ob_flat _ _ _ _ _ _ _ (by kernel_rfl)) number_PutBig_eq
/-! iu_put: function 39 -/
noncomputable def iu_put_fns : List (Nat × Fun) := [(47, { args := [.val (.int .u64), .val (.int .i64)], res := [((.sl (.int .u8)), .full)], f := number_PutBig })]
noncomputable def iu_put_E : Env := { ty := Re.look tyTab, eq := fun n => memB n [], fn := Re.look iu_put_fns, cut := fun n => memB n [], win := fun n => memB n [], one := fun n => memB n [], onc := fun n => memB n [], parr := Re.look [] }
noncomputable def iu_put_an : An (Ds ((([.tmp 2 ((.sl (.int .u8)), .full)] : List RV).map RV.pm).map (·.1) ++ ioTys [.val (.int .i64)])) :=
(.seq (.rg [] none)
(.seq (.rg [] none)
.leaf))
theorem iu_put_Eok : EnvOk Try.prog iu_put_E := env_ok tab_ok (by simp) (allFn_mem (show AllFn Try.prog iu_put_fns from ⟨number_PutBig_ok, trivial⟩)) mixed (by kernel_rfl)
theorem iu_put_eq (x : Int) : evF iu_put_E 7 (bd Try.f39) [.val (.int .i64)] [.tmp 2 ((.sl (.int .u8)), .full)] iu_put_an x = iu_put x := by kernel_rfl
theorem iu_put_ok : FnOk Try.prog 39 { args := [.val (.int .i64)], res := [((.sl (.int .u8)), .full)], f := iu_put } :=
  fn_ok iu_put_Eok Try.func39 rfl (by kernel_rfl) (by kernel_rfl) (by kernel_rfl) (rs := [.tmp 2 ((.sl (.int .u8)), .full)]) (c := bd Try.f39) (an := iu_put_an) (ob_flat _ _ _ _ _ _ _ (by kernel_rfl)) iu_put_eq
/-! slices_Grow_byte: function 46 -/
noncomputable def slices_Grow_byte_fns : List (Nat × Fun) := []
noncomputable def slices_Grow_byte_E : Env := { ty := Re.look tyTab, eq := fun n => memB n [], fn := Re.look slices_Grow_byte_fns, cut := fun n => memB n [25], win := fun n => memB n [], one := fun n => memB n [], onc := fun n => memB n [], parr := Re.look [] }
noncomputable def slices_Grow_byte_an : An (Ds ((([.tmp 4 ((.sl (.int .u8)), .full)] : List RV).map RV.pm).map (·.1) ++ ioTys [.nils (.int .u8), .val (.int .i64)])) :=
(.seq (.rg [] none)
(.seq (.seq (.rg [] none)
(.cond .leaf .leaf))
(.join [.row 0 (.int .u8) .full]
(.seq (.rg [] none)
(.seq (.rg [] none)
(.cond (.rg [] none) .leaf)))
(.seq (.rg [] none)
.leaf))))
theorem slices_Grow_byte_Eok : EnvOk Try.prog slices_Grow_byte_E := env_ok tab_ok (by simp) (allFn_mem (show AllFn Try.prog slices_Grow_byte_fns from trivial)) mixed (by kernel_rfl)
theorem slices_Grow_byte_eq (x : Unit × Int) : evF slices_Grow_byte_E 27 (bd Try.f46) [.nils (.int .u8), .val (.int .i64)] [.tmp 4 ((.sl (.int .u8)), .full)] slices_Grow_byte_an x = slices_Grow_byte x := by kernel_rfl
theorem slices_Grow_byte_ok : FnOk Try.prog 46 { args := [.nils (.int .u8), .val (.int .i64)], res := [((.sl (.int .u8)), .full)], f := slices_Grow_byte } :=
  fn_ok slices_Grow_byte_Eok Try.func46 rfl (by kernel_rfl) (by kernel_rfl) (by kernel_rfl) (rs := [.tmp 4 ((.sl (.int .u8)), .full)]) (c := bd Try.f46) (an := slices_Grow_byte_an) (ob_flat _ _ _ _ _ _ _ (by kernel_rfl)) slices_Grow_byte_eq
/-! slices_Concat_byte: function 35 -/
noncomputable def slices_Concat_byte_fns : List (Nat × Fun) := [(46, { args := [.nils (.int .u8), .val (.int .i64)], res := [((.sl (.int .u8)), .full)], f := slices_Grow_byte })]
noncomputable def slices_Concat_byte_E : Env := { ty := Re.look tyTab, eq := fun n => memB n [], fn := Re.look slices_Concat_byte_fns, cut := fun n => memB n [], win := fun n => memB n [], one := fun n => memB n [], onc := fun n => memB n [], parr := Re.look [] }
noncomputable def slices_Concat_byte_an : An (Ds ((([.tmp 2 ((.sl (.int .u8)), .full)] : List RV).map RV.pm).map (·.1) ++ ioTys [.val (.sl (.sl (.int .u8)))])) :=
(.seq (.rg [] none)
(.seq (.rg [] none)
(.seq (.seq (.rg [] none)
(.loop [.val 0 (.sl (.sl (.int .u8))), .val 3 (.int .i64), .val 9 (.sl (.sl (.int .u8))), .val 10 (.int .i64), .val 11 (.int .i64)] [.val 0 (.sl (.sl (.int .u8))), .val 3 (.int .i64)] slices_Concat_byte_L0
(.seq (.rg [] none)
(.seq (.cond .leaf .leaf)
(.seq (.block (.seq (.rg [] none)
(.seq (.rg [] none)
(.seq (.rg [] none)
(.cond .leaf .leaf)))))
(.rg [] none))))))
(.seq (.rg [] none)
(.seq (.seq (.rg [] none)
(.loop [.row 6 (.int .u8) .full, .val 25 (.sl (.sl (.int .u8))), .val 26 (.int .i64), .val 27 (.int .i64)] [.row 6 (.int .u8) .full] slices_Concat_byte_L1
(.seq (.rg [] none)
(.seq (.cond .leaf .leaf)
(.seq (.block (.seq (.rg [] none)
(.rg [] none)))
(.rg [] none))))))
(.seq (.rg [] none)
.leaf))))))
theorem slices_Concat_byte_Eok : EnvOk Try.prog slices_Concat_byte_E := env_ok tab_ok (by simp) (allFn_mem (show AllFn Try.prog slices_Concat_byte_fns from ⟨slices_Grow_byte_ok, trivial⟩)) mixed (by kernel_rfl)
theorem slices_Concat_byte_eq (x : (List (List (BitVec 8)))) : evF slices_Concat_byte_E 36 (bd Try.f35) [.val (.sl (.sl (.int .u8)))] [.tmp 2 ((.sl (.int .u8)), .full)] slices_Concat_byte_an x = slices_Concat_byte x := by kernel_rfl
theorem slices_Concat_byte_ok : FnOk Try.prog 35 { args := [.val (.sl (.sl (.int .u8)))], res := [((.sl (.int .u8)), .full)], f := slices_Concat_byte } :=
  fn_ok slices_Concat_byte_Eok Try.func35 rfl (by kernel_rfl) (by kernel_rfl) (by kernel_rfl) (rs := [.tmp 2 ((.sl (.int .u8)), .full)]) (c := bd Try.f35) (an := slices_Concat_byte_an) (show obF slices_Concat_byte_E 36 (bd Try.f35) [.val (.sl (.sl (.int .u8)))] [.tmp 2 ((.sl (.int .u8)), .full)] slices_Concat_byte_an from (And.intro trivial (And.intro trivial (And.intro (And.intro trivial (And.intro (fun _ => rfl) (And.intro (fun n j => by kernel_rfl) (fun n => (And.intro trivial (And.intro (And.intro trivial trivial) (And.intro (And.intro trivial (And.intro trivial (And.intro trivial (And.intro trivial trivial)))) trivial))))))) (And.intro trivial (And.intro (And.intro trivial (And.intro (fun _ => rfl) (And.intro (fun n j => by kernel_rfl) (fun n => (And.intro trivial (And.intro (And.intro trivial trivial) (And.intro (And.intro trivial trivial) trivial))))))) (And.intro trivial trivial))))))) slices_Concat_byte_eq
/-! iu_head: function 36 -/
noncomputable def iu_head_fns : List (Nat × Fun) := [(39, { args := [.val (.int .i64)], res := [((.sl (.int .u8)), .full)], f := iu_put }), (35, { args := [.val (.sl (.sl (.int .u8)))], res := [((.sl (.int .u8)), .full)], f := slices_Concat_byte })]
noncomputable def iu_head_E : Env := { ty := Re.look tyTab, eq := fun n => memB n [], fn := Re.look iu_head_fns, cut := fun n => memB n [], win := fun n => memB n [], one := fun n => memB n [], onc := fun n => memB n [], parr := Re.look [] }
noncomputable def iu_head_an : An (Ds ((([.tmp 4 ((.sl (.int .u8)), .full)] : List RV).map RV.pm).map (·.1) ++ ioTys [.val (.int .i64), .val (.int .i64)])) :=
(.seq (.rg [] none)
(.seq (.rg [] none)
.leaf))
theorem iu_head_Eok : EnvOk Try.prog iu_head_E := env_ok tab_ok (by simp) (allFn_mem (show AllFn Try.prog iu_head_fns from ⟨iu_put_ok, slices_Concat_byte_ok, trivial⟩)) mixed (by kernel_rfl)
theorem iu_head_eq (x : Int × Int) : evF iu_head_E 12 (bd Try.f36) [.val (.int .i64), .val (.int .i64)] [.tmp 4 ((.sl (.int .u8)), .full)] iu_head_an x = iu_head x := by kernel_rfl
theorem iu_head_ok : FnOk Try.prog 36 { args := [.val (.int .i64), .val (.int .i64)], res := [((.sl (.int .u8)), .full)], f := iu_head } :=
  fn_ok iu_head_Eok Try.func36 rfl (by kernel_rfl) (by kernel_rfl) (by kernel_rfl) (rs := [.tmp 4 ((.sl (.int .u8)), .full)]) (c := bd Try.f36) (an := iu_head_an) (ob_flat _ _ _ _ _ _ _ (by kernel_rfl)) iu_head_eq
/-! iu_place: function 34 -/
noncomputable def iu_place_fns : List (Nat × Fun) := []
noncomputable def iu_place_E : Env := { ty := Re.look tyTab, eq := fun n => memB n [], fn := Re.look iu_place_fns, cut := fun n => memB n [], win := fun n => memB n [], one := fun n => memB n [], onc := fun n => memB n [], parr := Re.look [] }
noncomputable def iu_place_an : An (Ds ((([.tmp 2 ((.sl (.int .u8)), .full)] : List RV).map RV.pm).map (·.1) ++ ioTys [.val (.int .i64)])) :=
(.seq (.rg [] none)
(.seq (.rg [] none)
.leaf))
theorem iu_place_Eok : EnvOk Try.prog iu_place_E := env_ok tab_ok (by simp) (allFn_mem (show AllFn Try.prog iu_place_fns from trivial)) mixed (by kernel_rfl)
theorem iu_place_eq (x : Int) : evF iu_place_E 6 (bd Try.f34) [.val (.int .i64)] [.tmp 2 ((.sl (.int .u8)), .full)] iu_place_an x = iu_place x := by kernel_rfl
theorem iu_place_ok : FnOk Try.prog 34 { args := [.val (.int .i64)], res := [((.sl (.int .u8)), .full)], f := iu_place } :=
  fn_ok iu_place_Eok Try.func34 rfl (by kernel_rfl) (by kernel_rfl) (by kernel_rfl) (rs := [.tmp 2 ((.sl (.int .u8)), .full)]) (c := bd Try.f34) (an := iu_place_an) (ob_flat _ _ _ _ _ _ _ (by kernel_rfl)) iu_place_eq
/-! iu_PutCommand: function 18 -/
noncomputable def iu_PutCommand_fns : List (Nat × Fun) := [(36, { args := [.val (.int .i64), .val (.int .i64)], res := [((.sl (.int .u8)), .full)], f := iu_head }), (34, { args := [.val (.int .i64)], res := [((.sl (.int .u8)), .full)], f := iu_place }), (35, { args := [.val (.sl (.sl (.int .u8)))], res := [((.sl (.int .u8)), .full)], f := slices_Concat_byte })]
noncomputable def iu_PutCommand_E : Env := { ty := Re.look tyTab, eq := fun n => memB n [], fn := Re.look iu_PutCommand_fns, cut := fun n => memB n [], win := fun n => memB n [], one := fun n => memB n [1], onc := fun n => memB n [], parr := Re.look [] }
noncomputable def iu_PutCommand_an : An (Ds ((([.tmp 2 ((.sl (.int .u8)), .full)] : List RV).map RV.pm).map (·.1) ++ ioTys [.val T32])) :=
(.seq (.rg [] none)
(.seq (.rg [80, 96, 144, 192] (some (.op ⟨[], []⟩ (.op ⟨[], []⟩ (.op ⟨[80], [80]⟩ (.op ⟨[96], [96]⟩ (.op ⟨[], []⟩ (.op ⟨[], []⟩ (.op ⟨[144], [144]⟩ (.op ⟨[], []⟩ (.op ⟨[], []⟩ (.op ⟨[80, 96, 144, 192], [80, 96, 144, 192]⟩ (.op ⟨[192, 208], [192, 208]⟩ (.op ⟨[], []⟩ .done))))))))))))))
.leaf))
theorem iu_PutCommand_Eok : EnvOk Try.prog iu_PutCommand_E := env_ok tab_ok (by simp) (allFn_mem (show AllFn Try.prog iu_PutCommand_fns from ⟨iu_head_ok, iu_place_ok, slices_Concat_byte_ok, trivial⟩)) mixed (by kernel_rfl)
theorem iu_PutCommand_eq (x : (Int × (Int × (List (BitVec 8) × (Int × (List (BitVec 8) × (((Int × (BitVec 64 × (Int × (Int × (Int × Unit))))) × (Int × (Int × (List (BitVec 8) × ((Int × (Int × (Int × Unit))) × Unit))))) × ((Int × (Int × (Int × Unit))) × Unit)))))))) : evF iu_PutCommand_E 14 (bd Try.f18) [.val T32] [.tmp 2 ((.sl (.int .u8)), .full)] iu_PutCommand_an x = iu_PutCommand x := by kernel_rfl
theorem iu_PutCommand_ok : FnOk Try.prog 18 { args := [.val T32], res := [((.sl (.int .u8)), .full)], f := iu_PutCommand } :=
  fn_ok iu_PutCommand_Eok Try.func18 rfl (by kernel_rfl) (by kernel_rfl) (by kernel_rfl) (rs := [.tmp 2 ((.sl (.int .u8)), .full)]) (c := bd Try.f18) (an := iu_PutCommand_an) (ob_flat _ _ _ _ _ _ _ (by kernel_rfl)) iu_PutCommand_eq
/-! iu_is: function 30 -/
noncomputable def iu_is_fns : List (Nat × Fun) := []
noncomputable def iu_is_E : Env := { ty := Re.look tyTab, eq := fun n => memB n [], fn := Re.look iu_is_fns, cut := fun n => memB n [], win := fun n => memB n [], one := fun n => memB n [], onc := fun n => memB n [], parr := Re.look [] }
noncomputable def iu_is_an : An (Ds ((([.tmp 6 (.bool, .view)] : List RV).map RV.pm).map (·.1) ++ ioTys [.val (.sl (.int .u8)), .val (.int .i64), .val (.int .i64)])) :=
(.seq (.rg [] none)
(.seq (.rg [] (some (.op ⟨[], []⟩ (.op ⟨[], []⟩ (.op ⟨[], []⟩ (.op ⟨[], []⟩ (.op ⟨[], []⟩ (.split 11 [(18, .bool)] (.op ⟨[], []⟩ (.op ⟨[], []⟩ (.op ⟨[], []⟩ (.op ⟨[], []⟩ (.op ⟨[], []⟩ (.op ⟨[], []⟩ (.op ⟨[], []⟩ .done))))))) (.op ⟨[], []⟩ .done)))))))))
.leaf))
theorem iu_is_Eok : EnvOk Try.prog iu_is_E := env_ok tab_ok (by simp) (allFn_mem (show AllFn Try.prog iu_is_fns from trivial)) mixed (by kernel_rfl)
theorem iu_is_eq (x : (List (BitVec 8)) × Int × Int) : evF iu_is_E 19 (bd Try.f30) [.val (.sl (.int .u8)), .val (.int .i64), .val (.int .i64)] [.tmp 6 (.bool, .view)] iu_is_an x = iu_is x := by kernel_rfl
theorem iu_is_ok : FnOk Try.prog 30 { args := [.val (.sl (.int .u8)), .val (.int .i64), .val (.int .i64)], res := [(.bool, .view)], f := iu_is } :=
  fn_ok iu_is_Eok Try.func30 rfl (by kernel_rfl) (by kernel_rfl) (by kernel_rfl) (rs := [.tmp 6 (.bool, .view)]) (c := bd Try.f30) (an := iu_is_an) (ob_flat _ _ _ _ _ _ _ (by kernel_rfl)) iu_is_eq
/-! number_cut: function 48 -/
noncomputable def number_cut_fns : List (Nat × Fun) := []
noncomputable def number_cut_E : Env := { ty := Re.look tyTab, eq := fun n => memB n [], fn := Re.look number_cut_fns, cut := fun n => memB n [], win := fun n => memB n [], one := fun n => memB n [], onc := fun n => memB n [], parr := Re.look [] }
noncomputable def number_cut_an : An (Ds ((([.tmp 6 ((.sl (.int .u8)), .view), .tmp 7 (.bool, .view)] : List RV).map RV.pm).map (·.1) ++ ioTys [.val (.sl (.int .u8)), .val (.int .i64), .val (.int .i64)])) :=
(.seq (.rg [] none)
(.seq (.seq (.rg [] (some (.op ⟨[], []⟩ (.op ⟨[], []⟩ (.op ⟨[], []⟩ (.split 10 [(13, .bool)] (.op ⟨[], []⟩ (.op ⟨[], []⟩ (.op ⟨[], []⟩ .done))) (.op ⟨[], []⟩ (.split 14 [(17, .bool)] (.op ⟨[], []⟩ (.op ⟨[], []⟩ (.op ⟨[], []⟩ .done))) (.op ⟨[], []⟩ (.split 18 [(25, .bool)] (.op ⟨[], []⟩ (.op ⟨[], []⟩ (.op ⟨[], []⟩ (.op ⟨[], []⟩ (.op ⟨[], []⟩ (.op ⟨[], []⟩ (.op ⟨[], []⟩ .done))))))) .done))))))))))
(.cond (.seq (.rg [] none)
.leaf) .leaf))
(.seq (.rg [] none)
.leaf)))
theorem number_cut_Eok : EnvOk Try.prog number_cut_E := env_ok tab_ok (by simp) (allFn_mem (show AllFn Try.prog number_cut_fns from trivial)) mixed (by kernel_rfl)
theorem number_cut_eq (x : (List (BitVec 8)) × Int × Int) : evF number_cut_E 32 (bd Try.f48) [.val (.sl (.int .u8)), .val (.int .i64), .val (.int .i64)] [.tmp 6 ((.sl (.int .u8)), .view), .tmp 7 (.bool, .view)] number_cut_an x = number_cut x := by kernel_rfl
theorem number_cut_ok : FnOk Try.prog 48 { args := [.val (.sl (.int .u8)), .val (.int .i64), .val (.int .i64)], res := [((.sl (.int .u8)), .view), (.bool, .view)], f := number_cut } :=
  fn_ok number_cut_Eok Try.func48 rfl (by kernel_rfl) (by kernel_rfl) (by kernel_rfl) (rs := [.tmp 6 ((.sl (.int .u8)), .view), .tmp 7 (.bool, .view)]) (c := bd Try.f48) (an := number_cut_an) (ob_flat _ _ _ _ _ _ _ (by kernel_rfl)) number_cut_eq
/-! number_Big: function 45 -/
noncomputable def number_Big_fns : List (Nat × Fun) := [(48, { args := [.val (.sl (.int .u8)), .val (.int .i64), .val (.int .i64)], res := [((.sl (.int .u8)), .view), (.bool, .view)], f := number_cut })]
noncomputable def number_Big_E : Env := { ty := Re.look tyTab, eq := fun n => memB n [], fn := Re.look number_Big_fns, cut := fun n => memB n [], win := fun n => memB n [], one := fun n => memB n [], onc := fun n => memB n [], parr := Re.look [] }
noncomputable def number_Big_an : An (Ds ((([.tmp 6 ((.int .u64), .view), .tmp 7 (.bool, .view)] : List RV).map RV.pm).map (·.1) ++ ioTys [.val (.sl (.int .u8)), .val (.int .i64), .val (.int .i64)])) :=
(.seq (.rg [] none)
(.seq (.rg [] none)
(.seq (.seq (.rg [] none)
(.loop [.val 6 (.int .u64), .val 7 .bool, .val 18 (.sl (.int .u8)), .val 19 (.int .i64), .val 20 (.int .i64)] [.val 6 (.int .u64), .val 7 .bool] number_Big_L0
(.seq (.rg [] none)
(.seq (.cond .leaf .leaf)
(.seq (.block (.seq (.rg [] none)
(.rg [] none)))
(.rg [] none))))))
(.seq (.rg [] none)
.leaf))))
theorem number_Big_Eok : EnvOk Try.prog number_Big_E := env_ok tab_ok (by simp) (allFn_mem (show AllFn Try.prog number_Big_fns from ⟨number_cut_ok, trivial⟩)) mixed (by kernel_rfl)
theorem number_Big_eq (x : (List (BitVec 8)) × Int × Int) : evF number_Big_E 32 (bd Try.f45) [.val (.sl (.int .u8)), .val (.int .i64), .val (.int .i64)] [.tmp 6 ((.int .u64), .view), .tmp 7 (.bool, .view)] number_Big_an x = number_Big x := by kernel_rfl
theorem number_Big_ok : FnOk Try.prog 45 { args := [.val (.sl (.int .u8)), .val (.int .i64), .val (.int .i64)], res := [((.int .u64), .view), (.bool, .view)], f := number_Big } :=
  fn_ok number_Big_Eok Try.func45 rfl (by kernel_rfl) (by kernel_rfl) (by kernel_rfl) (rs := [.tmp 6 ((.int .u64), .view), .tmp 7 (.bool, .view)]) (c := bd Try.f45) (an := number_Big_an) (show obF number_Big_E 32 (bd Try.f45) [.val (.sl (.int .u8)), .val (.int .i64), .val (.int .i64)] [.tmp 6 ((.int .u64), .view), .tmp 7 (.bool, .view)] number_Big_an from (And.intro trivial (And.intro trivial (And.intro (And.intro trivial (And.intro (fun _ => rfl) (And.intro (fun n j => by kernel_rfl) (fun n => (And.intro trivial (And.intro (And.intro trivial trivial) (And.intro (And.intro trivial trivial) trivial))))))) (And.intro trivial trivial))))) number_Big_eq
/-! iu_two: function 31 -/
noncomputable def iu_two_fns : List (Nat × Fun) := [(45, { args := [.val (.sl (.int .u8)), .val (.int .i64), .val (.int .i64)], res := [((.int .u64), .view), (.bool, .view)], f := number_Big })]
noncomputable def iu_two_E : Env := { ty := Re.look tyTab, eq := fun n => memB n [], fn := Re.look iu_two_fns, cut := fun n => memB n [], win := fun n => memB n [], one := fun n => memB n [], onc := fun n => memB n [], parr := Re.look [] }
noncomputable def iu_two_an : An (Ds ((([.tmp 4 ((.int .i64), .view)] : List RV).map RV.pm).map (·.1) ++ ioTys [.val (.sl (.int .u8)), .val (.int .i64)])) :=
(.seq (.rg [] none)
(.seq (.rg [] none)
(.seq (.rg [] none)
.leaf)))
theorem iu_two_Eok : EnvOk Try.prog iu_two_E := env_ok tab_ok (by simp) (allFn_mem (show AllFn Try.prog iu_two_fns from ⟨number_Big_ok, trivial⟩)) mixed (by kernel_rfl)
theorem iu_two_eq (x : (List (BitVec 8)) × Int) : evF iu_two_E 15 (bd Try.f31) [.val (.sl (.int .u8)), .val (.int .i64)] [.tmp 4 ((.int .i64), .view)] iu_two_an x = iu_two x := by kernel_rfl
theorem iu_two_ok : FnOk Try.prog 31 { args := [.val (.sl (.int .u8)), .val (.int .i64)], res := [((.int .i64), .view)], f := iu_two } :=
  fn_ok iu_two_Eok Try.func31 rfl (by kernel_rfl) (by kernel_rfl) (by kernel_rfl) (rs := [.tmp 4 ((.int .i64), .view)]) (c := bd Try.f31) (an := iu_two_an) (ob_flat _ _ _ _ _ _ _ (by kernel_rfl)) iu_two_eq
/-! iu_Tag: function 14 -/
noncomputable def iu_Tag_fns : List (Nat × Fun) := [(31, { args := [.val (.sl (.int .u8)), .val (.int .i64)], res := [((.int .i64), .view)], f := iu_two })]
noncomputable def iu_Tag_E : Env := { ty := Re.look tyTab, eq := fun n => memB n [], fn := Re.look iu_Tag_fns, cut := fun n => memB n [], win := fun n => memB n [], one := fun n => memB n [], onc := fun n => memB n [], parr := Re.look [] }
noncomputable def iu_Tag_an : An (Ds ((([.tmp 2 ((.int .i64), .view)] : List RV).map RV.pm).map (·.1) ++ ioTys [.val (.sl (.int .u8))])) :=
(.seq (.rg [] none)
(.seq (.rg [] none)
.leaf))
theorem iu_Tag_Eok : EnvOk Try.prog iu_Tag_E := env_ok tab_ok (by simp) (allFn_mem (show AllFn Try.prog iu_Tag_fns from ⟨iu_two_ok, trivial⟩)) mixed (by kernel_rfl)
theorem iu_Tag_eq (x : (List (BitVec 8))) : evF iu_Tag_E 5 (bd Try.f14) [.val (.sl (.int .u8))] [.tmp 2 ((.int .i64), .view)] iu_Tag_an x = iu_Tag x := by kernel_rfl
theorem iu_Tag_ok : FnOk Try.prog 14 { args := [.val (.sl (.int .u8))], res := [((.int .i64), .view)], f := iu_Tag } :=
  fn_ok iu_Tag_Eok Try.func14 rfl (by kernel_rfl) (by kernel_rfl) (by kernel_rfl) (rs := [.tmp 2 ((.int .i64), .view)]) (c := bd Try.f14) (an := iu_Tag_an) (ob_flat _ _ _ _ _ _ _ (by kernel_rfl)) iu_Tag_eq
/-! slices_Equal_byte: function 33 -/
noncomputable def slices_Equal_byte_fns : List (Nat × Fun) := []
noncomputable def slices_Equal_byte_E : Env := { ty := Re.look tyTab, eq := fun n => memB n [], fn := Re.look slices_Equal_byte_fns, cut := fun n => memB n [], win := fun n => memB n [], one := fun n => memB n [], onc := fun n => memB n [], parr := Re.look [] }
noncomputable def slices_Equal_byte_an : An (Ds ((([.tmp 4 (.bool, .view)] : List RV).map RV.pm).map (·.1) ++ ioTys [.val (.sl (.int .u8)), .val (.sl (.int .u8))])) :=
(.seq (.rg [] none)
(.seq (.seq (.rg [] none)
(.cond (.seq (.rg [] none)
.leaf) .leaf))
(.seq (.seq (.rg [] none)
(.loop [.val 0 (.sl (.int .u8)), .val 1 (.sl (.int .u8)), .val 12 (.int .i64), .val 13 (.int .i64)] [] slices_Equal_byte_L0
(.seq (.rg [] none)
(.seq (.cond .leaf .leaf)
(.seq (.block (.seq (.rg [] none)
(.seq (.rg [] (some (.op ⟨[], []⟩ (.op ⟨[], []⟩ (.op ⟨[], []⟩ (.op ⟨[], []⟩ (.op ⟨[], []⟩ (.op ⟨[], []⟩ (.op ⟨[], []⟩ (.op ⟨[], []⟩ (.op ⟨[], []⟩ .done)))))))))))
(.cond (.seq (.rg [] none)
.leaf) .leaf))))
(.rg [] none))))))
(.seq (.rg [] none)
.leaf))))
theorem slices_Equal_byte_Eok : EnvOk Try.prog slices_Equal_byte_E := env_ok tab_ok (by simp) (allFn_mem (show AllFn Try.prog slices_Equal_byte_fns from trivial)) mixed (by kernel_rfl)
theorem slices_Equal_byte_eq (x : (List (BitVec 8)) × (List (BitVec 8))) : evF slices_Equal_byte_E 26 (bd Try.f33) [.val (.sl (.int .u8)), .val (.sl (.int .u8))] [.tmp 4 (.bool, .view)] slices_Equal_byte_an x = slices_Equal_byte x := by kernel_rfl
theorem slices_Equal_byte_ok : FnOk Try.prog 33 { args := [.val (.sl (.int .u8)), .val (.sl (.int .u8))], res := [(.bool, .view)], f := slices_Equal_byte } :=
  fn_ok slices_Equal_byte_Eok Try.func33 rfl (by kernel_rfl) (by kernel_rfl) (by kernel_rfl) (rs := [.tmp 4 (.bool, .view)]) (c := bd Try.f33) (an := slices_Equal_byte_an) (show obF slices_Equal_byte_E 26 (bd Try.f33) [.val (.sl (.int .u8)), .val (.sl (.int .u8))] [.tmp 4 (.bool, .view)] slices_Equal_byte_an from (And.intro trivial (And.intro (And.intro trivial (And.intro (And.intro trivial trivial) trivial)) (And.intro (And.intro trivial (And.intro (fun _ => rfl) (And.intro (fun n j => by kernel_rfl) (fun n => (And.intro trivial (And.intro (And.intro trivial trivial) (And.intro (And.intro trivial (And.intro trivial (And.intro (And.intro trivial trivial) trivial))) trivial))))))) (And.intro trivial trivial))))) slices_Equal_byte_eq
/-! iu_Lun: function 16 -/
noncomputable def iu_Lun_fns : List (Nat × Fun) := [(34, { args := [.val (.int .i64)], res := [((.sl (.int .u8)), .full)], f := iu_place }), (33, { args := [.val (.sl (.int .u8)), .val (.sl (.int .u8))], res := [(.bool, .view)], f := slices_Equal_byte })]
noncomputable def iu_Lun_E : Env := { ty := Re.look tyTab, eq := fun n => memB n [], fn := Re.look iu_Lun_fns, cut := fun n => memB n [], win := fun n => memB n [], one := fun n => memB n [], onc := fun n => memB n [], parr := Re.look [] }
noncomputable def iu_Lun_an : An (Ds ((([.tmp 2 ((.int .i64), .view)] : List RV).map RV.pm).map (·.1) ++ ioTys [.val (.sl (.int .u8))])) :=
(.seq (.rg [] none)
(.seq (.seq (.rg [192] (some (.op ⟨[], []⟩ (.op ⟨[], []⟩ (.op ⟨[], []⟩ (.op ⟨[], []⟩ (.split 6 [(14, .bool)] (.op ⟨[], []⟩ (.op ⟨[], []⟩ (.op ⟨[], []⟩ (.op ⟨[], []⟩ (.op ⟨[], []⟩ (.op ⟨[192], [192]⟩ (.op ⟨[192, 208], [192]⟩ (.op ⟨[], []⟩ .done)))))))) .done)))))))
(.cond (.seq (.rg [] none)
.leaf) .leaf))
(.seq (.rg [] none)
.leaf)))
theorem iu_Lun_Eok : EnvOk Try.prog iu_Lun_E := env_ok tab_ok (by simp) (allFn_mem (show AllFn Try.prog iu_Lun_fns from ⟨iu_place_ok, slices_Equal_byte_ok, trivial⟩)) mixed (by kernel_rfl)
theorem iu_Lun_eq (x : (List (BitVec 8))) : evF iu_Lun_E 19 (bd Try.f16) [.val (.sl (.int .u8))] [.tmp 2 ((.int .i64), .view)] iu_Lun_an x = iu_Lun x := by kernel_rfl
theorem iu_Lun_ok : FnOk Try.prog 16 { args := [.val (.sl (.int .u8))], res := [((.int .i64), .view)], f := iu_Lun } :=
  fn_ok iu_Lun_Eok Try.func16 rfl (by kernel_rfl) (by kernel_rfl) (by kernel_rfl) (rs := [.tmp 2 ((.int .i64), .view)]) (c := bd Try.f16) (an := iu_Lun_an) (ob_flat _ _ _ _ _ _ _ (by kernel_rfl)) iu_Lun_eq
/-! iu_Command: function 9 -/
noncomputable def iu_Command_fns : List (Nat × Fun) := [(30, { args := [.val (.sl (.int .u8)), .val (.int .i64), .val (.int .i64)], res := [(.bool, .view)], f := iu_is }), (14, { args := [.val (.sl (.int .u8))], res := [((.int .i64), .view)], f := iu_Tag }), (16, { args := [.val (.sl (.int .u8))], res := [((.int .i64), .view)], f := iu_Lun })]
noncomputable def iu_Command_E : Env := { ty := Re.look tyTab, eq := fun n => memB n [], fn := Re.look iu_Command_fns, cut := fun n => memB n [], win := fun n => memB n [], one := fun n => memB n [], onc := fun n => memB n [], parr := Re.look [] }
noncomputable def iu_Command_an : An (Ds ((([.cell 2 T32, .tmp 3 (.bool, .view)] : List RV).map RV.pm).map (·.1) ++ ioTys [.val (.sl (.int .u8))])) :=
(.seq (.rg [] none)
(.seq (.seq (.rg [] (some (.op ⟨[], []⟩ (.op ⟨[80], []⟩ (.op ⟨[], []⟩ (.op ⟨[], []⟩ (.split 7 [(12, .bool)] (.op ⟨[], []⟩ (.op ⟨[], []⟩ (.op ⟨[], []⟩ (.op ⟨[], []⟩ (.op ⟨[], []⟩ .done))))) .done)))))))
(.cond (.seq (.rg [] none)
.leaf) .leaf))
(.seq (.rg [] (some (.op ⟨[], []⟩ (.op ⟨[240], []⟩ (.op ⟨[], []⟩ (.op ⟨[], []⟩ (.op ⟨[288], []⟩ (.op ⟨[32], []⟩ (.op ⟨[32], [32]⟩ (.op ⟨[32], []⟩ (.op ⟨[32], [32]⟩ .done)))))))))))
(.seq (.rg [] none)
(.seq (.rg [] none)
.leaf)))))
theorem iu_Command_Eok : EnvOk Try.prog iu_Command_E := env_ok tab_ok (by simp) (allFn_mem (show AllFn Try.prog iu_Command_fns from ⟨iu_is_ok, iu_Tag_ok, iu_Lun_ok, trivial⟩)) mixed (by kernel_rfl)
theorem iu_Command_eq (x : (List (BitVec 8))) : evF iu_Command_E 27 (bd Try.f9) [.val (.sl (.int .u8))] [.cell 2 T32, .tmp 3 (.bool, .view)] iu_Command_an x = iu_Command x := by kernel_rfl
theorem iu_Command_ok : FnOk Try.prog 9 { args := [.val (.sl (.int .u8))], res := [(T32, .view), (.bool, .view)], f := iu_Command } :=
  fn_ok iu_Command_Eok Try.func9 rfl (by kernel_rfl) (by kernel_rfl) (by kernel_rfl) (rs := [.cell 2 T32, .tmp 3 (.bool, .view)]) (c := bd Try.f9) (an := iu_Command_an) (ob_flat _ _ _ _ _ _ _ (by kernel_rfl)) iu_Command_eq
/-! iu_PutManage: function 20 -/
noncomputable def iu_PutManage_fns : List (Nat × Fun) := [(36, { args := [.val (.int .i64), .val (.int .i64)], res := [((.sl (.int .u8)), .full)], f := iu_head }), (39, { args := [.val (.int .i64)], res := [((.sl (.int .u8)), .full)], f := iu_put }), (34, { args := [.val (.int .i64)], res := [((.sl (.int .u8)), .full)], f := iu_place }), (35, { args := [.val (.sl (.sl (.int .u8)))], res := [((.sl (.int .u8)), .full)], f := slices_Concat_byte })]
noncomputable def iu_PutManage_E : Env := { ty := Re.look tyTab, eq := fun n => memB n [], fn := Re.look iu_PutManage_fns, cut := fun n => memB n [], win := fun n => memB n [], one := fun n => memB n [], onc := fun n => memB n [], parr := Re.look [] }
noncomputable def iu_PutManage_an : An (Ds ((([.tmp 2 ((.sl (.int .u8)), .full)] : List RV).map RV.pm).map (·.1) ++ ioTys [.val T36])) :=
(.seq (.rg [] none)
(.seq (.rg [80, 144, 192, 240, 256] (some (.op ⟨[16], []⟩ (.op ⟨[16], []⟩ (.op ⟨[80], [80]⟩ (.op ⟨[16], []⟩ (.op ⟨[16], []⟩ (.op ⟨[], []⟩ (.op ⟨[144], [144]⟩ (.op ⟨[16], []⟩ (.op ⟨[16], []⟩ (.op ⟨[192], [192]⟩ (.op ⟨[16], []⟩ (.op ⟨[16], []⟩ (.op ⟨[240], [240]⟩ (.op ⟨[80, 144, 192, 240, 256], [80, 144, 192, 240, 256]⟩ (.op ⟨[256, 272], [256, 272]⟩ (.op ⟨[], []⟩ .done))))))))))))))))))
.leaf))
theorem iu_PutManage_Eok : EnvOk Try.prog iu_PutManage_E := env_ok tab_ok (by simp) (allFn_mem (show AllFn Try.prog iu_PutManage_fns from ⟨iu_head_ok, iu_put_ok, iu_place_ok, slices_Concat_byte_ok, trivial⟩)) mixed (by kernel_rfl)
theorem iu_PutManage_eq (x : (Int × (Int × (Int × (Int × Unit))))) : evF iu_PutManage_E 18 (bd Try.f20) [.val T36] [.tmp 2 ((.sl (.int .u8)), .full)] iu_PutManage_an x = iu_PutManage x := by kernel_rfl
theorem iu_PutManage_ok : FnOk Try.prog 20 { args := [.val T36], res := [((.sl (.int .u8)), .full)], f := iu_PutManage } :=
  fn_ok iu_PutManage_Eok Try.func20 rfl (by kernel_rfl) (by kernel_rfl) (by kernel_rfl) (rs := [.tmp 2 ((.sl (.int .u8)), .full)]) (c := bd Try.f20) (an := iu_PutManage_an) (ob_flat _ _ _ _ _ _ _ (by kernel_rfl)) iu_PutManage_eq
/-! iu_Manage: function 11 -/
noncomputable def iu_Manage_fns : List (Nat × Fun) := [(30, { args := [.val (.sl (.int .u8)), .val (.int .i64), .val (.int .i64)], res := [(.bool, .view)], f := iu_is }), (14, { args := [.val (.sl (.int .u8))], res := [((.int .i64), .view)], f := iu_Tag }), (31, { args := [.val (.sl (.int .u8)), .val (.int .i64)], res := [((.int .i64), .view)], f := iu_two }), (16, { args := [.val (.sl (.int .u8))], res := [((.int .i64), .view)], f := iu_Lun })]
noncomputable def iu_Manage_E : Env := { ty := Re.look tyTab, eq := fun n => memB n [], fn := Re.look iu_Manage_fns, cut := fun n => memB n [], win := fun n => memB n [], one := fun n => memB n [], onc := fun n => memB n [], parr := Re.look [] }
noncomputable def iu_Manage_an : An (Ds ((([.cell 2 T36, .tmp 3 (.bool, .view)] : List RV).map RV.pm).map (·.1) ++ ioTys [.val (.sl (.int .u8))])) :=
(.seq (.rg [] none)
(.seq (.seq (.rg [] none)
(.cond (.seq (.rg [] none)
.leaf) .leaf))
(.seq (.rg [] (some (.op ⟨[], []⟩ (.op ⟨[144], []⟩ (.op ⟨[], []⟩ (.op ⟨[], []⟩ (.op ⟨[], []⟩ (.op ⟨[], []⟩ (.op ⟨[], []⟩ (.op ⟨[240], []⟩ (.op ⟨[], []⟩ (.op ⟨[], []⟩ (.op ⟨[288], []⟩ (.op ⟨[], []⟩ (.op ⟨[32], [32]⟩ (.op ⟨[], []⟩ .done))))))))))))))))
.leaf)))
theorem iu_Manage_Eok : EnvOk Try.prog iu_Manage_E := env_ok tab_ok (by simp) (allFn_mem (show AllFn Try.prog iu_Manage_fns from ⟨iu_is_ok, iu_Tag_ok, iu_two_ok, iu_Lun_ok, trivial⟩)) mixed (by kernel_rfl)
theorem iu_Manage_eq (x : (List (BitVec 8))) : evF iu_Manage_E 20 (bd Try.f11) [.val (.sl (.int .u8))] [.cell 2 T36, .tmp 3 (.bool, .view)] iu_Manage_an x = iu_Manage x := by kernel_rfl
theorem iu_Manage_ok : FnOk Try.prog 11 { args := [.val (.sl (.int .u8))], res := [(T36, .view), (.bool, .view)], f := iu_Manage } :=
  fn_ok iu_Manage_Eok Try.func11 rfl (by kernel_rfl) (by kernel_rfl) (by kernel_rfl) (rs := [.cell 2 T36, .tmp 3 (.bool, .view)]) (c := bd Try.f11) (an := iu_Manage_an) (ob_flat _ _ _ _ _ _ _ (by kernel_rfl)) iu_Manage_eq
/-! reticuleref04_Of: function 29 -/
noncomputable def reticuleref04_Of_fns : List (Nat × Fun) := []
noncomputable def reticuleref04_Of_E : Env := { ty := Re.look tyTab, eq := fun n => memB n [], fn := Re.look reticuleref04_Of_fns, cut := fun n => memB n [], win := fun n => memB n [], one := fun n => memB n [], onc := fun n => memB n [], parr := Re.look [] }
noncomputable def reticuleref04_Of_an : An (Ds ((([.cell 6 T28] : List RV).map RV.pm).map (·.1) ++ ioTys [.val (.int .i64), .val (.int .i64), .val (.int .i64)])) :=
(.seq (.rg [] none)
(.seq (.rg [] none)
.leaf))
theorem reticuleref04_Of_Eok : EnvOk Try.prog reticuleref04_Of_E := env_ok tab_ok (by simp) (allFn_mem (show AllFn Try.prog reticuleref04_Of_fns from trivial)) mixed (by kernel_rfl)
theorem reticuleref04_Of_eq (x : Int × Int × Int) : evF reticuleref04_Of_E 11 (bd Try.f29) [.val (.int .i64), .val (.int .i64), .val (.int .i64)] [.cell 6 T28] reticuleref04_Of_an x = reticuleref04_Of x := by kernel_rfl
theorem reticuleref04_Of_ok : FnOk Try.prog 29 { args := [.val (.int .i64), .val (.int .i64), .val (.int .i64)], res := [(T28, .view)], f := reticuleref04_Of } :=
  fn_ok reticuleref04_Of_Eok Try.func29 rfl (by kernel_rfl) (by kernel_rfl) (by kernel_rfl) (rs := [.cell 6 T28]) (c := bd Try.f29) (an := reticuleref04_Of_an) (ob_flat _ _ _ _ _ _ _ (by kernel_rfl)) reticuleref04_Of_eq
/-! sense_Good: function 41 -/
noncomputable def sense_Good_fns : List (Nat × Fun) := []
noncomputable def sense_Good_E : Env := { ty := Re.look tyTab, eq := fun n => memB n [29], fn := Re.look sense_Good_fns, cut := fun n => memB n [], win := fun n => memB n [], one := fun n => memB n [], onc := fun n => memB n [], parr := Re.look [] }
noncomputable def sense_Good_an : An (Ds ((([.tmp 2 (.bool, .view)] : List RV).map RV.pm).map (·.1) ++ ioTys [.val T28])) :=
(.seq (.rg [] none)
(.seq (.rg [] none)
.leaf))
theorem sense_Good_Eok : EnvOk Try.prog sense_Good_E := env_ok tab_ok (by intro t h; simp only [List.mem_cons, List.mem_nil_iff, or_false, List.not_mem_nil] at h; rcases h with rfl <;> exact ⟨by kernel_rfl, by kernel_rfl, by kernel_rfl⟩) (allFn_mem (show AllFn Try.prog sense_Good_fns from trivial)) mixed (by kernel_rfl)
theorem sense_Good_eq (x : (Int × (Int × (Int × Unit)))) : evF sense_Good_E 6 (bd Try.f41) [.val T28] [.tmp 2 (.bool, .view)] sense_Good_an x = sense_Good x := by kernel_rfl
theorem sense_Good_ok : FnOk Try.prog 41 { args := [.val T28], res := [(.bool, .view)], f := sense_Good } :=
  fn_ok sense_Good_Eok Try.func41 rfl (by kernel_rfl) (by kernel_rfl) (by kernel_rfl) (rs := [.tmp 2 (.bool, .view)]) (c := bd Try.f41) (an := sense_Good_an) (ob_flat _ _ _ _ _ _ _ (by kernel_rfl)) sense_Good_eq
/-! sense_Bytes: function 42 -/
noncomputable def sense_Bytes_fns : List (Nat × Fun) := [(47, { args := [.val (.int .u64), .val (.int .i64)], res := [((.sl (.int .u8)), .full)], f := number_PutBig })]
noncomputable def sense_Bytes_E : Env := { ty := Re.look tyTab, eq := fun n => memB n [], fn := Re.look sense_Bytes_fns, cut := fun n => memB n [], win := fun n => memB n [15], one := fun n => memB n [], onc := fun n => memB n [], parr := Re.look [] }
noncomputable def sense_Bytes_an : An (Ds ((([.tmp 2 ((.sl (.int .u8)), .full)] : List RV).map RV.pm).map (·.1) ++ ioTys [.val T28])) :=
(.seq (.rg [] none)
(.seq (.rg [] none)
(.seq (.rg [] (some (.op ⟨[], []⟩ (.op ⟨[], []⟩ (.op ⟨[], []⟩ (.op ⟨[16], []⟩ (.op ⟨[16], []⟩ (.op ⟨[], []⟩ (.op ⟨[64], []⟩ (.op ⟨[64], [64]⟩ (.op ⟨[64], []⟩ (.op ⟨[64], [64]⟩ (.op ⟨[64], []⟩ (.op ⟨[64], [64]⟩ .done))))))))))))))
(.seq (.rg [] (some (.op ⟨[], []⟩ (.op ⟨[64], []⟩ (.op ⟨[16], []⟩ (.op ⟨[16], []⟩ (.op ⟨[], []⟩ (.op ⟨[], []⟩ (.op ⟨[], []⟩ (.op ⟨[16], []⟩ (.op ⟨[16], []⟩ (.op ⟨[], []⟩ (.op ⟨[], []⟩ (.op ⟨[], []⟩ (.op ⟨[416], [416]⟩ (.op ⟨[64, 416], [64]⟩ .done))))))))))))))))
(.seq (.rg [] none)
.leaf)))))
theorem sense_Bytes_Eok : EnvOk Try.prog sense_Bytes_E := env_ok tab_ok (by simp) (allFn_mem (show AllFn Try.prog sense_Bytes_fns from ⟨number_PutBig_ok, trivial⟩)) mixed (by kernel_rfl)
theorem sense_Bytes_eq (x : (Int × (Int × (Int × Unit)))) : evF sense_Bytes_E 29 (bd Try.f42) [.val T28] [.tmp 2 ((.sl (.int .u8)), .full)] sense_Bytes_an x = sense_Bytes x := by kernel_rfl
theorem sense_Bytes_ok : FnOk Try.prog 42 { args := [.val T28], res := [((.sl (.int .u8)), .full)], f := sense_Bytes } :=
  fn_ok sense_Bytes_Eok Try.func42 rfl (by kernel_rfl) (by kernel_rfl) (by kernel_rfl) (rs := [.tmp 2 ((.sl (.int .u8)), .full)]) (c := bd Try.f42) (an := sense_Bytes_an) (ob_flat _ _ _ _ _ _ _ (by kernel_rfl)) sense_Bytes_eq
/-! iu_info: function 43 -/
noncomputable def iu_info_fns : List (Nat × Fun) := [(36, { args := [.val (.int .i64), .val (.int .i64)], res := [((.sl (.int .u8)), .full)], f := iu_head }), (35, { args := [.val (.sl (.sl (.int .u8)))], res := [((.sl (.int .u8)), .full)], f := slices_Concat_byte })]
noncomputable def iu_info_E : Env := { ty := Re.look tyTab, eq := fun n => memB n [], fn := Re.look iu_info_fns, cut := fun n => memB n [], win := fun n => memB n [], one := fun n => memB n [], onc := fun n => memB n [], parr := Re.look [] }
noncomputable def iu_info_an : An (Ds ((([.cell 6 T47] : List RV).map RV.pm).map (·.1) ++ ioTys [.val (.int .i64), .val (.int .i64), .val (.sl (.int .u8))])) :=
(.seq (.rg [] none)
(.seq (.rg [] none)
.leaf))
theorem iu_info_Eok : EnvOk Try.prog iu_info_E := env_ok tab_ok (by simp) (allFn_mem (show AllFn Try.prog iu_info_fns from ⟨iu_head_ok, slices_Concat_byte_ok, trivial⟩)) mixed (by kernel_rfl)
theorem iu_info_eq (x : Int × Int × (List (BitVec 8))) : evF iu_info_E 16 (bd Try.f43) [.val (.int .i64), .val (.int .i64), .val (.sl (.int .u8))] [.cell 6 T47] iu_info_an x = iu_info x := by kernel_rfl
theorem iu_info_ok : FnOk Try.prog 43 { args := [.val (.int .i64), .val (.int .i64), .val (.sl (.int .u8))], res := [(T47, .view)], f := iu_info } :=
  fn_ok iu_info_Eok Try.func43 rfl (by kernel_rfl) (by kernel_rfl) (by kernel_rfl) (rs := [.cell 6 T47]) (c := bd Try.f43) (an := iu_info_an) (ob_flat _ _ _ _ _ _ _ (by kernel_rfl)) iu_info_eq
/-! iu_Status: function 23 -/
noncomputable def iu_Status_fns : List (Nat × Fun) := [(41, { args := [.val T28], res := [(.bool, .view)], f := sense_Good }), (42, { args := [.val T28], res := [((.sl (.int .u8)), .full)], f := sense_Bytes }), (39, { args := [.val (.int .i64)], res := [((.sl (.int .u8)), .full)], f := iu_put }), (35, { args := [.val (.sl (.sl (.int .u8)))], res := [((.sl (.int .u8)), .full)], f := slices_Concat_byte }), (43, { args := [.val (.int .i64), .val (.int .i64), .val (.sl (.int .u8))], res := [(T47, .view)], f := iu_info })]
noncomputable def iu_Status_E : Env := { ty := Re.look tyTab, eq := fun n => memB n [], fn := Re.look iu_Status_fns, cut := fun n => memB n [], win := fun n => memB n [], one := fun n => memB n [], onc := fun n => memB n [], parr := Re.look [] }
noncomputable def iu_Status_an : An (Ds ((([.cell 6 T47] : List RV).map RV.pm).map (·.1) ++ ioTys [.val (.int .i64), .val (.int .i64), .val T28])) :=
(.seq (.rg [] none)
(.seq (.rg [] none)
(.join [.val 0 (.int .i64), .val 1 (.int .i64), .box 6 T47, .row 7 (.int .u8) .full]
(.seq (.rg [] none)
(.cond (.rg [] none) .leaf))
(.seq (.rg [] none)
.leaf))))
theorem iu_Status_Eok : EnvOk Try.prog iu_Status_E := env_ok tab_ok (by simp) (allFn_mem (show AllFn Try.prog iu_Status_fns from ⟨sense_Good_ok, sense_Bytes_ok, iu_put_ok, slices_Concat_byte_ok, iu_info_ok, trivial⟩)) mixed (by kernel_rfl)
theorem iu_Status_eq (x : Int × Int × (Int × (Int × (Int × Unit)))) : evF iu_Status_E 24 (bd Try.f23) [.val (.int .i64), .val (.int .i64), .val T28] [.cell 6 T47] iu_Status_an x = iu_Status x := by kernel_rfl
theorem iu_Status_ok : FnOk Try.prog 23 { args := [.val (.int .i64), .val (.int .i64), .val T28], res := [(T47, .view)], f := iu_Status } :=
  fn_ok iu_Status_Eok Try.func23 rfl (by kernel_rfl) (by kernel_rfl) (by kernel_rfl) (rs := [.cell 6 T47]) (c := bd Try.f23) (an := iu_Status_an) (ob_flat _ _ _ _ _ _ _ (by kernel_rfl)) iu_Status_eq
/-! iu_Ready: function 27 -/
noncomputable def iu_Ready_fns : List (Nat × Fun) := [(43, { args := [.val (.int .i64), .val (.int .i64), .val (.sl (.int .u8))], res := [(T47, .view)], f := iu_info })]
noncomputable def iu_Ready_E : Env := { ty := Re.look tyTab, eq := fun n => memB n [], fn := Re.look iu_Ready_fns, cut := fun n => memB n [], win := fun n => memB n [], one := fun n => memB n [], onc := fun n => memB n [], parr := Re.look [] }
noncomputable def iu_Ready_an : An (Ds ((([.cell 4 T47] : List RV).map RV.pm).map (·.1) ++ ioTys [.val (.int .i64), .val (.int .i64)])) :=
(.seq (.rg [] none)
(.seq (.seq (.rg [] none)
(.cond (.seq (.rg [] none)
.leaf) .leaf))
(.seq (.rg [] none)
.leaf)))
theorem iu_Ready_Eok : EnvOk Try.prog iu_Ready_E := env_ok tab_ok (by simp) (allFn_mem (show AllFn Try.prog iu_Ready_fns from ⟨iu_info_ok, trivial⟩)) mixed (by kernel_rfl)
theorem iu_Ready_eq (x : Int × Int) : evF iu_Ready_E 11 (bd Try.f27) [.val (.int .i64), .val (.int .i64)] [.cell 4 T47] iu_Ready_an x = iu_Ready x := by kernel_rfl
theorem iu_Ready_ok : FnOk Try.prog 27 { args := [.val (.int .i64), .val (.int .i64)], res := [(T47, .view)], f := iu_Ready } :=
  fn_ok iu_Ready_Eok Try.func27 rfl (by kernel_rfl) (by kernel_rfl) (by kernel_rfl) (rs := [.cell 4 T47]) (c := bd Try.f27) (an := iu_Ready_an) (ob_flat _ _ _ _ _ _ _ (by kernel_rfl)) iu_Ready_eq
/-! reticuleref22_Same: function 22 -/
noncomputable def reticuleref22_Same_fns : List (Nat × Fun) := []
noncomputable def reticuleref22_Same_E : Env := { ty := Re.look tyTab, eq := fun n => memB n [], fn := Re.look reticuleref22_Same_fns, cut := fun n => memB n [], win := fun n => memB n [], one := fun n => memB n [], onc := fun n => memB n [], parr := Re.look [] }
noncomputable def reticuleref22_Same_an : An (Ds ((([.tmp 4 (.bool, .view)] : List RV).map RV.pm).map (·.1) ++ ioTys [.val T47, .val T47])) :=
(.seq (.rg [] none)
(.seq (.rg [] (some (.op ⟨[32], []⟩ (.op ⟨[32], []⟩ (.op ⟨[48], []⟩ (.op ⟨[48], []⟩ (.op ⟨[], []⟩ (.op ⟨[], []⟩ (.split 10 [(16, .bool)] (.op ⟨[32], []⟩ (.op ⟨[32], []⟩ (.op ⟨[48], []⟩ (.op ⟨[48], []⟩ (.op ⟨[], []⟩ (.op ⟨[], []⟩ .done)))))) (.op ⟨[], []⟩ (.split 17 [(25, .bool)] (.op ⟨[32], []⟩ (.op ⟨[32], []⟩ (.op ⟨[], []⟩ (.op ⟨[48], []⟩ (.op ⟨[48], []⟩ (.op ⟨[], []⟩ (.op ⟨[], []⟩ (.op ⟨[], []⟩ .done)))))))) (.op ⟨[], []⟩ .done))))))))))))
.leaf))
theorem reticuleref22_Same_Eok : EnvOk Try.prog reticuleref22_Same_E := env_ok tab_ok (by simp) (allFn_mem (show AllFn Try.prog reticuleref22_Same_fns from trivial)) mixed (by kernel_rfl)
theorem reticuleref22_Same_eq (x : (Int × (Int × (List (BitVec 8) × Unit))) × (Int × (Int × (List (BitVec 8) × Unit)))) : evF reticuleref22_Same_E 26 (bd Try.f22) [.val T47, .val T47] [.tmp 4 (.bool, .view)] reticuleref22_Same_an x = reticuleref22_Same x := by kernel_rfl
theorem reticuleref22_Same_ok : FnOk Try.prog 22 { args := [.val T47, .val T47], res := [(.bool, .view)], f := reticuleref22_Same } :=
  fn_ok reticuleref22_Same_Eok Try.func22 rfl (by kernel_rfl) (by kernel_rfl) (by kernel_rfl) (rs := [.tmp 4 (.bool, .view)]) (c := bd Try.f22) (an := reticuleref22_Same_an) (ob_flat _ _ _ _ _ _ _ (by kernel_rfl)) reticuleref22_Same_eq
/-! iu_Response: function 25 -/
noncomputable def iu_Response_fns : List (Nat × Fun) := [(43, { args := [.val (.int .i64), .val (.int .i64), .val (.sl (.int .u8))], res := [(T47, .view)], f := iu_info })]
noncomputable def iu_Response_E : Env := { ty := Re.look tyTab, eq := fun n => memB n [], fn := Re.look iu_Response_fns, cut := fun n => memB n [], win := fun n => memB n [], one := fun n => memB n [], onc := fun n => memB n [], parr := Re.look [] }
noncomputable def iu_Response_an : An (Ds ((([.cell 4 T47] : List RV).map RV.pm).map (·.1) ++ ioTys [.val (.int .i64), .val (.int .i64)])) :=
(.seq (.rg [] none)
(.seq (.rg [] none)
.leaf))
theorem iu_Response_Eok : EnvOk Try.prog iu_Response_E := env_ok tab_ok (by simp) (allFn_mem (show AllFn Try.prog iu_Response_fns from ⟨iu_info_ok, trivial⟩)) mixed (by kernel_rfl)
theorem iu_Response_eq (x : Int × Int) : evF iu_Response_E 10 (bd Try.f25) [.val (.int .i64), .val (.int .i64)] [.cell 4 T47] iu_Response_an x = iu_Response x := by kernel_rfl
theorem iu_Response_ok : FnOk Try.prog 25 { args := [.val (.int .i64), .val (.int .i64)], res := [(T47, .view)], f := iu_Response } :=
  fn_ok iu_Response_Eok Try.func25 rfl (by kernel_rfl) (by kernel_rfl) (by kernel_rfl) (rs := [.cell 4 T47]) (c := bd Try.f25) (an := iu_Response_an) (ob_flat _ _ _ _ _ _ _ (by kernel_rfl)) iu_Response_eq
/-! reticulelaw22_alive: function 8 -/
noncomputable def reticulelaw22_alive_fns : List (Nat × Fun) := [(18, { args := [.val T32], res := [((.sl (.int .u8)), .full)], f := iu_PutCommand }), (9, { args := [.val (.sl (.int .u8))], res := [(T32, .view), (.bool, .view)], f := iu_Command }), (20, { args := [.val T36], res := [((.sl (.int .u8)), .full)], f := iu_PutManage }), (11, { args := [.val (.sl (.int .u8))], res := [(T36, .view), (.bool, .view)], f := iu_Manage }), (29, { args := [.val (.int .i64), .val (.int .i64), .val (.int .i64)], res := [(T28, .view)], f := reticuleref04_Of }), (23, { args := [.val (.int .i64), .val (.int .i64), .val T28], res := [(T47, .view)], f := iu_Status }), (14, { args := [.val (.sl (.int .u8))], res := [((.int .i64), .view)], f := iu_Tag }), (16, { args := [.val (.sl (.int .u8))], res := [((.int .i64), .view)], f := iu_Lun }), (27, { args := [.val (.int .i64), .val (.int .i64)], res := [(T47, .view)], f := iu_Ready }), (22, { args := [.val T47, .val T47], res := [(.bool, .view)], f := reticuleref22_Same }), (25, { args := [.val (.int .i64), .val (.int .i64)], res := [(T47, .view)], f := iu_Response })]
noncomputable def reticulelaw22_alive_E : Env := { ty := Re.look tyTab, eq := fun n => memB n [37], fn := Re.look reticulelaw22_alive_fns, cut := fun n => memB n [], win := fun n => memB n [], one := fun n => memB n [], onc := fun n => memB n [], parr := Re.look [] }
noncomputable def reticulelaw22_alive_an : An (Ds ((([.tmp 0 (.bool, .view)] : List RV).map RV.pm).map (·.1) ++ ioTys [])) :=
(.seq (.rg [] none)
(.seq (.rg [] none)
(.seq (.rg [] none)
(.seq (.rg [] none)
(.seq (.rg [] none)
(.seq (.rg [] none)
(.seq (.seq (.rg [] (some (.op ⟨[], []⟩ (.op ⟨[], []⟩ (.op ⟨[], []⟩ (.split 32 [(35, .bool)] (.op ⟨[], []⟩ (.op ⟨[], []⟩ (.op ⟨[], []⟩ .done))) (.op ⟨[], []⟩ (.split 36 [(38, .bool)] (.op ⟨[], []⟩ (.op ⟨[], []⟩ .done)) (.op ⟨[], []⟩ (.split 39 [(43, .bool)] (.op ⟨[], []⟩ (.op ⟨[176], []⟩ (.op ⟨[], []⟩ (.op ⟨[], []⟩ .done)))) (.op ⟨[], []⟩ (.split 44 [(49, .bool)] (.op ⟨[96], []⟩ (.op ⟨[96], []⟩ (.op ⟨[], []⟩ (.op ⟨[], []⟩ (.op ⟨[], []⟩ .done))))) .done))))))))))))
(.cond (.seq (.rg [] none)
.leaf) .leaf))
(.seq (.rg [1728] (some (.op ⟨[32], []⟩ (.op ⟨[32], []⟩ (.op ⟨[], []⟩ (.op ⟨[], []⟩ (.split 53 [(57, .bool)] (.op ⟨[32], []⟩ (.op ⟨[32], []⟩ (.op ⟨[], []⟩ (.op ⟨[], []⟩ .done)))) (.op ⟨[], []⟩ (.split 58 [(63, .bool)] (.op ⟨[32], []⟩ (.op ⟨[32], []⟩ (.op ⟨[32], []⟩ (.op ⟨[], []⟩ (.op ⟨[], []⟩ .done))))) (.op ⟨[], []⟩ (.split 64 [(69, .bool)] (.op ⟨[32], []⟩ (.op ⟨[32], []⟩ (.op ⟨[32], []⟩ (.op ⟨[], []⟩ (.op ⟨[], []⟩ .done))))) (.op ⟨[], []⟩ (.split 70 [(74, .bool)] (.op ⟨[64], []⟩ (.op ⟨[], []⟩ (.op ⟨[], []⟩ (.op ⟨[], []⟩ .done)))) (.op ⟨[], []⟩ (.split 75 [(81, .bool)] (.op ⟨[96], []⟩ (.op ⟨[96], []⟩ (.op ⟨[], []⟩ (.op ⟨[], []⟩ (.op ⟨[], []⟩ (.op ⟨[], []⟩ .done)))))) (.op ⟨[], []⟩ (.split 82 [(88, .bool)] (.op ⟨[96], []⟩ (.op ⟨[96], []⟩ (.op ⟨[], []⟩ (.op ⟨[], []⟩ (.op ⟨[], []⟩ (.op ⟨[], []⟩ .done)))))) (.op ⟨[], []⟩ (.split 89 [(95, .bool)] (.op ⟨[96], []⟩ (.op ⟨[96], []⟩ (.op ⟨[], []⟩ (.op ⟨[], []⟩ (.op ⟨[], []⟩ (.op ⟨[], []⟩ .done)))))) (.op ⟨[], []⟩ (.split 96 [(100, .bool)] (.op ⟨[], []⟩ (.op ⟨[176, 1568], []⟩ (.op ⟨[], []⟩ (.op ⟨[], []⟩ .done)))) (.op ⟨[], []⟩ (.split 101 [(105, .bool)] (.op ⟨[], []⟩ (.op ⟨[176, 1648], []⟩ (.op ⟨[], []⟩ (.op ⟨[], []⟩ .done)))) (.op ⟨[], []⟩ (.split 106 [(111, .bool)] (.op ⟨[1712], []⟩ (.op ⟨[1728], [1728]⟩ (.op ⟨[1728], [1728]⟩ (.op ⟨[1760], []⟩ (.op ⟨[], []⟩ .done))))) (.op ⟨[], []⟩ (.split 112 [(117, .bool)] (.op ⟨[1808], []⟩ (.op ⟨[], []⟩ (.op ⟨[], []⟩ (.op ⟨[], []⟩ (.op ⟨[], []⟩ .done))))) (.op ⟨[], []⟩ .done))))))))))))))))))))))))))))
.leaf))))))))
theorem reticulelaw22_alive_Eok : EnvOk Try.prog reticulelaw22_alive_E := env_ok tab_ok (by intro t h; simp only [List.mem_cons, List.mem_nil_iff, or_false, List.not_mem_nil] at h; rcases h with rfl <;> exact ⟨by kernel_rfl, by kernel_rfl, by kernel_rfl⟩) (allFn_mem (show AllFn Try.prog reticulelaw22_alive_fns from ⟨iu_PutCommand_ok, iu_Command_ok, iu_PutManage_ok, iu_Manage_ok, reticuleref04_Of_ok, iu_Status_ok, iu_Tag_ok, iu_Lun_ok, iu_Ready_ok, reticuleref22_Same_ok, iu_Response_ok, trivial⟩)) mixed (by kernel_rfl)
theorem reticulelaw22_alive_eq (x : Unit) : evF reticulelaw22_alive_E 118 (bd Try.f8) [] [.tmp 0 (.bool, .view)] reticulelaw22_alive_an x = reticulelaw22_alive x := by kernel_rfl
theorem reticulelaw22_alive_ok : FnOk Try.prog 8 { args := [], res := [(.bool, .view)], f := reticulelaw22_alive } :=
  fn_ok reticulelaw22_alive_Eok Try.func8 rfl (by kernel_rfl) (by kernel_rfl) (by kernel_rfl) (rs := [.tmp 0 (.bool, .view)]) (c := bd Try.f8) (an := reticulelaw22_alive_an) (ob_flat _ _ _ _ _ _ _ (by kernel_rfl)) reticulelaw22_alive_eq
/-! reticuleref22_Tag: function 15 -/
noncomputable def reticuleref22_Tag_fns : List (Nat × Fun) := []
noncomputable def reticuleref22_Tag_E : Env := { ty := Re.look tyTab, eq := fun n => memB n [], fn := Re.look reticuleref22_Tag_fns, cut := fun n => memB n [], win := fun n => memB n [], one := fun n => memB n [], onc := fun n => memB n [], parr := Re.look [] }
noncomputable def reticuleref22_Tag_an : An (Ds ((([.tmp 2 ((.int .i64), .view)] : List RV).map RV.pm).map (·.1) ++ ioTys [.val (.sl (.int .u8))])) :=
(.seq (.rg [] none)
(.seq (.seq (.rg [] none)
(.cond (.seq (.rg [] none)
.leaf) .leaf))
(.seq (.rg [] (some (.op ⟨[], []⟩ (.op ⟨[], []⟩ (.op ⟨[], []⟩ (.op ⟨[], []⟩ (.op ⟨[], []⟩ (.op ⟨[], []⟩ (.op ⟨[], []⟩ (.op ⟨[], []⟩ (.op ⟨[], []⟩ (.op ⟨[], []⟩ (.op ⟨[], []⟩ .done)))))))))))))
.leaf)))
theorem reticuleref22_Tag_Eok : EnvOk Try.prog reticuleref22_Tag_E := env_ok tab_ok (by simp) (allFn_mem (show AllFn Try.prog reticuleref22_Tag_fns from trivial)) mixed (by kernel_rfl)
theorem reticuleref22_Tag_eq (x : (List (BitVec 8))) : evF reticuleref22_Tag_E 16 (bd Try.f15) [.val (.sl (.int .u8))] [.tmp 2 ((.int .i64), .view)] reticuleref22_Tag_an x = reticuleref22_Tag x := by kernel_rfl
theorem reticuleref22_Tag_ok : FnOk Try.prog 15 { args := [.val (.sl (.int .u8))], res := [((.int .i64), .view)], f := reticuleref22_Tag } :=
  fn_ok reticuleref22_Tag_Eok Try.func15 rfl (by kernel_rfl) (by kernel_rfl) (by kernel_rfl) (rs := [.tmp 2 ((.int .i64), .view)]) (c := bd Try.f15) (an := reticuleref22_Tag_an) (ob_flat _ _ _ _ _ _ _ (by kernel_rfl)) reticuleref22_Tag_eq
/-! reticuleref22_Lun: function 17 -/
noncomputable def reticuleref22_Lun_fns : List (Nat × Fun) := []
noncomputable def reticuleref22_Lun_E : Env := { ty := Re.look tyTab, eq := fun n => memB n [], fn := Re.look reticuleref22_Lun_fns, cut := fun n => memB n [], win := fun n => memB n [], one := fun n => memB n [], onc := fun n => memB n [], parr := Re.look [] }
noncomputable def reticuleref22_Lun_an : An (Ds ((([.tmp 2 ((.int .i64), .view)] : List RV).map RV.pm).map (·.1) ++ ioTys [.val (.sl (.int .u8))])) :=
(.seq (.rg [] none)
(.seq (.seq (.rg [] none)
(.cond (.seq (.rg [] none)
.leaf) .leaf))
(.seq (.seq (.rg [] none)
(.loop [.val 0 (.sl (.int .u8)), .val 3 (.int .i64)] [.val 0 (.sl (.int .u8))] reticuleref22_Lun_L0
(.seq (.seq (.rg [] none)
(.cond .leaf .leaf))
(.seq (.block (.seq (.rg [] (some (.op ⟨[], []⟩ (.op ⟨[], []⟩ (.op ⟨[], []⟩ (.split 13 [(19, .bool)] (.op ⟨[], []⟩ (.op ⟨[], []⟩ (.op ⟨[], []⟩ (.op ⟨[], []⟩ (.op ⟨[], []⟩ (.op ⟨[], []⟩ .done)))))) .done))))))
(.cond (.seq (.rg [] none)
.leaf) .leaf)))
(.rg [] none)))))
(.seq (.rg [] none)
.leaf))))
theorem reticuleref22_Lun_Eok : EnvOk Try.prog reticuleref22_Lun_E := env_ok tab_ok (by simp) (allFn_mem (show AllFn Try.prog reticuleref22_Lun_fns from trivial)) mixed (by kernel_rfl)
theorem reticuleref22_Lun_eq (x : (List (BitVec 8))) : evF reticuleref22_Lun_E 24 (bd Try.f17) [.val (.sl (.int .u8))] [.tmp 2 ((.int .i64), .view)] reticuleref22_Lun_an x = reticuleref22_Lun x := by kernel_rfl
theorem reticuleref22_Lun_ok : FnOk Try.prog 17 { args := [.val (.sl (.int .u8))], res := [((.int .i64), .view)], f := reticuleref22_Lun } :=
  fn_ok reticuleref22_Lun_Eok Try.func17 rfl (by kernel_rfl) (by kernel_rfl) (by kernel_rfl) (rs := [.tmp 2 ((.int .i64), .view)]) (c := bd Try.f17) (an := reticuleref22_Lun_an) (show obF reticuleref22_Lun_E 24 (bd Try.f17) [.val (.sl (.int .u8))] [.tmp 2 ((.int .i64), .view)] reticuleref22_Lun_an from (And.intro trivial (And.intro (And.intro trivial (And.intro (And.intro trivial trivial) trivial)) (And.intro (And.intro trivial (And.intro (fun _ => rfl) (And.intro (fun n j => by kernel_rfl) (fun n => (And.intro (And.intro trivial (And.intro trivial trivial)) (And.intro (And.intro trivial (And.intro (And.intro trivial trivial) trivial)) trivial)))))) (And.intro trivial trivial))))) reticuleref22_Lun_eq
/-! reticuleref22_Command: function 10 -/
noncomputable def reticuleref22_Command_fns : List (Nat × Fun) := [(15, { args := [.val (.sl (.int .u8))], res := [((.int .i64), .view)], f := reticuleref22_Tag }), (17, { args := [.val (.sl (.int .u8))], res := [((.int .i64), .view)], f := reticuleref22_Lun })]
noncomputable def reticuleref22_Command_E : Env := { ty := Re.look tyTab, eq := fun n => memB n [], fn := Re.look reticuleref22_Command_fns, cut := fun n => memB n [], win := fun n => memB n [], one := fun n => memB n [], onc := fun n => memB n [], parr := Re.look [] }
noncomputable def reticuleref22_Command_an : An (Ds ((([.cell 2 T32, .tmp 3 (.bool, .view)] : List RV).map RV.pm).map (·.1) ++ ioTys [.val (.sl (.int .u8))])) :=
(.seq (.rg [] none)
(.seq (.seq (.rg [] (some (.op ⟨[], []⟩ (.op ⟨[], []⟩ (.op ⟨[], []⟩ (.op ⟨[], []⟩ (.split 9 [(14, .bool)] (.op ⟨[], []⟩ (.op ⟨[], []⟩ (.op ⟨[], []⟩ (.op ⟨[], []⟩ (.op ⟨[], []⟩ .done))))) (.op ⟨[], []⟩ (.split 15 [(20, .bool)] (.op ⟨[], []⟩ (.op ⟨[], []⟩ (.op ⟨[], []⟩ (.op ⟨[], []⟩ (.op ⟨[], []⟩ .done))))) .done)))))))))
(.cond (.seq (.rg [] none)
.leaf) .leaf))
(.seq (.rg [] (some (.op ⟨[], []⟩ (.op ⟨[368], []⟩ (.op ⟨[], []⟩ (.op ⟨[], []⟩ (.op ⟨[416], []⟩ (.op ⟨[], []⟩ (.op ⟨[64], [64]⟩ (.op ⟨[64], [64]⟩ .done))))))))))
(.seq (.seq (.rg [] none)
(.loop [.val 0 (.sl (.int .u8)), .box 2 T32, .box 4 T32, .val 5 (.int .i64)] [.box 2 T32, .box 4 T32] reticuleref22_Command_L0
(.seq (.seq (.rg [] none)
(.cond .leaf .leaf))
(.seq (.block (.rg [] none))
(.rg [] none)))))
(.seq (.rg [] none)
.leaf)))))
theorem reticuleref22_Command_Eok : EnvOk Try.prog reticuleref22_Command_E := env_ok tab_ok (by simp) (allFn_mem (show AllFn Try.prog reticuleref22_Command_fns from ⟨reticuleref22_Tag_ok, reticuleref22_Lun_ok, trivial⟩)) mixed (by kernel_rfl)
theorem reticuleref22_Command_eq (x : (List (BitVec 8))) : evF reticuleref22_Command_E 41 (bd Try.f10) [.val (.sl (.int .u8))] [.cell 2 T32, .tmp 3 (.bool, .view)] reticuleref22_Command_an x = reticuleref22_Command x := by kernel_rfl
theorem reticuleref22_Command_ok : FnOk Try.prog 10 { args := [.val (.sl (.int .u8))], res := [(T32, .view), (.bool, .view)], f := reticuleref22_Command } :=
  fn_ok reticuleref22_Command_Eok Try.func10 rfl (by kernel_rfl) (by kernel_rfl) (by kernel_rfl) (rs := [.cell 2 T32, .tmp 3 (.bool, .view)]) (c := bd Try.f10) (an := reticuleref22_Command_an) (show obF reticuleref22_Command_E 41 (bd Try.f10) [.val (.sl (.int .u8))] [.cell 2 T32, .tmp 3 (.bool, .view)] reticuleref22_Command_an from (And.intro trivial (And.intro (And.intro trivial (And.intro (And.intro trivial trivial) trivial)) (And.intro trivial (And.intro (And.intro trivial (And.intro (fun _ => rfl) (And.intro (fun n j => by kernel_rfl) (fun n => (And.intro (And.intro trivial (And.intro trivial trivial)) (And.intro trivial trivial)))))) (And.intro trivial trivial)))))) reticuleref22_Command_eq
/-! reticuleref22_Manage: function 12 -/
noncomputable def reticuleref22_Manage_fns : List (Nat × Fun) := [(15, { args := [.val (.sl (.int .u8))], res := [((.int .i64), .view)], f := reticuleref22_Tag }), (17, { args := [.val (.sl (.int .u8))], res := [((.int .i64), .view)], f := reticuleref22_Lun })]
noncomputable def reticuleref22_Manage_E : Env := { ty := Re.look tyTab, eq := fun n => memB n [], fn := Re.look reticuleref22_Manage_fns, cut := fun n => memB n [], win := fun n => memB n [], one := fun n => memB n [], onc := fun n => memB n [], parr := Re.look [] }
noncomputable def reticuleref22_Manage_an : An (Ds ((([.cell 2 T36, .tmp 3 (.bool, .view)] : List RV).map RV.pm).map (·.1) ++ ioTys [.val (.sl (.int .u8))])) :=
(.seq (.rg [] none)
(.seq (.seq (.rg [] (some (.op ⟨[], []⟩ (.op ⟨[], []⟩ (.op ⟨[], []⟩ (.op ⟨[], []⟩ (.split 7 [(12, .bool)] (.op ⟨[], []⟩ (.op ⟨[], []⟩ (.op ⟨[], []⟩ (.op ⟨[], []⟩ (.op ⟨[], []⟩ .done))))) .done)))))))
(.cond (.seq (.rg [] none)
.leaf) .leaf))
(.seq (.rg [] (some (.op ⟨[], []⟩ (.op ⟨[240], []⟩ (.op ⟨[], []⟩ (.op ⟨[], []⟩ (.op ⟨[], []⟩ (.op ⟨[], []⟩ (.op ⟨[], []⟩ (.op ⟨[], []⟩ (.op ⟨[], []⟩ (.op ⟨[], []⟩ (.op ⟨[], []⟩ (.op ⟨[], []⟩ (.op ⟨[], []⟩ (.op ⟨[], []⟩ (.op ⟨[], []⟩ (.op ⟨[], []⟩ (.op ⟨[], []⟩ (.op ⟨[], []⟩ (.op ⟨[512], []⟩ (.op ⟨[], []⟩ (.op ⟨[32], [32]⟩ (.op ⟨[], []⟩ .done))))))))))))))))))))))))
.leaf)))
theorem reticuleref22_Manage_Eok : EnvOk Try.prog reticuleref22_Manage_E := env_ok tab_ok (by simp) (allFn_mem (show AllFn Try.prog reticuleref22_Manage_fns from ⟨reticuleref22_Tag_ok, reticuleref22_Lun_ok, trivial⟩)) mixed (by kernel_rfl)
theorem reticuleref22_Manage_eq (x : (List (BitVec 8))) : evF reticuleref22_Manage_E 34 (bd Try.f12) [.val (.sl (.int .u8))] [.cell 2 T36, .tmp 3 (.bool, .view)] reticuleref22_Manage_an x = reticuleref22_Manage x := by kernel_rfl
theorem reticuleref22_Manage_ok : FnOk Try.prog 12 { args := [.val (.sl (.int .u8))], res := [(T36, .view), (.bool, .view)], f := reticuleref22_Manage } :=
  fn_ok reticuleref22_Manage_Eok Try.func12 rfl (by kernel_rfl) (by kernel_rfl) (by kernel_rfl) (rs := [.cell 2 T36, .tmp 3 (.bool, .view)]) (c := bd Try.f12) (an := reticuleref22_Manage_an) (ob_flat _ _ _ _ _ _ _ (by kernel_rfl)) reticuleref22_Manage_eq
/-! reticuleref10_Same: function 32 -/
noncomputable def reticuleref10_Same_fns : List (Nat × Fun) := []
noncomputable def reticuleref10_Same_E : Env := { ty := Re.look tyTab, eq := fun n => memB n [27, 29], fn := Re.look reticuleref10_Same_fns, cut := fun n => memB n [], win := fun n => memB n [], one := fun n => memB n [], onc := fun n => memB n [], parr := Re.look [] }
noncomputable def reticuleref10_Same_an : An (Ds ((([.tmp 4 (.bool, .view)] : List RV).map RV.pm).map (·.1) ++ ioTys [.val T30, .val T30])) :=
(.seq (.rg [] none)
(.seq (.rg [] (some (.op ⟨[32], []⟩ (.op ⟨[32], []⟩ (.op ⟨[48], []⟩ (.op ⟨[48], []⟩ (.op ⟨[], []⟩ (.op ⟨[], []⟩ (.split 10 [(16, .bool)] (.op ⟨[32], []⟩ (.op ⟨[32], []⟩ (.op ⟨[48], []⟩ (.op ⟨[48], []⟩ (.op ⟨[], []⟩ (.op ⟨[], []⟩ .done)))))) (.op ⟨[], []⟩ (.split 17 [(23, .bool)] (.op ⟨[32], []⟩ (.op ⟨[32], []⟩ (.op ⟨[48], []⟩ (.op ⟨[48], []⟩ (.op ⟨[], []⟩ (.op ⟨[], []⟩ .done)))))) (.op ⟨[], []⟩ (.split 24 [(32, .bool)] (.op ⟨[32], []⟩ (.op ⟨[32], []⟩ (.op ⟨[], []⟩ (.op ⟨[48], []⟩ (.op ⟨[48], []⟩ (.op ⟨[], []⟩ (.op ⟨[], []⟩ (.op ⟨[], []⟩ .done)))))))) (.op ⟨[], []⟩ (.split 33 [(39, .bool)] (.op ⟨[32], []⟩ (.op ⟨[32], []⟩ (.op ⟨[48], []⟩ (.op ⟨[48], []⟩ (.op ⟨[], []⟩ (.op ⟨[], []⟩ .done)))))) (.op ⟨[], []⟩ .done))))))))))))))))
.leaf))
theorem reticuleref10_Same_Eok : EnvOk Try.prog reticuleref10_Same_E := env_ok tab_ok (by intro t h; simp only [List.mem_cons, List.mem_nil_iff, or_false, List.not_mem_nil] at h; rcases h with rfl | rfl <;> exact ⟨by kernel_rfl, by kernel_rfl, by kernel_rfl⟩) (allFn_mem (show AllFn Try.prog reticuleref10_Same_fns from trivial)) mixed (by kernel_rfl)
theorem reticuleref10_Same_eq (x : ((Int × (BitVec 64 × (Int × (Int × (Int × Unit))))) × (Int × (Int × (List (BitVec 8) × ((Int × (Int × (Int × Unit))) × Unit))))) × ((Int × (BitVec 64 × (Int × (Int × (Int × Unit))))) × (Int × (Int × (List (BitVec 8) × ((Int × (Int × (Int × Unit))) × Unit)))))) : evF reticuleref10_Same_E 40 (bd Try.f32) [.val T30, .val T30] [.tmp 4 (.bool, .view)] reticuleref10_Same_an x = reticuleref10_Same x := by kernel_rfl
theorem reticuleref10_Same_ok : FnOk Try.prog 32 { args := [.val T30, .val T30], res := [(.bool, .view)], f := reticuleref10_Same } :=
  fn_ok reticuleref10_Same_Eok Try.func32 rfl (by kernel_rfl) (by kernel_rfl) (by kernel_rfl) (rs := [.tmp 4 (.bool, .view)]) (c := bd Try.f32) (an := reticuleref10_Same_an) (ob_flat _ _ _ _ _ _ _ (by kernel_rfl)) reticuleref10_Same_eq
/-! reticulelaw22_task: function 13 -/
noncomputable def reticulelaw22_task_fns : List (Nat × Fun) := [(32, { args := [.val T30, .val T30], res := [(.bool, .view)], f := reticuleref10_Same })]
noncomputable def reticulelaw22_task_E : Env := { ty := Re.look tyTab, eq := fun n => memB n [24, 29], fn := Re.look reticulelaw22_task_fns, cut := fun n => memB n [], win := fun n => memB n [], one := fun n => memB n [], onc := fun n => memB n [], parr := Re.look [] }
noncomputable def reticulelaw22_task_an : An (Ds ((([.tmp 4 (.bool, .view)] : List RV).map RV.pm).map (·.1) ++ ioTys [.val T32, .val T32])) :=
(.seq (.rg [] none)
(.seq (.rg [] (some (.op ⟨[32], []⟩ (.op ⟨[32], []⟩ (.op ⟨[48], []⟩ (.op ⟨[48], []⟩ (.op ⟨[], []⟩ (.op ⟨[], []⟩ (.split 10 [(16, .bool)] (.op ⟨[32], []⟩ (.op ⟨[32], []⟩ (.op ⟨[48], []⟩ (.op ⟨[48], []⟩ (.op ⟨[], []⟩ (.op ⟨[], []⟩ .done)))))) (.op ⟨[], []⟩ (.split 17 [(23, .bool)] (.op ⟨[32], []⟩ (.op ⟨[32], []⟩ (.op ⟨[48], []⟩ (.op ⟨[48], []⟩ (.op ⟨[], []⟩ (.op ⟨[], []⟩ .done)))))) (.op ⟨[], []⟩ (.split 24 [(30, .bool)] (.op ⟨[32], []⟩ (.op ⟨[32], []⟩ (.op ⟨[48], []⟩ (.op ⟨[48], []⟩ (.op ⟨[], []⟩ (.op ⟨[], []⟩ .done)))))) (.op ⟨[], []⟩ (.split 31 [(39, .bool)] (.op ⟨[32], []⟩ (.op ⟨[32], []⟩ (.op ⟨[], []⟩ (.op ⟨[48], []⟩ (.op ⟨[48], []⟩ (.op ⟨[], []⟩ (.op ⟨[], []⟩ (.op ⟨[], []⟩ .done)))))))) (.op ⟨[], []⟩ (.split 40 [(46, .bool)] (.op ⟨[32], []⟩ (.op ⟨[32], []⟩ (.op ⟨[48], []⟩ (.op ⟨[48], []⟩ (.op ⟨[], []⟩ (.op ⟨[], []⟩ .done)))))) (.op ⟨[], []⟩ (.split 47 [(53, .bool)] (.op ⟨[32], []⟩ (.op ⟨[32], []⟩ (.op ⟨[48], []⟩ (.op ⟨[48], []⟩ (.op ⟨[832], []⟩ (.op ⟨[], []⟩ .done)))))) (.op ⟨[], []⟩ .done))))))))))))))))))))
.leaf))
theorem reticulelaw22_task_Eok : EnvOk Try.prog reticulelaw22_task_E := env_ok tab_ok (by intro t h; simp only [List.mem_cons, List.mem_nil_iff, or_false, List.not_mem_nil] at h; rcases h with rfl | rfl <;> exact ⟨by kernel_rfl, by kernel_rfl, by kernel_rfl⟩) (allFn_mem (show AllFn Try.prog reticulelaw22_task_fns from ⟨reticuleref10_Same_ok, trivial⟩)) mixed (by kernel_rfl)
theorem reticulelaw22_task_eq (x : (Int × (Int × (List (BitVec 8) × (Int × (List (BitVec 8) × (((Int × (BitVec 64 × (Int × (Int × (Int × Unit))))) × (Int × (Int × (List (BitVec 8) × ((Int × (Int × (Int × Unit))) × Unit))))) × ((Int × (Int × (Int × Unit))) × Unit))))))) × (Int × (Int × (List (BitVec 8) × (Int × (List (BitVec 8) × (((Int × (BitVec 64 × (Int × (Int × (Int × Unit))))) × (Int × (Int × (List (BitVec 8) × ((Int × (Int × (Int × Unit))) × Unit))))) × ((Int × (Int × (Int × Unit))) × Unit)))))))) : evF reticulelaw22_task_E 54 (bd Try.f13) [.val T32, .val T32] [.tmp 4 (.bool, .view)] reticulelaw22_task_an x = reticulelaw22_task x := by kernel_rfl
theorem reticulelaw22_task_ok : FnOk Try.prog 13 { args := [.val T32, .val T32], res := [(.bool, .view)], f := reticulelaw22_task } :=
  fn_ok reticulelaw22_task_Eok Try.func13 rfl (by kernel_rfl) (by kernel_rfl) (by kernel_rfl) (rs := [.tmp 4 (.bool, .view)]) (c := bd Try.f13) (an := reticulelaw22_task_an) (ob_flat _ _ _ _ _ _ _ (by kernel_rfl)) reticulelaw22_task_eq
/-! reticulelaw22_IuReads: function 3 -/
noncomputable def reticulelaw22_IuReads_fns : List (Nat × Fun) := [(8, { args := [], res := [(.bool, .view)], f := reticulelaw22_alive }), (9, { args := [.val (.sl (.int .u8))], res := [(T32, .view), (.bool, .view)], f := iu_Command }), (10, { args := [.val (.sl (.int .u8))], res := [(T32, .view), (.bool, .view)], f := reticuleref22_Command }), (11, { args := [.val (.sl (.int .u8))], res := [(T36, .view), (.bool, .view)], f := iu_Manage }), (12, { args := [.val (.sl (.int .u8))], res := [(T36, .view), (.bool, .view)], f := reticuleref22_Manage }), (13, { args := [.val T32, .val T32], res := [(.bool, .view)], f := reticulelaw22_task }), (14, { args := [.val (.sl (.int .u8))], res := [((.int .i64), .view)], f := iu_Tag }), (15, { args := [.val (.sl (.int .u8))], res := [((.int .i64), .view)], f := reticuleref22_Tag }), (16, { args := [.val (.sl (.int .u8))], res := [((.int .i64), .view)], f := iu_Lun }), (17, { args := [.val (.sl (.int .u8))], res := [((.int .i64), .view)], f := reticuleref22_Lun })]
noncomputable def reticulelaw22_IuReads_E : Env := { ty := Re.look tyTab, eq := fun n => memB n [37], fn := Re.look reticulelaw22_IuReads_fns, cut := fun n => memB n [], win := fun n => memB n [], one := fun n => memB n [], onc := fun n => memB n [], parr := Re.look [] }
noncomputable def reticulelaw22_IuReads_an : An (Ds ((([.tmp 2 (.bool, .view)] : List RV).map RV.pm).map (·.1) ++ ioTys [.val (.sl (.int .u8))])) :=
(.seq (.rg [] none)
(.seq (.seq (.rg [] none)
(.cond (.seq (.rg [] none)
.leaf) .leaf))
(.seq (.seq (.rg [] none)
(.cond (.seq (.rg [] none)
.leaf) .leaf))
(.seq (.rg [] none)
(.seq (.rg [] none)
(.seq (.rg [] none)
(.seq (.rg [] none)
(.seq (.rg [] (some (.op ⟨[48], []⟩ (.op ⟨[80], []⟩ (.op ⟨[608], []⟩ (.op ⟨[], []⟩ (.split 39 [(43, .bool)] (.op ⟨[], []⟩ (.op ⟨[], []⟩ (.op ⟨[], []⟩ (.op ⟨[], []⟩ .done)))) (.op ⟨[], []⟩ (.split 44 [(48, .bool)] (.op ⟨[112], []⟩ (.op ⟨[144], []⟩ (.op ⟨[], []⟩ (.op ⟨[], []⟩ .done)))) (.op ⟨[], []⟩ (.split 49 [(53, .bool)] (.op ⟨[], []⟩ (.op ⟨[], []⟩ (.op ⟨[], []⟩ (.op ⟨[], []⟩ .done)))) (.op ⟨[], []⟩ (.split 54 [(60, .bool)] (.op ⟨[], []⟩ (.op ⟨[896], []⟩ (.op ⟨[], []⟩ (.op ⟨[928], []⟩ (.op ⟨[], []⟩ (.op ⟨[], []⟩ .done)))))) (.op ⟨[], []⟩ (.split 61 [(67, .bool)] (.op ⟨[], []⟩ (.op ⟨[1008], []⟩ (.op ⟨[], []⟩ (.op ⟨[1040], []⟩ (.op ⟨[], []⟩ (.op ⟨[], []⟩ .done)))))) (.op ⟨[], []⟩ .done))))))))))))))))
.leaf))))))))
theorem reticulelaw22_IuReads_Eok : EnvOk Try.prog reticulelaw22_IuReads_E := env_ok tab_ok (by intro t h; simp only [List.mem_cons, List.mem_nil_iff, or_false, List.not_mem_nil] at h; rcases h with rfl <;> exact ⟨by kernel_rfl, by kernel_rfl, by kernel_rfl⟩) (allFn_mem (show AllFn Try.prog reticulelaw22_IuReads_fns from ⟨reticulelaw22_alive_ok, iu_Command_ok, reticuleref22_Command_ok, iu_Manage_ok, reticuleref22_Manage_ok, reticulelaw22_task_ok, iu_Tag_ok, reticuleref22_Tag_ok, iu_Lun_ok, reticuleref22_Lun_ok, trivial⟩)) mixed (by kernel_rfl)
theorem reticulelaw22_IuReads_eq (x : (List (BitVec 8))) : evF reticulelaw22_IuReads_E 68 (bd Try.f3) [.val (.sl (.int .u8))] [.tmp 2 (.bool, .view)] reticulelaw22_IuReads_an x = reticulelaw22_IuReads x := by kernel_rfl
theorem reticulelaw22_IuReads_ok : FnOk Try.prog 3 { args := [.val (.sl (.int .u8))], res := [(.bool, .view)], f := reticulelaw22_IuReads } :=
  fn_ok reticulelaw22_IuReads_Eok Try.func3 rfl (by kernel_rfl) (by kernel_rfl) (by kernel_rfl) (rs := [.tmp 2 (.bool, .view)]) (c := bd Try.f3) (an := reticulelaw22_IuReads_an) (ob_flat _ _ _ _ _ _ _ (by kernel_rfl)) reticulelaw22_IuReads_eq
/-! reticuleref22_two: function 40 -/
noncomputable def reticuleref22_two_fns : List (Nat × Fun) := []
noncomputable def reticuleref22_two_E : Env := { ty := Re.look tyTab, eq := fun n => memB n [], fn := Re.look reticuleref22_two_fns, cut := fun n => memB n [], win := fun n => memB n [], one := fun n => memB n [], onc := fun n => memB n [], parr := Re.look [] }
noncomputable def reticuleref22_two_an : An (Ds ((([.tmp 2 ((.sl (.int .u8)), .full)] : List RV).map RV.pm).map (·.1) ++ ioTys [.val (.int .i64)])) :=
(.seq (.rg [] none)
(.seq (.rg [] none)
.leaf))
theorem reticuleref22_two_Eok : EnvOk Try.prog reticuleref22_two_E := env_ok tab_ok (by simp) (allFn_mem (show AllFn Try.prog reticuleref22_two_fns from trivial)) mixed (by kernel_rfl)
theorem reticuleref22_two_eq (x : Int) : evF reticuleref22_two_E 11 (bd Try.f40) [.val (.int .i64)] [.tmp 2 ((.sl (.int .u8)), .full)] reticuleref22_two_an x = reticuleref22_two x := by kernel_rfl
theorem reticuleref22_two_ok : FnOk Try.prog 40 { args := [.val (.int .i64)], res := [((.sl (.int .u8)), .full)], f := reticuleref22_two } :=
  fn_ok reticuleref22_two_Eok Try.func40 rfl (by kernel_rfl) (by kernel_rfl) (by kernel_rfl) (rs := [.tmp 2 ((.sl (.int .u8)), .full)]) (c := bd Try.f40) (an := reticuleref22_two_an) (ob_flat _ _ _ _ _ _ _ (by kernel_rfl)) reticuleref22_two_eq
/-! reticuleref22_head: function 37 -/
noncomputable def reticuleref22_head_fns : List (Nat × Fun) := [(40, { args := [.val (.int .i64)], res := [((.sl (.int .u8)), .full)], f := reticuleref22_two })]
noncomputable def reticuleref22_head_E : Env := { ty := Re.look tyTab, eq := fun n => memB n [], fn := Re.look reticuleref22_head_fns, cut := fun n => memB n [], win := fun n => memB n [], one := fun n => memB n [], onc := fun n => memB n [], parr := Re.look [] }
noncomputable def reticuleref22_head_an : An (Ds ((([.tmp 4 ((.sl (.int .u8)), .full)] : List RV).map RV.pm).map (·.1) ++ ioTys [.val (.int .u8), .val (.int .i64)])) :=
(.seq (.rg [] none)
(.seq (.rg [] none)
.leaf))
theorem reticuleref22_head_Eok : EnvOk Try.prog reticuleref22_head_E := env_ok tab_ok (by simp) (allFn_mem (show AllFn Try.prog reticuleref22_head_fns from ⟨reticuleref22_two_ok, trivial⟩)) mixed (by kernel_rfl)
theorem reticuleref22_head_eq (x : (BitVec 8) × Int) : evF reticuleref22_head_E 10 (bd Try.f37) [.val (.int .u8), .val (.int .i64)] [.tmp 4 ((.sl (.int .u8)), .full)] reticuleref22_head_an x = reticuleref22_head x := by kernel_rfl
theorem reticuleref22_head_ok : FnOk Try.prog 37 { args := [.val (.int .u8), .val (.int .i64)], res := [((.sl (.int .u8)), .full)], f := reticuleref22_head } :=
  fn_ok reticuleref22_head_Eok Try.func37 rfl (by kernel_rfl) (by kernel_rfl) (by kernel_rfl) (rs := [.tmp 4 ((.sl (.int .u8)), .full)]) (c := bd Try.f37) (an := reticuleref22_head_an) (ob_flat _ _ _ _ _ _ _ (by kernel_rfl)) reticuleref22_head_eq
/-! reticuleref22_lun: function 38 -/
noncomputable def reticuleref22_lun_fns : List (Nat × Fun) := []
noncomputable def reticuleref22_lun_E : Env := { ty := Re.look tyTab, eq := fun n => memB n [], fn := Re.look reticuleref22_lun_fns, cut := fun n => memB n [], win := fun n => memB n [], one := fun n => memB n [], onc := fun n => memB n [], parr := Re.look [] }
noncomputable def reticuleref22_lun_an : An (Ds ((([.tmp 2 ((.sl (.int .u8)), .full)] : List RV).map RV.pm).map (·.1) ++ ioTys [.val (.int .i64)])) :=
(.seq (.rg [] none)
(.seq (.rg [] none)
.leaf))
theorem reticuleref22_lun_Eok : EnvOk Try.prog reticuleref22_lun_E := env_ok tab_ok (by simp) (allFn_mem (show AllFn Try.prog reticuleref22_lun_fns from trivial)) mixed (by kernel_rfl)
theorem reticuleref22_lun_eq (x : Int) : evF reticuleref22_lun_E 7 (bd Try.f38) [.val (.int .i64)] [.tmp 2 ((.sl (.int .u8)), .full)] reticuleref22_lun_an x = reticuleref22_lun x := by kernel_rfl
theorem reticuleref22_lun_ok : FnOk Try.prog 38 { args := [.val (.int .i64)], res := [((.sl (.int .u8)), .full)], f := reticuleref22_lun } :=
  fn_ok reticuleref22_lun_Eok Try.func38 rfl (by kernel_rfl) (by kernel_rfl) (by kernel_rfl) (rs := [.tmp 2 ((.sl (.int .u8)), .full)]) (c := bd Try.f38) (an := reticuleref22_lun_an) (ob_flat _ _ _ _ _ _ _ (by kernel_rfl)) reticuleref22_lun_eq
/-! reticuleref22_PutCommand: function 19 -/
noncomputable def reticuleref22_PutCommand_fns : List (Nat × Fun) := [(37, { args := [.val (.int .u8), .val (.int .i64)], res := [((.sl (.int .u8)), .full)], f := reticuleref22_head }), (38, { args := [.val (.int .i64)], res := [((.sl (.int .u8)), .full)], f := reticuleref22_lun })]
noncomputable def reticuleref22_PutCommand_E : Env := { ty := Re.look tyTab, eq := fun n => memB n [], fn := Re.look reticuleref22_PutCommand_fns, cut := fun n => memB n [], win := fun n => memB n [], one := fun n => memB n [], onc := fun n => memB n [], parr := Re.look [] }
noncomputable def reticuleref22_PutCommand_an : An (Ds ((([.tmp 2 ((.sl (.int .u8)), .full)] : List RV).map RV.pm).map (·.1) ++ ioTys [.val T32])) :=
(.seq (.rg [] none)
(.seq (.rg [] none)
(.seq (.rg [] none)
(.seq (.seq (.rg [] none)
(.loop [.box 1 T32, .row 3 (.int .u8) .full, .val 4 (.int .i64)] [.row 3 (.int .u8) .full] reticuleref22_PutCommand_L0
(.seq (.seq (.rg [] none)
(.cond .leaf .leaf))
(.seq (.block (.rg [] none))
(.rg [] none)))))
(.seq (.rg [] none)
.leaf)))))
theorem reticuleref22_PutCommand_Eok : EnvOk Try.prog reticuleref22_PutCommand_E := env_ok tab_ok (by simp) (allFn_mem (show AllFn Try.prog reticuleref22_PutCommand_fns from ⟨reticuleref22_head_ok, reticuleref22_lun_ok, trivial⟩)) mixed (by kernel_rfl)
theorem reticuleref22_PutCommand_eq (x : (Int × (Int × (List (BitVec 8) × (Int × (List (BitVec 8) × (((Int × (BitVec 64 × (Int × (Int × (Int × Unit))))) × (Int × (Int × (List (BitVec 8) × ((Int × (Int × (Int × Unit))) × Unit))))) × ((Int × (Int × (Int × Unit))) × Unit)))))))) : evF reticuleref22_PutCommand_E 27 (bd Try.f19) [.val T32] [.tmp 2 ((.sl (.int .u8)), .full)] reticuleref22_PutCommand_an x = reticuleref22_PutCommand x := by kernel_rfl
theorem reticuleref22_PutCommand_ok : FnOk Try.prog 19 { args := [.val T32], res := [((.sl (.int .u8)), .full)], f := reticuleref22_PutCommand } :=
  fn_ok reticuleref22_PutCommand_Eok Try.func19 rfl (by kernel_rfl) (by kernel_rfl) (by kernel_rfl) (rs := [.tmp 2 ((.sl (.int .u8)), .full)]) (c := bd Try.f19) (an := reticuleref22_PutCommand_an) (show obF reticuleref22_PutCommand_E 27 (bd Try.f19) [.val T32] [.tmp 2 ((.sl (.int .u8)), .full)] reticuleref22_PutCommand_an from (And.intro trivial (And.intro trivial (And.intro trivial (And.intro (And.intro trivial (And.intro (fun _ => rfl) (And.intro (fun n j => by kernel_rfl) (fun n => (And.intro (And.intro trivial (And.intro trivial trivial)) (And.intro trivial trivial)))))) (And.intro trivial trivial)))))) reticuleref22_PutCommand_eq
/-! reticuleref22_PutManage: function 21 -/
noncomputable def reticuleref22_PutManage_fns : List (Nat × Fun) := [(37, { args := [.val (.int .u8), .val (.int .i64)], res := [((.sl (.int .u8)), .full)], f := reticuleref22_head }), (40, { args := [.val (.int .i64)], res := [((.sl (.int .u8)), .full)], f := reticuleref22_two }), (38, { args := [.val (.int .i64)], res := [((.sl (.int .u8)), .full)], f := reticuleref22_lun })]
noncomputable def reticuleref22_PutManage_E : Env := { ty := Re.look tyTab, eq := fun n => memB n [], fn := Re.look reticuleref22_PutManage_fns, cut := fun n => memB n [], win := fun n => memB n [], one := fun n => memB n [], onc := fun n => memB n [], parr := Re.look [] }
noncomputable def reticuleref22_PutManage_an : An (Ds ((([.tmp 2 ((.sl (.int .u8)), .full)] : List RV).map RV.pm).map (·.1) ++ ioTys [.val T36])) :=
(.seq (.rg [] none)
(.seq (.rg [] (some (.op ⟨[16], []⟩ (.op ⟨[16], []⟩ (.op ⟨[96], [96]⟩ (.op ⟨[16], []⟩ (.op ⟨[16], []⟩ (.op ⟨[], []⟩ (.op ⟨[], []⟩ (.op ⟨[176], [176]⟩ (.op ⟨[96, 176, 192], [96, 192]⟩ (.op ⟨[], []⟩ .done))))))))))))
(.seq (.rg [] none)
(.seq (.rg [] none)
.leaf))))
theorem reticuleref22_PutManage_Eok : EnvOk Try.prog reticuleref22_PutManage_E := env_ok tab_ok (by simp) (allFn_mem (show AllFn Try.prog reticuleref22_PutManage_fns from ⟨reticuleref22_head_ok, reticuleref22_two_ok, reticuleref22_lun_ok, trivial⟩)) mixed (by kernel_rfl)
theorem reticuleref22_PutManage_eq (x : (Int × (Int × (Int × (Int × Unit))))) : evF reticuleref22_PutManage_E 23 (bd Try.f21) [.val T36] [.tmp 2 ((.sl (.int .u8)), .full)] reticuleref22_PutManage_an x = reticuleref22_PutManage x := by kernel_rfl
theorem reticuleref22_PutManage_ok : FnOk Try.prog 21 { args := [.val T36], res := [((.sl (.int .u8)), .full)], f := reticuleref22_PutManage } :=
  fn_ok reticuleref22_PutManage_Eok Try.func21 rfl (by kernel_rfl) (by kernel_rfl) (by kernel_rfl) (rs := [.tmp 2 ((.sl (.int .u8)), .full)]) (c := bd Try.f21) (an := reticuleref22_PutManage_an) (ob_flat _ _ _ _ _ _ _ (by kernel_rfl)) reticuleref22_PutManage_eq
/-! reticulelaw22_IuPuts: function 4 -/
noncomputable def reticulelaw22_IuPuts_fns : List (Nat × Fun) := [(8, { args := [], res := [(.bool, .view)], f := reticulelaw22_alive }), (18, { args := [.val T32], res := [((.sl (.int .u8)), .full)], f := iu_PutCommand }), (19, { args := [.val T32], res := [((.sl (.int .u8)), .full)], f := reticuleref22_PutCommand }), (20, { args := [.val T36], res := [((.sl (.int .u8)), .full)], f := iu_PutManage }), (21, { args := [.val T36], res := [((.sl (.int .u8)), .full)], f := reticuleref22_PutManage })]
noncomputable def reticulelaw22_IuPuts_E : Env := { ty := Re.look tyTab, eq := fun n => memB n [], fn := Re.look reticulelaw22_IuPuts_fns, cut := fun n => memB n [], win := fun n => memB n [], one := fun n => memB n [], onc := fun n => memB n [], parr := Re.look [] }
noncomputable def reticulelaw22_IuPuts_an : An (Ds ((([.tmp 4 (.bool, .view)] : List RV).map RV.pm).map (·.1) ++ ioTys [.val T32, .val T36])) :=
(.seq (.rg [] none)
(.seq (.seq (.rg [] none)
(.cond (.seq (.rg [] none)
.leaf) .leaf))
(.seq (.rg [] (some (.op ⟨[32], []⟩ (.op ⟨[128], [128]⟩ (.op ⟨[128], []⟩ (.op ⟨[32], []⟩ (.op ⟨[176], [176]⟩ (.op ⟨[176], []⟩ (.op ⟨[], []⟩ (.op ⟨[], []⟩ (.split 14 [(22, .bool)] (.op ⟨[48], []⟩ (.op ⟨[256], [256]⟩ (.op ⟨[256], []⟩ (.op ⟨[48], []⟩ (.op ⟨[304], [304]⟩ (.op ⟨[304], []⟩ (.op ⟨[], []⟩ (.op ⟨[], []⟩ .done)))))))) (.op ⟨[], []⟩ .done))))))))))))
.leaf)))
theorem reticulelaw22_IuPuts_Eok : EnvOk Try.prog reticulelaw22_IuPuts_E := env_ok tab_ok (by simp) (allFn_mem (show AllFn Try.prog reticulelaw22_IuPuts_fns from ⟨reticulelaw22_alive_ok, iu_PutCommand_ok, reticuleref22_PutCommand_ok, iu_PutManage_ok, reticuleref22_PutManage_ok, trivial⟩)) mixed (by kernel_rfl)
theorem reticulelaw22_IuPuts_eq (x : (Int × (Int × (List (BitVec 8) × (Int × (List (BitVec 8) × (((Int × (BitVec 64 × (Int × (Int × (Int × Unit))))) × (Int × (Int × (List (BitVec 8) × ((Int × (Int × (Int × Unit))) × Unit))))) × ((Int × (Int × (Int × Unit))) × Unit))))))) × (Int × (Int × (Int × (Int × Unit))))) : evF reticulelaw22_IuPuts_E 23 (bd Try.f4) [.val T32, .val T36] [.tmp 4 (.bool, .view)] reticulelaw22_IuPuts_an x = reticulelaw22_IuPuts x := by kernel_rfl
theorem reticulelaw22_IuPuts_ok : FnOk Try.prog 4 { args := [.val T32, .val T36], res := [(.bool, .view)], f := reticulelaw22_IuPuts } :=
  fn_ok reticulelaw22_IuPuts_Eok Try.func4 rfl (by kernel_rfl) (by kernel_rfl) (by kernel_rfl) (rs := [.tmp 4 (.bool, .view)]) (c := bd Try.f4) (an := reticulelaw22_IuPuts_an) (ob_flat _ _ _ _ _ _ _ (by kernel_rfl)) reticulelaw22_IuPuts_eq
/-! reticuleref04_Bytes: function 44 -/
noncomputable def reticuleref04_Bytes_fns : List (Nat × Fun) := []
noncomputable def reticuleref04_Bytes_E : Env := { ty := Re.look tyTab, eq := fun n => memB n [], fn := Re.look reticuleref04_Bytes_fns, cut := fun n => memB n [], win := fun n => memB n [], one := fun n => memB n [], onc := fun n => memB n [], parr := Re.look [] }
noncomputable def reticuleref04_Bytes_an : An (Ds ((([.tmp 2 ((.sl (.int .u8)), .full)] : List RV).map RV.pm).map (·.1) ++ ioTys [.val T28])) :=
(.seq (.rg [] none)
(.seq (.rg [] none)
.leaf))
theorem reticuleref04_Bytes_Eok : EnvOk Try.prog reticuleref04_Bytes_E := env_ok tab_ok (by simp) (allFn_mem (show AllFn Try.prog reticuleref04_Bytes_fns from trivial)) mixed (by kernel_rfl)
theorem reticuleref04_Bytes_eq (x : (Int × (Int × (Int × Unit)))) : evF reticuleref04_Bytes_E 13 (bd Try.f44) [.val T28] [.tmp 2 ((.sl (.int .u8)), .full)] reticuleref04_Bytes_an x = reticuleref04_Bytes x := by kernel_rfl
theorem reticuleref04_Bytes_ok : FnOk Try.prog 44 { args := [.val T28], res := [((.sl (.int .u8)), .full)], f := reticuleref04_Bytes } :=
  fn_ok reticuleref04_Bytes_Eok Try.func44 rfl (by kernel_rfl) (by kernel_rfl) (by kernel_rfl) (rs := [.tmp 2 ((.sl (.int .u8)), .full)]) (c := bd Try.f44) (an := reticuleref04_Bytes_an) (ob_flat _ _ _ _ _ _ _ (by kernel_rfl)) reticuleref04_Bytes_eq
/-! reticuleref22_Status: function 24 -/
noncomputable def reticuleref22_Status_fns : List (Nat × Fun) := [(44, { args := [.val T28], res := [((.sl (.int .u8)), .full)], f := reticuleref04_Bytes }), (37, { args := [.val (.int .u8), .val (.int .i64)], res := [((.sl (.int .u8)), .full)], f := reticuleref22_head })]
noncomputable def reticuleref22_Status_E : Env := { ty := Re.look tyTab, eq := fun n => memB n [29], fn := Re.look reticuleref22_Status_fns, cut := fun n => memB n [], win := fun n => memB n [], one := fun n => memB n [], onc := fun n => memB n [], parr := Re.look [] }
noncomputable def reticuleref22_Status_an : An (Ds ((([.cell 6 T47] : List RV).map RV.pm).map (·.1) ++ ioTys [.val (.int .i64), .val (.int .i64), .val T28])) :=
(.seq (.rg [] none)
(.seq (.rg [] none)
(.join [.val 0 (.int .i64), .val 1 (.int .i64), .box 6 T47, .row 7 (.int .u8) .full]
(.seq (.rg [] none)
(.cond (.rg [] none) .leaf))
(.seq (.rg [] none)
(.seq (.rg [] none)
.leaf)))))
theorem reticuleref22_Status_Eok : EnvOk Try.prog reticuleref22_Status_E := env_ok tab_ok (by intro t h; simp only [List.mem_cons, List.mem_nil_iff, or_false, List.not_mem_nil] at h; rcases h with rfl <;> exact ⟨by kernel_rfl, by kernel_rfl, by kernel_rfl⟩) (allFn_mem (show AllFn Try.prog reticuleref22_Status_fns from ⟨reticuleref04_Bytes_ok, reticuleref22_head_ok, trivial⟩)) mixed (by kernel_rfl)
theorem reticuleref22_Status_eq (x : Int × Int × (Int × (Int × (Int × Unit)))) : evF reticuleref22_Status_E 29 (bd Try.f24) [.val (.int .i64), .val (.int .i64), .val T28] [.cell 6 T47] reticuleref22_Status_an x = reticuleref22_Status x := by kernel_rfl
theorem reticuleref22_Status_ok : FnOk Try.prog 24 { args := [.val (.int .i64), .val (.int .i64), .val T28], res := [(T47, .view)], f := reticuleref22_Status } :=
  fn_ok reticuleref22_Status_Eok Try.func24 rfl (by kernel_rfl) (by kernel_rfl) (by kernel_rfl) (rs := [.cell 6 T47]) (c := bd Try.f24) (an := reticuleref22_Status_an) (ob_flat _ _ _ _ _ _ _ (by kernel_rfl)) reticuleref22_Status_eq
/-! reticuleref22_Response: function 26 -/
noncomputable def reticuleref22_Response_fns : List (Nat × Fun) := [(37, { args := [.val (.int .u8), .val (.int .i64)], res := [((.sl (.int .u8)), .full)], f := reticuleref22_head })]
noncomputable def reticuleref22_Response_E : Env := { ty := Re.look tyTab, eq := fun n => memB n [], fn := Re.look reticuleref22_Response_fns, cut := fun n => memB n [], win := fun n => memB n [], one := fun n => memB n [], onc := fun n => memB n [], parr := Re.look [] }
noncomputable def reticuleref22_Response_an : An (Ds ((([.cell 4 T47] : List RV).map RV.pm).map (·.1) ++ ioTys [.val (.int .i64), .val (.int .i64)])) :=
(.seq (.rg [] none)
(.seq (.rg [] none)
.leaf))
theorem reticuleref22_Response_Eok : EnvOk Try.prog reticuleref22_Response_E := env_ok tab_ok (by simp) (allFn_mem (show AllFn Try.prog reticuleref22_Response_fns from ⟨reticuleref22_head_ok, trivial⟩)) mixed (by kernel_rfl)
theorem reticuleref22_Response_eq (x : Int × Int) : evF reticuleref22_Response_E 14 (bd Try.f26) [.val (.int .i64), .val (.int .i64)] [.cell 4 T47] reticuleref22_Response_an x = reticuleref22_Response x := by kernel_rfl
theorem reticuleref22_Response_ok : FnOk Try.prog 26 { args := [.val (.int .i64), .val (.int .i64)], res := [(T47, .view)], f := reticuleref22_Response } :=
  fn_ok reticuleref22_Response_Eok Try.func26 rfl (by kernel_rfl) (by kernel_rfl) (by kernel_rfl) (rs := [.cell 4 T47]) (c := bd Try.f26) (an := reticuleref22_Response_an) (ob_flat _ _ _ _ _ _ _ (by kernel_rfl)) reticuleref22_Response_eq
/-! reticuleref22_Ready: function 28 -/
noncomputable def reticuleref22_Ready_fns : List (Nat × Fun) := [(37, { args := [.val (.int .u8), .val (.int .i64)], res := [((.sl (.int .u8)), .full)], f := reticuleref22_head })]
noncomputable def reticuleref22_Ready_E : Env := { ty := Re.look tyTab, eq := fun n => memB n [], fn := Re.look reticuleref22_Ready_fns, cut := fun n => memB n [], win := fun n => memB n [], one := fun n => memB n [], onc := fun n => memB n [], parr := Re.look [] }
noncomputable def reticuleref22_Ready_an : An (Ds ((([.cell 4 T47] : List RV).map RV.pm).map (·.1) ++ ioTys [.val (.int .i64), .val (.int .i64)])) :=
(.seq (.rg [] none)
(.seq (.rg [] none)
(.join [.val 0 (.int .i64), .box 4 T47, .val 5 (.int .i64)]
(.seq (.rg [] none)
(.cond (.rg [] none) .leaf))
(.seq (.rg [] none)
.leaf))))
theorem reticuleref22_Ready_Eok : EnvOk Try.prog reticuleref22_Ready_E := env_ok tab_ok (by simp) (allFn_mem (show AllFn Try.prog reticuleref22_Ready_fns from ⟨reticuleref22_head_ok, trivial⟩)) mixed (by kernel_rfl)
theorem reticuleref22_Ready_eq (x : Int × Int) : evF reticuleref22_Ready_E 15 (bd Try.f28) [.val (.int .i64), .val (.int .i64)] [.cell 4 T47] reticuleref22_Ready_an x = reticuleref22_Ready x := by kernel_rfl
theorem reticuleref22_Ready_ok : FnOk Try.prog 28 { args := [.val (.int .i64), .val (.int .i64)], res := [(T47, .view)], f := reticuleref22_Ready } :=
  fn_ok reticuleref22_Ready_Eok Try.func28 rfl (by kernel_rfl) (by kernel_rfl) (by kernel_rfl) (rs := [.cell 4 T47]) (c := bd Try.f28) (an := reticuleref22_Ready_an) (ob_flat _ _ _ _ _ _ _ (by kernel_rfl)) reticuleref22_Ready_eq
/-! reticulelaw22_IuTells: function 5 -/
noncomputable def reticulelaw22_IuTells_fns : List (Nat × Fun) := [(8, { args := [], res := [(.bool, .view)], f := reticulelaw22_alive }), (23, { args := [.val (.int .i64), .val (.int .i64), .val T28], res := [(T47, .view)], f := iu_Status }), (24, { args := [.val (.int .i64), .val (.int .i64), .val T28], res := [(T47, .view)], f := reticuleref22_Status }), (22, { args := [.val T47, .val T47], res := [(.bool, .view)], f := reticuleref22_Same }), (25, { args := [.val (.int .i64), .val (.int .i64)], res := [(T47, .view)], f := iu_Response }), (26, { args := [.val (.int .i64), .val (.int .i64)], res := [(T47, .view)], f := reticuleref22_Response }), (27, { args := [.val (.int .i64), .val (.int .i64)], res := [(T47, .view)], f := iu_Ready }), (28, { args := [.val (.int .i64), .val (.int .i64)], res := [(T47, .view)], f := reticuleref22_Ready })]
noncomputable def reticulelaw22_IuTells_E : Env := { ty := Re.look tyTab, eq := fun n => memB n [], fn := Re.look reticulelaw22_IuTells_fns, cut := fun n => memB n [], win := fun n => memB n [], one := fun n => memB n [], onc := fun n => memB n [], parr := Re.look [] }
noncomputable def reticulelaw22_IuTells_an : An (Ds ((([.tmp 6 (.bool, .view)] : List RV).map RV.pm).map (·.1) ++ ioTys [.val (.int .i64), .val (.int .i64), .val T28])) :=
(.seq (.rg [] none)
(.seq (.seq (.rg [] none)
(.cond (.seq (.rg [] none)
.leaf) .leaf))
(.seq (.rg [] (some (.op ⟨[], []⟩ (.op ⟨[], []⟩ (.op ⟨[80], []⟩ (.op ⟨[192], []⟩ (.op ⟨[], []⟩ (.op ⟨[], []⟩ (.op ⟨[80], []⟩ (.op ⟨[256], []⟩ (.op ⟨[272], []⟩ (.op ⟨[], []⟩ (.split 18 [(26, .bool)] (.op ⟨[], []⟩ (.op ⟨[], []⟩ (.op ⟨[336], []⟩ (.op ⟨[], []⟩ (.op ⟨[], []⟩ (.op ⟨[384], []⟩ (.op ⟨[400], []⟩ (.op ⟨[], []⟩ .done)))))))) (.op ⟨[], []⟩ (.split 27 [(35, .bool)] (.op ⟨[], []⟩ (.op ⟨[], []⟩ (.op ⟨[480], []⟩ (.op ⟨[], []⟩ (.op ⟨[], []⟩ (.op ⟨[528], []⟩ (.op ⟨[544], []⟩ (.op ⟨[], []⟩ .done)))))))) (.op ⟨[], []⟩ .done))))))))))))))))
.leaf)))
theorem reticulelaw22_IuTells_Eok : EnvOk Try.prog reticulelaw22_IuTells_E := env_ok tab_ok (by simp) (allFn_mem (show AllFn Try.prog reticulelaw22_IuTells_fns from ⟨reticulelaw22_alive_ok, iu_Status_ok, reticuleref22_Status_ok, reticuleref22_Same_ok, iu_Response_ok, reticuleref22_Response_ok, iu_Ready_ok, reticuleref22_Ready_ok, trivial⟩)) mixed (by kernel_rfl)
theorem reticulelaw22_IuTells_eq (x : Int × Int × (Int × (Int × (Int × Unit)))) : evF reticulelaw22_IuTells_E 36 (bd Try.f5) [.val (.int .i64), .val (.int .i64), .val T28] [.tmp 6 (.bool, .view)] reticulelaw22_IuTells_an x = reticulelaw22_IuTells x := by kernel_rfl
theorem reticulelaw22_IuTells_ok : FnOk Try.prog 5 { args := [.val (.int .i64), .val (.int .i64), .val T28], res := [(.bool, .view)], f := reticulelaw22_IuTells } :=
  fn_ok reticulelaw22_IuTells_Eok Try.func5 rfl (by kernel_rfl) (by kernel_rfl) (by kernel_rfl) (rs := [.tmp 6 (.bool, .view)]) (c := bd Try.f5) (an := reticulelaw22_IuTells_an) (ob_flat _ _ _ _ _ _ _ (by kernel_rfl)) reticulelaw22_IuTells_eq
/-! reticulelaw22_IuBack: function 6 -/
noncomputable def reticulelaw22_IuBack_fns : List (Nat × Fun) := [(8, { args := [], res := [(.bool, .view)], f := reticulelaw22_alive }), (18, { args := [.val T32], res := [((.sl (.int .u8)), .full)], f := iu_PutCommand }), (9, { args := [.val (.sl (.int .u8))], res := [(T32, .view), (.bool, .view)], f := iu_Command }), (20, { args := [.val T36], res := [((.sl (.int .u8)), .full)], f := iu_PutManage }), (11, { args := [.val (.sl (.int .u8))], res := [(T36, .view), (.bool, .view)], f := iu_Manage }), (13, { args := [.val T32, .val T32], res := [(.bool, .view)], f := reticulelaw22_task })]
noncomputable def reticulelaw22_IuBack_E : Env := { ty := Re.look tyTab, eq := fun n => memB n [37], fn := Re.look reticulelaw22_IuBack_fns, cut := fun n => memB n [], win := fun n => memB n [], one := fun n => memB n [], onc := fun n => memB n [], parr := Re.look [] }
noncomputable def reticulelaw22_IuBack_an : An (Ds ((([.tmp 6 (.bool, .view)] : List RV).map RV.pm).map (·.1) ++ ioTys [.val (.int .u16), .val (.int .u16), .val T53])) :=
(.seq (.rg [] none)
(.seq (.seq (.rg [] none)
(.cond (.seq (.rg [] none)
.leaf) .leaf))
(.seq (.rg [] none)
(.seq (.rg [] none)
(.seq (.rg [] (some (.op ⟨[], []⟩ (.op ⟨[], []⟩ (.split 43 [(45, .bool)] (.op ⟨[], []⟩ (.op ⟨[], []⟩ .done)) (.op ⟨[], []⟩ (.split 46 [(57, .bool)] (.op ⟨[112], []⟩ (.op ⟨[], []⟩ (.op ⟨[], []⟩ (.op ⟨[80], []⟩ (.op ⟨[80], []⟩ (.op ⟨[], []⟩ (.op ⟨[80], []⟩ (.op ⟨[80], []⟩ (.op ⟨[], []⟩ (.op ⟨[896], []⟩ (.op ⟨[], []⟩ .done))))))))))) (.op ⟨[], []⟩ (.split 58 [(72, .bool)] (.op ⟨[144], []⟩ (.op ⟨[], []⟩ (.op ⟨[], []⟩ (.op ⟨[80], []⟩ (.op ⟨[80], []⟩ (.op ⟨[], []⟩ (.op ⟨[], []⟩ (.op ⟨[], []⟩ (.op ⟨[80], []⟩ (.op ⟨[80], []⟩ (.op ⟨[], []⟩ (.op ⟨[], []⟩ (.op ⟨[], []⟩ (.op ⟨[], []⟩ .done)))))))))))))) (.op ⟨[], []⟩ .done))))))))))
.leaf)))))
theorem reticulelaw22_IuBack_Eok : EnvOk Try.prog reticulelaw22_IuBack_E := env_ok tab_ok (by intro t h; simp only [List.mem_cons, List.mem_nil_iff, or_false, List.not_mem_nil] at h; rcases h with rfl <;> exact ⟨by kernel_rfl, by kernel_rfl, by kernel_rfl⟩) (allFn_mem (show AllFn Try.prog reticulelaw22_IuBack_fns from ⟨reticulelaw22_alive_ok, iu_PutCommand_ok, iu_Command_ok, iu_PutManage_ok, iu_Manage_ok, reticulelaw22_task_ok, trivial⟩)) mixed (by kernel_rfl)
theorem reticulelaw22_IuBack_eq (x : (BitVec 16) × (BitVec 16) × (BitVec 8 × (BitVec 8 × (List (BitVec 8) × Unit)))) : evF reticulelaw22_IuBack_E 73 (bd Try.f6) [.val (.int .u16), .val (.int .u16), .val T53] [.tmp 6 (.bool, .view)] reticulelaw22_IuBack_an x = reticulelaw22_IuBack x := by kernel_rfl
theorem reticulelaw22_IuBack_ok : FnOk Try.prog 6 { args := [.val (.int .u16), .val (.int .u16), .val T53], res := [(.bool, .view)], f := reticulelaw22_IuBack } :=
  fn_ok reticulelaw22_IuBack_Eok Try.func6 rfl (by kernel_rfl) (by kernel_rfl) (by kernel_rfl) (rs := [.tmp 6 (.bool, .view)]) (c := bd Try.f6) (an := reticulelaw22_IuBack_an) (ob_flat _ _ _ _ _ _ _ (by kernel_rfl)) reticulelaw22_IuBack_eq
/-! reticulelaw22_IuTurned: function 7 -/
noncomputable def reticulelaw22_IuTurned_fns : List (Nat × Fun) := [(8, { args := [], res := [(.bool, .view)], f := reticulelaw22_alive }), (18, { args := [.val T32], res := [((.sl (.int .u8)), .full)], f := iu_PutCommand }), (9, { args := [.val (.sl (.int .u8))], res := [(T32, .view), (.bool, .view)], f := iu_Command }), (13, { args := [.val T32, .val T32], res := [(.bool, .view)], f := reticulelaw22_task })]
noncomputable def reticulelaw22_IuTurned_E : Env := { ty := Re.look tyTab, eq := fun n => memB n [], fn := Re.look reticulelaw22_IuTurned_fns, cut := fun n => memB n [], win := fun n => memB n [], one := fun n => memB n [], onc := fun n => memB n [], parr := Re.look [] }
noncomputable def reticulelaw22_IuTurned_an : An (Ds ((([.tmp 6 (.bool, .view)] : List RV).map RV.pm).map (·.1) ++ ioTys [.val T32, .val (.int .u8), .val (.int .u8)])) :=
(.seq (.rg [] none)
(.seq (.seq (.rg [] none)
(.cond (.seq (.rg [] none)
.leaf) .leaf))
(.seq (.rg [] none)
(.seq (.seq (.rg [] (some (.op ⟨[], []⟩ (.op ⟨[272], []⟩ (.op ⟨[], []⟩ (.op ⟨[], []⟩ (.split 21 [(24, .bool)] (.op ⟨[], []⟩ (.op ⟨[], []⟩ (.op ⟨[], []⟩ .done))) .done)))))))
(.cond (.seq (.rg [] none)
.leaf) .leaf))
(.seq (.rg [] none)
(.seq (.rg [] none)
(.seq (.rg [] none)
(.seq (.rg [] none)
(.seq (.rg [] none)
(.seq (.seq (.rg [] (some (.op ⟨[], []⟩ (.op ⟨[], []⟩ (.op ⟨[], []⟩ (.split 55 [(58, .bool)] (.op ⟨[], []⟩ (.op ⟨[], []⟩ (.op ⟨[], []⟩ .done))) (.op ⟨[], []⟩ (.split 59 [(62, .bool)] (.op ⟨[], []⟩ (.op ⟨[], []⟩ (.op ⟨[], []⟩ .done))) (.op ⟨[], []⟩ (.split 63 [(66, .bool)] (.op ⟨[], []⟩ (.op ⟨[], []⟩ (.op ⟨[], []⟩ .done))) .done))))))))))
(.cond (.seq (.rg [] (some (.op ⟨[], []⟩ (.op ⟨[], []⟩ (.split 68 [(70, .bool)] (.op ⟨[], []⟩ (.op ⟨[], []⟩ .done)) (.op ⟨[], []⟩ (.split 71 [(75, .bool)] (.op ⟨[128], []⟩ (.op ⟨[192], []⟩ (.op ⟨[1184], []⟩ (.op ⟨[], []⟩ .done)))) (.op ⟨[], []⟩ .done))))))))
.leaf) .leaf))
(.seq (.rg [] (some (.op ⟨[], []⟩ (.op ⟨[], []⟩ (.split 77 [(86, .bool)] (.op ⟨[], []⟩ (.op ⟨[], []⟩ (.op ⟨[], []⟩ (.split 80 [(85, .bool)] (.op ⟨[128], []⟩ (.op ⟨[192], []⟩ (.op ⟨[1328], []⟩ (.op ⟨[], []⟩ (.op ⟨[], []⟩ .done))))) (.op ⟨[], []⟩ .done))))) (.op ⟨[], []⟩ .done))))))
.leaf)))))))))))
theorem reticulelaw22_IuTurned_Eok : EnvOk Try.prog reticulelaw22_IuTurned_E := env_ok tab_ok (by simp) (allFn_mem (show AllFn Try.prog reticulelaw22_IuTurned_fns from ⟨reticulelaw22_alive_ok, iu_PutCommand_ok, iu_Command_ok, reticulelaw22_task_ok, trivial⟩)) mixed (by kernel_rfl)
theorem reticulelaw22_IuTurned_eq (x : (Int × (Int × (List (BitVec 8) × (Int × (List (BitVec 8) × (((Int × (BitVec 64 × (Int × (Int × (Int × Unit))))) × (Int × (Int × (List (BitVec 8) × ((Int × (Int × (Int × Unit))) × Unit))))) × ((Int × (Int × (Int × Unit))) × Unit))))))) × (BitVec 8) × (BitVec 8)) : evF reticulelaw22_IuTurned_E 87 (bd Try.f7) [.val T32, .val (.int .u8), .val (.int .u8)] [.tmp 6 (.bool, .view)] reticulelaw22_IuTurned_an x = reticulelaw22_IuTurned x := by kernel_rfl
theorem reticulelaw22_IuTurned_ok : FnOk Try.prog 7 { args := [.val T32, .val (.int .u8), .val (.int .u8)], res := [(.bool, .view)], f := reticulelaw22_IuTurned } :=
  fn_ok reticulelaw22_IuTurned_Eok Try.func7 rfl (by kernel_rfl) (by kernel_rfl) (by kernel_rfl) (rs := [.tmp 6 (.bool, .view)]) (c := bd Try.f7) (an := reticulelaw22_IuTurned_an) (ob_flat _ _ _ _ _ _ _ (by kernel_rfl)) reticulelaw22_IuTurned_eq
end Go.Proofs.Ytmkoigeofajhfaa
