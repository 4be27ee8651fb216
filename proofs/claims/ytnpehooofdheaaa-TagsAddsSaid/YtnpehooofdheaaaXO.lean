/- Each function does what its plain one tells. Printed by the session's own program. -/
import Derived.Test.YtnpehooofdheaaaXT
import Derived.Test.YtnpehooofdheaaaXF
namespace Go.Proofs.Ytnpehooofdheaaa
open Go Go.Re
set_option linter.unusedVariables false
set_option linter.unusedSimpArgs false
set_option maxRecDepth 100000
set_option maxHeartbeats 1000000
/-! tags_may: function 26 -/
noncomputable def tags_may_fns : List (Nat × Fun) := []
noncomputable def tags_may_E : Env := { ty := Re.look tyTab, eq := fun n => memB n [], fn := Re.look tags_may_fns, cut := fun n => memB n [], win := fun n => memB n [], one := fun n => memB n [], onc := fun n => memB n [], pre := fun n => memB n [], ptr := fun n => memB n [], psl := fun n => memB n [], parr := Re.look [], mpt := Re.look [], lnd := fun n => memB n [] }
noncomputable def tags_may_an : An (Ds ((([.tmp 2 (.bool, .view)] : List RV).map RV.pm).map (·.1) ++ ioTys [.val (.int .i64)])) :=
(.seq (.rg [] none)
(.seq (.rg [] (some (.op ⟨[], []⟩ (.op ⟨[], []⟩ (.op ⟨[], []⟩ (.split 5 [(8, .bool)] (.op ⟨[], []⟩ (.op ⟨[], []⟩ (.op ⟨[], []⟩ .done))) (.op ⟨[], []⟩ .done)))))))
.leaf))
theorem tags_may_Eok : EnvOk Try.prog tags_may_E := env_ok tab_ok (by simp) (allFn_mem (show AllFn Try.prog tags_may_fns from trivial)) mixed (by kernel_rfl) (by kernel_rfl) (by kernel_rfl) (by kernel_rfl)
theorem tags_may_eq (x : Int) : evF tags_may_E 9 (bd Try.f26) [.val (.int .i64)] [.tmp 2 (.bool, .view)] tags_may_an x = tags_may x := by kernel_rfl
theorem tags_may_ok : FnOk Try.prog 26 { args := [.val (.int .i64)], res := [(.bool, .view)], f := tags_may } :=
  fn_ok tags_may_Eok Try.func26 rfl (by kernel_rfl) (by kernel_rfl) (by kernel_rfl) (rs := [.tmp 2 (.bool, .view)]) (c := bd Try.f26) (an := tags_may_an) (ob_flat _ _ _ _ _ _ _ (by kernel_rfl)) tags_may_eq
/-! tags_of: function 32 -/
noncomputable def tags_of_fns : List (Nat × Fun) := []
noncomputable def tags_of_E : Env := { ty := Re.look tyTab, eq := fun n => memB n [], fn := Re.look tags_of_fns, cut := fun n => memB n [], win := fun n => memB n [], one := fun n => memB n [], onc := fun n => memB n [], pre := fun n => memB n [], ptr := fun n => memB n [], psl := fun n => memB n [], parr := Re.look [], mpt := Re.look [], lnd := fun n => memB n [] }
noncomputable def tags_of_an : An (Ds ((([.cell 2 (.arr 2 (.int .u8))] : List RV).map RV.pm).map (·.1) ++ ioTys [.val (.int .i64)])) :=
(.seq (.rg [] none)
(.seq (.rg [] none)
.leaf))
theorem tags_of_Eok : EnvOk Try.prog tags_of_E := env_ok tab_ok (by simp) (allFn_mem (show AllFn Try.prog tags_of_fns from trivial)) mixed (by kernel_rfl) (by kernel_rfl) (by kernel_rfl) (by kernel_rfl)
theorem tags_of_eq (x : Int) : evF tags_of_E 9 (bd Try.f32) [.val (.int .i64)] [.cell 2 (.arr 2 (.int .u8))] tags_of_an x = tags_of x := by kernel_rfl
theorem tags_of_ok : FnOk Try.prog 32 { args := [.val (.int .i64)], res := [((.arr 2 (.int .u8)), .view)], f := tags_of } :=
  fn_ok tags_of_Eok Try.func32 rfl (by kernel_rfl) (by kernel_rfl) (by kernel_rfl) (rs := [.cell 2 (.arr 2 (.int .u8))]) (c := bd Try.f32) (an := tags_of_an) (ob_flat _ _ _ _ _ _ _ (by kernel_rfl)) tags_of_eq
/-! tags_places: function 29 -/
noncomputable def tags_places_fns : List (Nat × Fun) := [(26, { args := [.val (.int .i64)], res := [(.bool, .view)], f := tags_may }), (32, { args := [.val (.int .i64)], res := [((.arr 2 (.int .u8)), .view)], f := tags_of })]
noncomputable def tags_places_E : Env := { ty := Re.look tyTab, eq := fun n => memB n [], fn := Re.look tags_places_fns, cut := fun n => memB n [], win := fun n => memB n [], one := fun n => memB n [], onc := fun n => memB n [], pre := fun n => memB n [], ptr := fun n => memB n [], psl := fun n => memB n [], parr := Re.look [], mpt := Re.look [(58, ((.arr 2 (.int .u8)), (.int .i64)))], lnd := fun n => memB n [] }
noncomputable def tags_places_an : An (Ds ((([.tmp 2 ((.sl (.pair (.arr 2 (.int .u8)) (.int .i64))), .mp)] : List RV).map RV.pm).map (·.1) ++ ioTys [.val (.sl T32)])) :=
(.seq (.rg [] none)
(.seq (.rg [] none)
(.seq (.seq (.rg [] none)
(.loop [.val 0 (.sl T32), .row 3 (.pair (.arr 2 (.int .u8)) (.int .i64)) .mp, .val 4 (.int .i64)] [.row 3 (.pair (.arr 2 (.int .u8)) (.int .i64)) .mp] tags_places_L0
(.seq (.seq (.rg [] none)
(.cond .leaf .leaf))
(.join [.val 0 (.sl T32), .row 3 (.pair (.arr 2 (.int .u8)) (.int .i64)) .mp, .val 4 (.int .i64)]
(.block (.seq (.rg [] none)
(.cond (.rg [] none) .leaf)))
(.rg [] none)))))
(.seq (.rg [] none)
.leaf))))
theorem tags_places_Eok : EnvOk Try.prog tags_places_E := env_ok tab_ok (by simp) (allFn_mem (show AllFn Try.prog tags_places_fns from ⟨tags_may_ok, tags_of_ok, trivial⟩)) mixed (by kernel_rfl) (by kernel_rfl) (by kernel_rfl) (by kernel_rfl)
theorem tags_places_eq (x : (List (Int × (Int × (List (BitVec 8) × (Int × (List (BitVec 8) × (((Int × (BitVec 64 × (Int × (Int × (Int × Unit))))) × (Int × (Int × (List (BitVec 8) × ((Int × (Int × (Int × Unit))) × Unit))))) × ((Int × (Int × (Int × Unit))) × Unit))))))))) : evF tags_places_E 30 (bd Try.f29) [.val (.sl T32)] [.tmp 2 ((.sl (.pair (.arr 2 (.int .u8)) (.int .i64))), .mp)] tags_places_an x = tags_places x := by kernel_rfl
theorem tags_places_ok : FnOk Try.prog 29 { args := [.val (.sl T32)], res := [((.sl (.pair (.arr 2 (.int .u8)) (.int .i64))), .mp)], f := tags_places } :=
  fn_ok tags_places_Eok Try.func29 rfl (by kernel_rfl) (by kernel_rfl) (by kernel_rfl) (rs := [.tmp 2 ((.sl (.pair (.arr 2 (.int .u8)) (.int .i64))), .mp)]) (c := bd Try.f29) (an := tags_places_an) (show obF tags_places_E 30 (bd Try.f29) [.val (.sl T32)] [.tmp 2 ((.sl (.pair (.arr 2 (.int .u8)) (.int .i64))), .mp)] tags_places_an from (And.intro trivial (And.intro trivial (And.intro (And.intro trivial (And.intro (fun _ => rfl) (And.intro (fun n j => by kernel_rfl) (fun n => (And.intro (And.intro trivial (And.intro trivial trivial)) (And.intro (And.intro trivial (And.intro trivial trivial)) trivial)))))) (And.intro trivial trivial))))) tags_places_eq
/-! tags_Find_1: function 31 -/
noncomputable def tags_Find_1_fns : List (Nat × Fun) := []
noncomputable def tags_Find_1_E : Env := { ty := Re.look tyTab, eq := fun n => memB n [], fn := Re.look tags_Find_1_fns, cut := fun n => memB n [], win := fun n => memB n [], one := fun n => memB n [], onc := fun n => memB n [], pre := fun n => memB n [], ptr := fun n => memB n [], psl := fun n => memB n [], parr := Re.look [], mpt := Re.look [], lnd := fun n => memB n [] }
noncomputable def tags_Find_1_an : An (Ds ((([.tmp 3 (.bool, .view)] : List RV).map RV.pm).map (·.1) ++ ioTys [.val T32, .pv (.rp (.int .i64))])) :=
(.seq (.rg [] none)
(.seq (.rg [] none)
.leaf))
theorem tags_Find_1_Eok : EnvOk Try.prog tags_Find_1_E := env_ok tab_ok (by simp) (allFn_mem (show AllFn Try.prog tags_Find_1_fns from trivial)) mixed (by kernel_rfl) (by kernel_rfl) (by kernel_rfl) (by kernel_rfl)
theorem tags_Find_1_eq (x : (Int × (Int × (List (BitVec 8) × (Int × (List (BitVec 8) × (((Int × (BitVec 64 × (Int × (Int × (Int × Unit))))) × (Int × (Int × (List (BitVec 8) × ((Int × (Int × (Int × Unit))) × Unit))))) × ((Int × (Int × (Int × Unit))) × Unit))))))) × Int) : evF tags_Find_1_E 8 (bd Try.f31) [.val T32, .pv (.rp (.int .i64))] [.tmp 3 (.bool, .view)] tags_Find_1_an x = tags_Find_1 x := by kernel_rfl
theorem tags_Find_1_ok : FnOk Try.prog 31 { args := [.val T32, .pv (.rp (.int .i64))], res := [(.bool, .view)], f := tags_Find_1 } :=
  fn_ok tags_Find_1_Eok Try.func31 rfl (by kernel_rfl) (by kernel_rfl) (by kernel_rfl) (rs := [.tmp 3 (.bool, .view)]) (c := bd Try.f31) (an := tags_Find_1_an) (ob_flat _ _ _ _ _ _ _ (by kernel_rfl)) tags_Find_1_eq
/-! slices_IndexFunc_api_Task_c31: function 30 -/
noncomputable def slices_IndexFunc_api_Task_c31_fns : List (Nat × Fun) := [(31, { args := [.val T32, .pv (.rp (.int .i64))], res := [(.bool, .view)], f := tags_Find_1 })]
noncomputable def slices_IndexFunc_api_Task_c31_E : Env := { ty := Re.look tyTab, eq := fun n => memB n [], fn := Re.look slices_IndexFunc_api_Task_c31_fns, cut := fun n => memB n [], win := fun n => memB n [], one := fun n => memB n [], onc := fun n => memB n [], pre := fun n => memB n [], ptr := fun n => memB n [], psl := fun n => memB n [], parr := Re.look [], mpt := Re.look [], lnd := fun n => memB n [] }
noncomputable def slices_IndexFunc_api_Task_c31_an : An (Ds ((([.tmp 4 ((.int .i64), .view)] : List RV).map RV.pm).map (·.1) ++ ioTys [.val (.sl T32), .pv (.clo 31 (.int .i64))])) :=
(.seq (.rg [] none)
(.seq (.seq (.rg [] none)
(.loop [.val 0 (.sl T32), .pv 1 (.clo 31 (.int .i64)), .val 7 (.int .i64), .val 8 (.int .i64)] [] slices_IndexFunc_api_Task_c31_L0
(.seq (.rg [] none)
(.seq (.cond .leaf .leaf)
(.seq (.block (.seq (.rg [] none)
(.seq (.rg [] none)
(.cond (.seq (.rg [] none)
.leaf) .leaf))))
(.rg [] none))))))
(.seq (.rg [] none)
.leaf)))
theorem slices_IndexFunc_api_Task_c31_Eok : EnvOk Try.prog slices_IndexFunc_api_Task_c31_E := env_ok tab_ok (by simp) (allFn_mem (show AllFn Try.prog slices_IndexFunc_api_Task_c31_fns from ⟨tags_Find_1_ok, trivial⟩)) mixed (by kernel_rfl) (by kernel_rfl) (by kernel_rfl) (by kernel_rfl)
theorem slices_IndexFunc_api_Task_c31_eq (x : (List (Int × (Int × (List (BitVec 8) × (Int × (List (BitVec 8) × (((Int × (BitVec 64 × (Int × (Int × (Int × Unit))))) × (Int × (Int × (List (BitVec 8) × ((Int × (Int × (Int × Unit))) × Unit))))) × ((Int × (Int × (Int × Unit))) × Unit)))))))) × Int) : evF slices_IndexFunc_api_Task_c31_E 19 (bd Try.f30) [.val (.sl T32), .pv (.clo 31 (.int .i64))] [.tmp 4 ((.int .i64), .view)] slices_IndexFunc_api_Task_c31_an x = slices_IndexFunc_api_Task_c31 x := by kernel_rfl
theorem slices_IndexFunc_api_Task_c31_ok : FnOk Try.prog 30 { args := [.val (.sl T32), .pv (.clo 31 (.int .i64))], res := [((.int .i64), .view)], f := slices_IndexFunc_api_Task_c31 } :=
  fn_ok slices_IndexFunc_api_Task_c31_Eok Try.func30 rfl (by kernel_rfl) (by kernel_rfl) (by kernel_rfl) (rs := [.tmp 4 ((.int .i64), .view)]) (c := bd Try.f30) (an := slices_IndexFunc_api_Task_c31_an) (show obF slices_IndexFunc_api_Task_c31_E 19 (bd Try.f30) [.val (.sl T32), .pv (.clo 31 (.int .i64))] [.tmp 4 ((.int .i64), .view)] slices_IndexFunc_api_Task_c31_an from (And.intro trivial (And.intro (And.intro trivial (And.intro (fun _ => rfl) (And.intro (fun n j => by kernel_rfl) (fun n => (And.intro trivial (And.intro (And.intro trivial trivial) (And.intro (And.intro trivial (And.intro trivial (And.intro (And.intro trivial trivial) trivial))) trivial))))))) (And.intro trivial trivial)))) slices_IndexFunc_api_Task_c31_eq
/-! tags_Find: function 15 -/
noncomputable def tags_Find_fns : List (Nat × Fun) := [(26, { args := [.val (.int .i64)], res := [(.bool, .view)], f := tags_may }), (29, { args := [.val (.sl T32)], res := [((.sl (.pair (.arr 2 (.int .u8)) (.int .i64))), .mp)], f := tags_places }), (32, { args := [.val (.int .i64)], res := [((.arr 2 (.int .u8)), .view)], f := tags_of }), (30, { args := [.val (.sl T32), .pv (.clo 31 (.int .i64))], res := [((.int .i64), .view)], f := slices_IndexFunc_api_Task_c31 })]
noncomputable def tags_Find_E : Env := { ty := Re.look tyTab, eq := fun n => memB n [], fn := Re.look tags_Find_fns, cut := fun n => memB n [], win := fun n => memB n [], one := fun n => memB n [3], onc := fun n => memB n [], pre := fun n => memB n [], ptr := fun n => memB n [], psl := fun n => memB n [], parr := Re.look [], mpt := Re.look [(58, ((.arr 2 (.int .u8)), (.int .i64)))], lnd := fun n => memB n [12] }
noncomputable def tags_Find_an : An (Ds ((([.tmp 4 ((.int .i64), .view)] : List RV).map RV.pm).map (·.1) ++ ioTys [.val (.sl T32), .val (.int .i64)])) :=
(.seq (.rg [] none)
(.seq (.seq (.rg [] none)
(.cond (.seq (.rg [] none)
.leaf) .leaf))
(.seq (.seq (.rg [] (some (.op ⟨[], []⟩ (.op ⟨[240], [240]⟩ (.op ⟨[], []⟩ (.op ⟨[272], []⟩ (.op ⟨[240], []⟩ (.op ⟨[], []⟩ (.op ⟨[], []⟩ (.op ⟨[], []⟩ (.op ⟨[], []⟩ (.op ⟨[], []⟩ .done))))))))))))
(.seq (.rg [] none)
(.cond (.seq (.rg [] none)
.leaf) .leaf)))
(.seq (.rg [] none)
.leaf))))
theorem tags_Find_Eok : EnvOk Try.prog tags_Find_E := env_ok tab_ok (by simp) (allFn_mem (show AllFn Try.prog tags_Find_fns from ⟨tags_may_ok, tags_places_ok, tags_of_ok, slices_IndexFunc_api_Task_c31_ok, trivial⟩)) mixed (by kernel_rfl) (by kernel_rfl) (by kernel_rfl) (by kernel_rfl)
theorem tags_Find_eq (x : (List (Int × (Int × (List (BitVec 8) × (Int × (List (BitVec 8) × (((Int × (BitVec 64 × (Int × (Int × (Int × Unit))))) × (Int × (Int × (List (BitVec 8) × ((Int × (Int × (Int × Unit))) × Unit))))) × ((Int × (Int × (Int × Unit))) × Unit)))))))) × Int) : evF tags_Find_E 23 (bd Try.f15) [.val (.sl T32), .val (.int .i64)] [.tmp 4 ((.int .i64), .view)] tags_Find_an x = tags_Find x := by kernel_rfl
theorem tags_Find_ok : FnOk Try.prog 15 { args := [.val (.sl T32), .val (.int .i64)], res := [((.int .i64), .view)], f := tags_Find } :=
  fn_ok tags_Find_Eok Try.func15 rfl (by kernel_rfl) (by kernel_rfl) (by kernel_rfl) (rs := [.tmp 4 ((.int .i64), .view)]) (c := bd Try.f15) (an := tags_Find_an) (ob_flat _ _ _ _ _ _ _ (by kernel_rfl)) tags_Find_eq
/-! slices_Grow_api_Task: function 36 -/
noncomputable def slices_Grow_api_Task_fns : List (Nat × Fun) := []
noncomputable def slices_Grow_api_Task_E : Env := { ty := Re.look tyTab, eq := fun n => memB n [], fn := Re.look slices_Grow_api_Task_fns, cut := fun n => memB n [25], win := fun n => memB n [], one := fun n => memB n [], onc := fun n => memB n [], pre := fun n => memB n [], ptr := fun n => memB n [], psl := fun n => memB n [], parr := Re.look [], mpt := Re.look [], lnd := fun n => memB n [] }
noncomputable def slices_Grow_api_Task_an : An (Ds ((([.tmp 4 ((.sl T32), .full)] : List RV).map RV.pm).map (·.1) ++ ioTys [.nils T32, .val (.int .i64)])) :=
(.seq (.rg [] none)
(.seq (.seq (.rg [] none)
(.cond .leaf .leaf))
(.join [.row 0 T32 .full]
(.seq (.rg [] none)
(.seq (.rg [] none)
(.cond (.rg [] none) .leaf)))
(.seq (.rg [] none)
.leaf))))
theorem slices_Grow_api_Task_Eok : EnvOk Try.prog slices_Grow_api_Task_E := env_ok tab_ok (by simp) (allFn_mem (show AllFn Try.prog slices_Grow_api_Task_fns from trivial)) mixed (by kernel_rfl) (by kernel_rfl) (by kernel_rfl) (by kernel_rfl)
theorem slices_Grow_api_Task_eq (x : Unit × Int) : evF slices_Grow_api_Task_E 27 (bd Try.f36) [.nils T32, .val (.int .i64)] [.tmp 4 ((.sl T32), .full)] slices_Grow_api_Task_an x = slices_Grow_api_Task x := by kernel_rfl
theorem slices_Grow_api_Task_ok : FnOk Try.prog 36 { args := [.nils T32, .val (.int .i64)], res := [((.sl T32), .full)], f := slices_Grow_api_Task } :=
  fn_ok slices_Grow_api_Task_Eok Try.func36 rfl (by kernel_rfl) (by kernel_rfl) (by kernel_rfl) (rs := [.tmp 4 ((.sl T32), .full)]) (c := bd Try.f36) (an := slices_Grow_api_Task_an) (ob_flat _ _ _ _ _ _ _ (by kernel_rfl)) slices_Grow_api_Task_eq
/-! slices_Concat_api_Task: function 27 -/
noncomputable def slices_Concat_api_Task_fns : List (Nat × Fun) := [(36, { args := [.nils T32, .val (.int .i64)], res := [((.sl T32), .full)], f := slices_Grow_api_Task })]
noncomputable def slices_Concat_api_Task_E : Env := { ty := Re.look tyTab, eq := fun n => memB n [], fn := Re.look slices_Concat_api_Task_fns, cut := fun n => memB n [], win := fun n => memB n [], one := fun n => memB n [], onc := fun n => memB n [], pre := fun n => memB n [], ptr := fun n => memB n [], psl := fun n => memB n [], parr := Re.look [], mpt := Re.look [], lnd := fun n => memB n [] }
noncomputable def slices_Concat_api_Task_an : An (Ds ((([.tmp 2 ((.sl T32), .full)] : List RV).map RV.pm).map (·.1) ++ ioTys [.val (.sl (.sl T32))])) :=
(.seq (.rg [] none)
(.seq (.rg [] none)
(.seq (.seq (.rg [] none)
(.loop [.val 0 (.sl (.sl T32)), .val 3 (.int .i64), .val 9 (.sl (.sl T32)), .val 10 (.int .i64), .val 11 (.int .i64)] [.val 0 (.sl (.sl T32)), .val 3 (.int .i64)] slices_Concat_api_Task_L0
(.seq (.rg [] none)
(.seq (.cond .leaf .leaf)
(.seq (.block (.seq (.rg [] none)
(.seq (.rg [] none)
(.seq (.rg [] none)
(.cond .leaf .leaf)))))
(.rg [] none))))))
(.seq (.rg [] none)
(.seq (.seq (.rg [] none)
(.loop [.row 6 T32 .full, .val 25 (.sl (.sl T32)), .val 26 (.int .i64), .val 27 (.int .i64)] [.row 6 T32 .full] slices_Concat_api_Task_L1
(.seq (.rg [] none)
(.seq (.cond .leaf .leaf)
(.seq (.block (.seq (.rg [] none)
(.rg [] none)))
(.rg [] none))))))
(.seq (.rg [] none)
.leaf))))))
theorem slices_Concat_api_Task_Eok : EnvOk Try.prog slices_Concat_api_Task_E := env_ok tab_ok (by simp) (allFn_mem (show AllFn Try.prog slices_Concat_api_Task_fns from ⟨slices_Grow_api_Task_ok, trivial⟩)) mixed (by kernel_rfl) (by kernel_rfl) (by kernel_rfl) (by kernel_rfl)
theorem slices_Concat_api_Task_eq (x : (List (List (Int × (Int × (List (BitVec 8) × (Int × (List (BitVec 8) × (((Int × (BitVec 64 × (Int × (Int × (Int × Unit))))) × (Int × (Int × (List (BitVec 8) × ((Int × (Int × (Int × Unit))) × Unit))))) × ((Int × (Int × (Int × Unit))) × Unit)))))))))) : evF slices_Concat_api_Task_E 36 (bd Try.f27) [.val (.sl (.sl T32))] [.tmp 2 ((.sl T32), .full)] slices_Concat_api_Task_an x = slices_Concat_api_Task x := by kernel_rfl
theorem slices_Concat_api_Task_ok : FnOk Try.prog 27 { args := [.val (.sl (.sl T32))], res := [((.sl T32), .full)], f := slices_Concat_api_Task } :=
  fn_ok slices_Concat_api_Task_Eok Try.func27 rfl (by kernel_rfl) (by kernel_rfl) (by kernel_rfl) (rs := [.tmp 2 ((.sl T32), .full)]) (c := bd Try.f27) (an := slices_Concat_api_Task_an) (show obF slices_Concat_api_Task_E 36 (bd Try.f27) [.val (.sl (.sl T32))] [.tmp 2 ((.sl T32), .full)] slices_Concat_api_Task_an from (And.intro trivial (And.intro trivial (And.intro (And.intro trivial (And.intro (fun _ => rfl) (And.intro (fun n j => by kernel_rfl) (fun n => (And.intro trivial (And.intro (And.intro trivial trivial) (And.intro (And.intro trivial (And.intro trivial (And.intro trivial (And.intro trivial trivial)))) trivial))))))) (And.intro trivial (And.intro (And.intro trivial (And.intro (fun _ => rfl) (And.intro (fun n j => by kernel_rfl) (fun n => (And.intro trivial (And.intro (And.intro trivial trivial) (And.intro (And.intro trivial trivial) trivial))))))) (And.intro trivial trivial))))))) slices_Concat_api_Task_eq
/-! tags_Add: function 10 -/
noncomputable def tags_Add_fns : List (Nat × Fun) := [(26, { args := [.val (.int .i64)], res := [(.bool, .view)], f := tags_may }), (15, { args := [.val (.sl T32), .val (.int .i64)], res := [((.int .i64), .view)], f := tags_Find }), (27, { args := [.val (.sl (.sl T32))], res := [((.sl T32), .full)], f := slices_Concat_api_Task })]
noncomputable def tags_Add_E : Env := { ty := Re.look tyTab, eq := fun n => memB n [], fn := Re.look tags_Add_fns, cut := fun n => memB n [], win := fun n => memB n [], one := fun n => memB n [], onc := fun n => memB n [], pre := fun n => memB n [], ptr := fun n => memB n [], psl := fun n => memB n [], parr := Re.look [], mpt := Re.look [], lnd := fun n => memB n [] }
noncomputable def tags_Add_an : An (Ds ((([.tmp 6 ((.sl T32), .view), .tmp 7 ((.int .i64), .view)] : List RV).map RV.pm).map (·.1) ++ ioTys [.val (.sl T32), .val T32, .val (.int .i64)])) :=
(.seq (.rg [] none)
(.seq (.block (.seq (.rg [] none)
(.cond (.seq (.rg [] none)
.leaf) (.seq (.rg [] none)
(.cond (.seq (.rg [] none)
.leaf) (.seq (.rg [] none)
(.cond (.seq (.rg [] none)
.leaf) .leaf)))))))
(.seq (.rg [] none)
.leaf)))
theorem tags_Add_Eok : EnvOk Try.prog tags_Add_E := env_ok tab_ok (by simp) (allFn_mem (show AllFn Try.prog tags_Add_fns from ⟨tags_may_ok, tags_Find_ok, slices_Concat_api_Task_ok, trivial⟩)) mixed (by kernel_rfl) (by kernel_rfl) (by kernel_rfl) (by kernel_rfl)
theorem tags_Add_eq (x : (List (Int × (Int × (List (BitVec 8) × (Int × (List (BitVec 8) × (((Int × (BitVec 64 × (Int × (Int × (Int × Unit))))) × (Int × (Int × (List (BitVec 8) × ((Int × (Int × (Int × Unit))) × Unit))))) × ((Int × (Int × (Int × Unit))) × Unit)))))))) × (Int × (Int × (List (BitVec 8) × (Int × (List (BitVec 8) × (((Int × (BitVec 64 × (Int × (Int × (Int × Unit))))) × (Int × (Int × (List (BitVec 8) × ((Int × (Int × (Int × Unit))) × Unit))))) × ((Int × (Int × (Int × Unit))) × Unit))))))) × Int) : evF tags_Add_E 33 (bd Try.f10) [.val (.sl T32), .val T32, .val (.int .i64)] [.tmp 6 ((.sl T32), .view), .tmp 7 ((.int .i64), .view)] tags_Add_an x = tags_Add x := by kernel_rfl
theorem tags_Add_ok : FnOk Try.prog 10 { args := [.val (.sl T32), .val T32, .val (.int .i64)], res := [((.sl T32), .view), ((.int .i64), .view)], f := tags_Add } :=
  fn_ok tags_Add_Eok Try.func10 rfl (by kernel_rfl) (by kernel_rfl) (by kernel_rfl) (rs := [.tmp 6 ((.sl T32), .view), .tmp 7 ((.int .i64), .view)]) (c := bd Try.f10) (an := tags_Add_an) (ob_flat _ _ _ _ _ _ _ (by kernel_rfl)) tags_Add_eq
/-! slices_Clone_api_Task: function 39 -/
noncomputable def slices_Clone_api_Task_fns : List (Nat × Fun) := []
noncomputable def slices_Clone_api_Task_E : Env := { ty := Re.look tyTab, eq := fun n => memB n [], fn := Re.look slices_Clone_api_Task_fns, cut := fun n => memB n [], win := fun n => memB n [], one := fun n => memB n [], onc := fun n => memB n [], pre := fun n => memB n [], ptr := fun n => memB n [], psl := fun n => memB n [], parr := Re.look [], mpt := Re.look [], lnd := fun n => memB n [] }
noncomputable def slices_Clone_api_Task_an : An (Ds ((([.tmp 2 ((.sl T32), .full)] : List RV).map RV.pm).map (·.1) ++ ioTys [.val (.sl T32)])) :=
(.seq (.rg [] none)
(.seq (.seq (.rg [] none)
(.cond (.seq (.rg [] none)
.leaf) .leaf))
(.seq (.rg [] none)
.leaf)))
theorem slices_Clone_api_Task_Eok : EnvOk Try.prog slices_Clone_api_Task_E := env_ok tab_ok (by simp) (allFn_mem (show AllFn Try.prog slices_Clone_api_Task_fns from trivial)) mixed (by kernel_rfl) (by kernel_rfl) (by kernel_rfl) (by kernel_rfl)
theorem slices_Clone_api_Task_eq (x : (List (Int × (Int × (List (BitVec 8) × (Int × (List (BitVec 8) × (((Int × (BitVec 64 × (Int × (Int × (Int × Unit))))) × (Int × (Int × (List (BitVec 8) × ((Int × (Int × (Int × Unit))) × Unit))))) × ((Int × (Int × (Int × Unit))) × Unit))))))))) : evF slices_Clone_api_Task_E 8 (bd Try.f39) [.val (.sl T32)] [.tmp 2 ((.sl T32), .full)] slices_Clone_api_Task_an x = slices_Clone_api_Task x := by kernel_rfl
theorem slices_Clone_api_Task_ok : FnOk Try.prog 39 { args := [.val (.sl T32)], res := [((.sl T32), .full)], f := slices_Clone_api_Task } :=
  fn_ok slices_Clone_api_Task_Eok Try.func39 rfl (by kernel_rfl) (by kernel_rfl) (by kernel_rfl) (rs := [.tmp 2 ((.sl T32), .full)]) (c := bd Try.f39) (an := slices_Clone_api_Task_an) (ob_flat _ _ _ _ _ _ _ (by kernel_rfl)) slices_Clone_api_Task_eq
/-! tags_Drop_1: function 34 -/
noncomputable def tags_Drop_1_fns : List (Nat × Fun) := []
noncomputable def tags_Drop_1_E : Env := { ty := Re.look tyTab, eq := fun n => memB n [], fn := Re.look tags_Drop_1_fns, cut := fun n => memB n [], win := fun n => memB n [], one := fun n => memB n [], onc := fun n => memB n [], pre := fun n => memB n [], ptr := fun n => memB n [], psl := fun n => memB n [], parr := Re.look [], mpt := Re.look [], lnd := fun n => memB n [] }
noncomputable def tags_Drop_1_an : An (Ds ((([.tmp 3 (.bool, .view)] : List RV).map RV.pm).map (·.1) ++ ioTys [.val T32, .pv (.rp (.int .i64))])) :=
(.seq (.rg [] none)
(.seq (.rg [] none)
.leaf))
theorem tags_Drop_1_Eok : EnvOk Try.prog tags_Drop_1_E := env_ok tab_ok (by simp) (allFn_mem (show AllFn Try.prog tags_Drop_1_fns from trivial)) mixed (by kernel_rfl) (by kernel_rfl) (by kernel_rfl) (by kernel_rfl)
theorem tags_Drop_1_eq (x : (Int × (Int × (List (BitVec 8) × (Int × (List (BitVec 8) × (((Int × (BitVec 64 × (Int × (Int × (Int × Unit))))) × (Int × (Int × (List (BitVec 8) × ((Int × (Int × (Int × Unit))) × Unit))))) × ((Int × (Int × (Int × Unit))) × Unit))))))) × Int) : evF tags_Drop_1_E 8 (bd Try.f34) [.val T32, .pv (.rp (.int .i64))] [.tmp 3 (.bool, .view)] tags_Drop_1_an x = tags_Drop_1 x := by kernel_rfl
theorem tags_Drop_1_ok : FnOk Try.prog 34 { args := [.val T32, .pv (.rp (.int .i64))], res := [(.bool, .view)], f := tags_Drop_1 } :=
  fn_ok tags_Drop_1_Eok Try.func34 rfl (by kernel_rfl) (by kernel_rfl) (by kernel_rfl) (rs := [.tmp 3 (.bool, .view)]) (c := bd Try.f34) (an := tags_Drop_1_an) (ob_flat _ _ _ _ _ _ _ (by kernel_rfl)) tags_Drop_1_eq
/-! slices_IndexFunc_api_Task_c34: function 30 -/
noncomputable def slices_IndexFunc_api_Task_c34_fns : List (Nat × Fun) := [(34, { args := [.val T32, .pv (.rp (.int .i64))], res := [(.bool, .view)], f := tags_Drop_1 })]
noncomputable def slices_IndexFunc_api_Task_c34_E : Env := { ty := Re.look tyTab, eq := fun n => memB n [], fn := Re.look slices_IndexFunc_api_Task_c34_fns, cut := fun n => memB n [], win := fun n => memB n [], one := fun n => memB n [], onc := fun n => memB n [], pre := fun n => memB n [], ptr := fun n => memB n [], psl := fun n => memB n [], parr := Re.look [], mpt := Re.look [], lnd := fun n => memB n [] }
noncomputable def slices_IndexFunc_api_Task_c34_an : An (Ds ((([.tmp 4 ((.int .i64), .view)] : List RV).map RV.pm).map (·.1) ++ ioTys [.val (.sl T32), .pv (.clo 34 (.int .i64))])) :=
(.seq (.rg [] none)
(.seq (.seq (.rg [] none)
(.loop [.val 0 (.sl T32), .pv 1 (.clo 34 (.int .i64)), .val 7 (.int .i64), .val 8 (.int .i64)] [] slices_IndexFunc_api_Task_c34_L0
(.seq (.rg [] none)
(.seq (.cond .leaf .leaf)
(.seq (.block (.seq (.rg [] none)
(.seq (.rg [] none)
(.cond (.seq (.rg [] none)
.leaf) .leaf))))
(.rg [] none))))))
(.seq (.rg [] none)
.leaf)))
theorem slices_IndexFunc_api_Task_c34_Eok : EnvOk Try.prog slices_IndexFunc_api_Task_c34_E := env_ok tab_ok (by simp) (allFn_mem (show AllFn Try.prog slices_IndexFunc_api_Task_c34_fns from ⟨tags_Drop_1_ok, trivial⟩)) mixed (by kernel_rfl) (by kernel_rfl) (by kernel_rfl) (by kernel_rfl)
theorem slices_IndexFunc_api_Task_c34_eq (x : (List (Int × (Int × (List (BitVec 8) × (Int × (List (BitVec 8) × (((Int × (BitVec 64 × (Int × (Int × (Int × Unit))))) × (Int × (Int × (List (BitVec 8) × ((Int × (Int × (Int × Unit))) × Unit))))) × ((Int × (Int × (Int × Unit))) × Unit)))))))) × Int) : evF slices_IndexFunc_api_Task_c34_E 19 (bd Try.f30) [.val (.sl T32), .pv (.clo 34 (.int .i64))] [.tmp 4 ((.int .i64), .view)] slices_IndexFunc_api_Task_c34_an x = slices_IndexFunc_api_Task_c34 x := by kernel_rfl
theorem slices_IndexFunc_api_Task_c34_ok : FnOk Try.prog 30 { args := [.val (.sl T32), .pv (.clo 34 (.int .i64))], res := [((.int .i64), .view)], f := slices_IndexFunc_api_Task_c34 } :=
  fn_ok slices_IndexFunc_api_Task_c34_Eok Try.func30 rfl (by kernel_rfl) (by kernel_rfl) (by kernel_rfl) (rs := [.tmp 4 ((.int .i64), .view)]) (c := bd Try.f30) (an := slices_IndexFunc_api_Task_c34_an) (show obF slices_IndexFunc_api_Task_c34_E 19 (bd Try.f30) [.val (.sl T32), .pv (.clo 34 (.int .i64))] [.tmp 4 ((.int .i64), .view)] slices_IndexFunc_api_Task_c34_an from (And.intro trivial (And.intro (And.intro trivial (And.intro (fun _ => rfl) (And.intro (fun n j => by kernel_rfl) (fun n => (And.intro trivial (And.intro (And.intro trivial trivial) (And.intro (And.intro trivial (And.intro trivial (And.intro (And.intro trivial trivial) trivial))) trivial))))))) (And.intro trivial trivial)))) slices_IndexFunc_api_Task_c34_eq
/-! slices_DeleteFunc_api_Task_c34: function 38 -/
noncomputable def slices_DeleteFunc_api_Task_c34_fns : List (Nat × Fun) := [(30, { args := [.val (.sl T32), .pv (.clo 34 (.int .i64))], res := [((.int .i64), .view)], f := slices_IndexFunc_api_Task_c34 }), (34, { args := [.val T32, .pv (.rp (.int .i64))], res := [(.bool, .view)], f := tags_Drop_1 })]
noncomputable def slices_DeleteFunc_api_Task_c34_E : Env := { ty := Re.look tyTab, eq := fun n => memB n [], fn := Re.look slices_DeleteFunc_api_Task_c34_fns, cut := fun n => memB n [], win := fun n => memB n [38], one := fun n => memB n [], onc := fun n => memB n [], pre := fun n => memB n [], ptr := fun n => memB n [], psl := fun n => memB n [], parr := Re.look [], mpt := Re.look [], lnd := fun n => memB n [10] }
noncomputable def slices_DeleteFunc_api_Task_c34_an : An (Ds ((([.tmp 4 ((.sl T32), .view)] : List RV).map RV.pm).map (·.1) ++ ioTys [.take T32, .pv (.clo 34 (.int .i64))])) :=
(.seq (.rg [] none)
(.seq (.rg [] none)
(.seq (.seq (.rg [] none)
(.cond (.seq (.rg [] none)
.leaf) .leaf))
(.seq (.seq (.rg [] none)
(.loop [.prow 0 T32, .pv 1 (.clo 34 (.int .i64)), .val 5 (.int .i64), .val 6 (.int .i64)] [.prow 0 T32, .val 5 (.int .i64)] slices_DeleteFunc_api_Task_c34_L0
(.seq (.seq (.rg [] none)
(.cond .leaf .leaf))
(.join [.prow 0 T32, .pv 1 (.clo 34 (.int .i64)), .val 5 (.int .i64), .val 6 (.int .i64)]
(.block (.seq (.rg [] none)
(.seq (.rg [] none)
(.cond (.seq (.rg [] none)
(.rg [] none)) .leaf))))
(.rg [] none)))))
(.seq (.rg [] none)
(.seq (.rg [] none)
.leaf))))))
theorem slices_DeleteFunc_api_Task_c34_Eok : EnvOk Try.prog slices_DeleteFunc_api_Task_c34_E := env_ok tab_ok (by simp) (allFn_mem (show AllFn Try.prog slices_DeleteFunc_api_Task_c34_fns from ⟨slices_IndexFunc_api_Task_c34_ok, tags_Drop_1_ok, trivial⟩)) mixed (by kernel_rfl) (by kernel_rfl) (by kernel_rfl) (by kernel_rfl)
theorem slices_DeleteFunc_api_Task_c34_eq (x : (List (Int × (Int × (List (BitVec 8) × (Int × (List (BitVec 8) × (((Int × (BitVec 64 × (Int × (Int × (Int × Unit))))) × (Int × (Int × (List (BitVec 8) × ((Int × (Int × (Int × Unit))) × Unit))))) × ((Int × (Int × (Int × Unit))) × Unit)))))))) × Int) : evF slices_DeleteFunc_api_Task_c34_E 42 (bd Try.f38) [.take T32, .pv (.clo 34 (.int .i64))] [.tmp 4 ((.sl T32), .view)] slices_DeleteFunc_api_Task_c34_an x = slices_DeleteFunc_api_Task_c34 x := by kernel_rfl
theorem slices_DeleteFunc_api_Task_c34_ok : FnOk Try.prog 38 { args := [.take T32, .pv (.clo 34 (.int .i64))], res := [((.sl T32), .view)], f := slices_DeleteFunc_api_Task_c34 } :=
  fn_ok slices_DeleteFunc_api_Task_c34_Eok Try.func38 rfl (by kernel_rfl) (by kernel_rfl) (by kernel_rfl) (rs := [.tmp 4 ((.sl T32), .view)]) (c := bd Try.f38) (an := slices_DeleteFunc_api_Task_c34_an) (show obF slices_DeleteFunc_api_Task_c34_E 42 (bd Try.f38) [.take T32, .pv (.clo 34 (.int .i64))] [.tmp 4 ((.sl T32), .view)] slices_DeleteFunc_api_Task_c34_an from (And.intro trivial (And.intro trivial (And.intro (And.intro trivial (And.intro (And.intro trivial trivial) trivial)) (And.intro (And.intro trivial (And.intro (fun _ => rfl) (And.intro (fun n j => by kernel_rfl) (fun n => (And.intro (And.intro trivial (And.intro trivial trivial)) (And.intro (And.intro trivial (And.intro trivial (And.intro (And.intro trivial trivial) trivial))) trivial)))))) (And.intro trivial (And.intro trivial trivial))))))) slices_DeleteFunc_api_Task_c34_eq
/-! tags_but_c34: function 33 -/
noncomputable def tags_but_c34_fns : List (Nat × Fun) := [(39, { args := [.val (.sl T32)], res := [((.sl T32), .full)], f := slices_Clone_api_Task }), (38, { args := [.take T32, .pv (.clo 34 (.int .i64))], res := [((.sl T32), .view)], f := slices_DeleteFunc_api_Task_c34 })]
noncomputable def tags_but_c34_E : Env := { ty := Re.look tyTab, eq := fun n => memB n [], fn := Re.look tags_but_c34_fns, cut := fun n => memB n [], win := fun n => memB n [], one := fun n => memB n [], onc := fun n => memB n [], pre := fun n => memB n [], ptr := fun n => memB n [], psl := fun n => memB n [], parr := Re.look [], mpt := Re.look [], lnd := fun n => memB n [] }
noncomputable def tags_but_c34_an : An (Ds ((([.tmp 4 ((.sl T32), .view)] : List RV).map RV.pm).map (·.1) ++ ioTys [.val (.sl T32), .pv (.clo 34 (.int .i64))])) :=
(.seq (.rg [] none)
(.seq (.rg [] none)
.leaf))
theorem tags_but_c34_Eok : EnvOk Try.prog tags_but_c34_E := env_ok tab_ok (by simp) (allFn_mem (show AllFn Try.prog tags_but_c34_fns from ⟨slices_Clone_api_Task_ok, slices_DeleteFunc_api_Task_c34_ok, trivial⟩)) mixed (by kernel_rfl) (by kernel_rfl) (by kernel_rfl) (by kernel_rfl)
theorem tags_but_c34_eq (x : (List (Int × (Int × (List (BitVec 8) × (Int × (List (BitVec 8) × (((Int × (BitVec 64 × (Int × (Int × (Int × Unit))))) × (Int × (Int × (List (BitVec 8) × ((Int × (Int × (Int × Unit))) × Unit))))) × ((Int × (Int × (Int × Unit))) × Unit)))))))) × Int) : evF tags_but_c34_E 9 (bd Try.f33) [.val (.sl T32), .pv (.clo 34 (.int .i64))] [.tmp 4 ((.sl T32), .view)] tags_but_c34_an x = tags_but_c34 x := by kernel_rfl
theorem tags_but_c34_ok : FnOk Try.prog 33 { args := [.val (.sl T32), .pv (.clo 34 (.int .i64))], res := [((.sl T32), .view)], f := tags_but_c34 } :=
  fn_ok tags_but_c34_Eok Try.func33 rfl (by kernel_rfl) (by kernel_rfl) (by kernel_rfl) (rs := [.tmp 4 ((.sl T32), .view)]) (c := bd Try.f33) (an := tags_but_c34_an) (ob_flat _ _ _ _ _ _ _ (by kernel_rfl)) tags_but_c34_eq
/-! tags_Drop: function 17 -/
noncomputable def tags_Drop_fns : List (Nat × Fun) := [(33, { args := [.val (.sl T32), .pv (.clo 34 (.int .i64))], res := [((.sl T32), .view)], f := tags_but_c34 })]
noncomputable def tags_Drop_E : Env := { ty := Re.look tyTab, eq := fun n => memB n [], fn := Re.look tags_Drop_fns, cut := fun n => memB n [], win := fun n => memB n [], one := fun n => memB n [3], onc := fun n => memB n [], pre := fun n => memB n [], ptr := fun n => memB n [], psl := fun n => memB n [], parr := Re.look [], mpt := Re.look [], lnd := fun n => memB n [] }
noncomputable def tags_Drop_an : An (Ds ((([.tmp 4 ((.sl T32), .view)] : List RV).map RV.pm).map (·.1) ++ ioTys [.val (.sl T32), .val (.int .i64)])) :=
(.seq (.rg [] none)
(.seq (.rg [] none)
.leaf))
theorem tags_Drop_Eok : EnvOk Try.prog tags_Drop_E := env_ok tab_ok (by simp) (allFn_mem (show AllFn Try.prog tags_Drop_fns from ⟨tags_but_c34_ok, trivial⟩)) mixed (by kernel_rfl) (by kernel_rfl) (by kernel_rfl) (by kernel_rfl)
theorem tags_Drop_eq (x : (List (Int × (Int × (List (BitVec 8) × (Int × (List (BitVec 8) × (((Int × (BitVec 64 × (Int × (Int × (Int × Unit))))) × (Int × (Int × (List (BitVec 8) × ((Int × (Int × (Int × Unit))) × Unit))))) × ((Int × (Int × (Int × Unit))) × Unit)))))))) × Int) : evF tags_Drop_E 8 (bd Try.f17) [.val (.sl T32), .val (.int .i64)] [.tmp 4 ((.sl T32), .view)] tags_Drop_an x = tags_Drop x := by kernel_rfl
theorem tags_Drop_ok : FnOk Try.prog 17 { args := [.val (.sl T32), .val (.int .i64)], res := [((.sl T32), .view)], f := tags_Drop } :=
  fn_ok tags_Drop_Eok Try.func17 rfl (by kernel_rfl) (by kernel_rfl) (by kernel_rfl) (rs := [.tmp 4 ((.sl T32), .view)]) (c := bd Try.f17) (an := tags_Drop_an) (ob_flat _ _ _ _ _ _ _ (by kernel_rfl)) tags_Drop_eq
/-! tags_Sweep_1: function 35 -/
noncomputable def tags_Sweep_1_fns : List (Nat × Fun) := []
noncomputable def tags_Sweep_1_E : Env := { ty := Re.look tyTab, eq := fun n => memB n [], fn := Re.look tags_Sweep_1_fns, cut := fun n => memB n [], win := fun n => memB n [], one := fun n => memB n [], onc := fun n => memB n [], pre := fun n => memB n [], ptr := fun n => memB n [], psl := fun n => memB n [], parr := Re.look [], mpt := Re.look [], lnd := fun n => memB n [] }
noncomputable def tags_Sweep_1_an : An (Ds ((([.tmp 3 (.bool, .view)] : List RV).map RV.pm).map (·.1) ++ ioTys [.val T32, .pv (.rp (.int .i64))])) :=
(.seq (.rg [] none)
(.seq (.rg [] (some (.op ⟨[], []⟩ (.op ⟨[], []⟩ (.op ⟨[], []⟩ (.split 6 [(11, .bool)] (.op ⟨[32], []⟩ (.op ⟨[32], []⟩ (.op ⟨[], []⟩ (.op ⟨[], []⟩ (.op ⟨[], []⟩ .done))))) (.op ⟨[], []⟩ .done)))))))
.leaf))
theorem tags_Sweep_1_Eok : EnvOk Try.prog tags_Sweep_1_E := env_ok tab_ok (by simp) (allFn_mem (show AllFn Try.prog tags_Sweep_1_fns from trivial)) mixed (by kernel_rfl) (by kernel_rfl) (by kernel_rfl) (by kernel_rfl)
theorem tags_Sweep_1_eq (x : (Int × (Int × (List (BitVec 8) × (Int × (List (BitVec 8) × (((Int × (BitVec 64 × (Int × (Int × (Int × Unit))))) × (Int × (Int × (List (BitVec 8) × ((Int × (Int × (Int × Unit))) × Unit))))) × ((Int × (Int × (Int × Unit))) × Unit))))))) × Int) : evF tags_Sweep_1_E 12 (bd Try.f35) [.val T32, .pv (.rp (.int .i64))] [.tmp 3 (.bool, .view)] tags_Sweep_1_an x = tags_Sweep_1 x := by kernel_rfl
theorem tags_Sweep_1_ok : FnOk Try.prog 35 { args := [.val T32, .pv (.rp (.int .i64))], res := [(.bool, .view)], f := tags_Sweep_1 } :=
  fn_ok tags_Sweep_1_Eok Try.func35 rfl (by kernel_rfl) (by kernel_rfl) (by kernel_rfl) (rs := [.tmp 3 (.bool, .view)]) (c := bd Try.f35) (an := tags_Sweep_1_an) (ob_flat _ _ _ _ _ _ _ (by kernel_rfl)) tags_Sweep_1_eq
/-! slices_IndexFunc_api_Task_c35: function 30 -/
noncomputable def slices_IndexFunc_api_Task_c35_fns : List (Nat × Fun) := [(35, { args := [.val T32, .pv (.rp (.int .i64))], res := [(.bool, .view)], f := tags_Sweep_1 })]
noncomputable def slices_IndexFunc_api_Task_c35_E : Env := { ty := Re.look tyTab, eq := fun n => memB n [], fn := Re.look slices_IndexFunc_api_Task_c35_fns, cut := fun n => memB n [], win := fun n => memB n [], one := fun n => memB n [], onc := fun n => memB n [], pre := fun n => memB n [], ptr := fun n => memB n [], psl := fun n => memB n [], parr := Re.look [], mpt := Re.look [], lnd := fun n => memB n [] }
noncomputable def slices_IndexFunc_api_Task_c35_an : An (Ds ((([.tmp 4 ((.int .i64), .view)] : List RV).map RV.pm).map (·.1) ++ ioTys [.val (.sl T32), .pv (.clo 35 (.int .i64))])) :=
(.seq (.rg [] none)
(.seq (.seq (.rg [] none)
(.loop [.val 0 (.sl T32), .pv 1 (.clo 35 (.int .i64)), .val 7 (.int .i64), .val 8 (.int .i64)] [] slices_IndexFunc_api_Task_c35_L0
(.seq (.rg [] none)
(.seq (.cond .leaf .leaf)
(.seq (.block (.seq (.rg [] none)
(.seq (.rg [] none)
(.cond (.seq (.rg [] none)
.leaf) .leaf))))
(.rg [] none))))))
(.seq (.rg [] none)
.leaf)))
theorem slices_IndexFunc_api_Task_c35_Eok : EnvOk Try.prog slices_IndexFunc_api_Task_c35_E := env_ok tab_ok (by simp) (allFn_mem (show AllFn Try.prog slices_IndexFunc_api_Task_c35_fns from ⟨tags_Sweep_1_ok, trivial⟩)) mixed (by kernel_rfl) (by kernel_rfl) (by kernel_rfl) (by kernel_rfl)
theorem slices_IndexFunc_api_Task_c35_eq (x : (List (Int × (Int × (List (BitVec 8) × (Int × (List (BitVec 8) × (((Int × (BitVec 64 × (Int × (Int × (Int × Unit))))) × (Int × (Int × (List (BitVec 8) × ((Int × (Int × (Int × Unit))) × Unit))))) × ((Int × (Int × (Int × Unit))) × Unit)))))))) × Int) : evF slices_IndexFunc_api_Task_c35_E 19 (bd Try.f30) [.val (.sl T32), .pv (.clo 35 (.int .i64))] [.tmp 4 ((.int .i64), .view)] slices_IndexFunc_api_Task_c35_an x = slices_IndexFunc_api_Task_c35 x := by kernel_rfl
theorem slices_IndexFunc_api_Task_c35_ok : FnOk Try.prog 30 { args := [.val (.sl T32), .pv (.clo 35 (.int .i64))], res := [((.int .i64), .view)], f := slices_IndexFunc_api_Task_c35 } :=
  fn_ok slices_IndexFunc_api_Task_c35_Eok Try.func30 rfl (by kernel_rfl) (by kernel_rfl) (by kernel_rfl) (rs := [.tmp 4 ((.int .i64), .view)]) (c := bd Try.f30) (an := slices_IndexFunc_api_Task_c35_an) (show obF slices_IndexFunc_api_Task_c35_E 19 (bd Try.f30) [.val (.sl T32), .pv (.clo 35 (.int .i64))] [.tmp 4 ((.int .i64), .view)] slices_IndexFunc_api_Task_c35_an from (And.intro trivial (And.intro (And.intro trivial (And.intro (fun _ => rfl) (And.intro (fun n j => by kernel_rfl) (fun n => (And.intro trivial (And.intro (And.intro trivial trivial) (And.intro (And.intro trivial (And.intro trivial (And.intro (And.intro trivial trivial) trivial))) trivial))))))) (And.intro trivial trivial)))) slices_IndexFunc_api_Task_c35_eq
/-! slices_DeleteFunc_api_Task_c35: function 38 -/
noncomputable def slices_DeleteFunc_api_Task_c35_fns : List (Nat × Fun) := [(30, { args := [.val (.sl T32), .pv (.clo 35 (.int .i64))], res := [((.int .i64), .view)], f := slices_IndexFunc_api_Task_c35 }), (35, { args := [.val T32, .pv (.rp (.int .i64))], res := [(.bool, .view)], f := tags_Sweep_1 })]
noncomputable def slices_DeleteFunc_api_Task_c35_E : Env := { ty := Re.look tyTab, eq := fun n => memB n [], fn := Re.look slices_DeleteFunc_api_Task_c35_fns, cut := fun n => memB n [], win := fun n => memB n [38], one := fun n => memB n [], onc := fun n => memB n [], pre := fun n => memB n [], ptr := fun n => memB n [], psl := fun n => memB n [], parr := Re.look [], mpt := Re.look [], lnd := fun n => memB n [10] }
noncomputable def slices_DeleteFunc_api_Task_c35_an : An (Ds ((([.tmp 4 ((.sl T32), .view)] : List RV).map RV.pm).map (·.1) ++ ioTys [.take T32, .pv (.clo 35 (.int .i64))])) :=
(.seq (.rg [] none)
(.seq (.rg [] none)
(.seq (.seq (.rg [] none)
(.cond (.seq (.rg [] none)
.leaf) .leaf))
(.seq (.seq (.rg [] none)
(.loop [.prow 0 T32, .pv 1 (.clo 35 (.int .i64)), .val 5 (.int .i64), .val 6 (.int .i64)] [.prow 0 T32, .val 5 (.int .i64)] slices_DeleteFunc_api_Task_c35_L0
(.seq (.seq (.rg [] none)
(.cond .leaf .leaf))
(.join [.prow 0 T32, .pv 1 (.clo 35 (.int .i64)), .val 5 (.int .i64), .val 6 (.int .i64)]
(.block (.seq (.rg [] none)
(.seq (.rg [] none)
(.cond (.seq (.rg [] none)
(.rg [] none)) .leaf))))
(.rg [] none)))))
(.seq (.rg [] none)
(.seq (.rg [] none)
.leaf))))))
theorem slices_DeleteFunc_api_Task_c35_Eok : EnvOk Try.prog slices_DeleteFunc_api_Task_c35_E := env_ok tab_ok (by simp) (allFn_mem (show AllFn Try.prog slices_DeleteFunc_api_Task_c35_fns from ⟨slices_IndexFunc_api_Task_c35_ok, tags_Sweep_1_ok, trivial⟩)) mixed (by kernel_rfl) (by kernel_rfl) (by kernel_rfl) (by kernel_rfl)
theorem slices_DeleteFunc_api_Task_c35_eq (x : (List (Int × (Int × (List (BitVec 8) × (Int × (List (BitVec 8) × (((Int × (BitVec 64 × (Int × (Int × (Int × Unit))))) × (Int × (Int × (List (BitVec 8) × ((Int × (Int × (Int × Unit))) × Unit))))) × ((Int × (Int × (Int × Unit))) × Unit)))))))) × Int) : evF slices_DeleteFunc_api_Task_c35_E 42 (bd Try.f38) [.take T32, .pv (.clo 35 (.int .i64))] [.tmp 4 ((.sl T32), .view)] slices_DeleteFunc_api_Task_c35_an x = slices_DeleteFunc_api_Task_c35 x := by kernel_rfl
theorem slices_DeleteFunc_api_Task_c35_ok : FnOk Try.prog 38 { args := [.take T32, .pv (.clo 35 (.int .i64))], res := [((.sl T32), .view)], f := slices_DeleteFunc_api_Task_c35 } :=
  fn_ok slices_DeleteFunc_api_Task_c35_Eok Try.func38 rfl (by kernel_rfl) (by kernel_rfl) (by kernel_rfl) (rs := [.tmp 4 ((.sl T32), .view)]) (c := bd Try.f38) (an := slices_DeleteFunc_api_Task_c35_an) (show obF slices_DeleteFunc_api_Task_c35_E 42 (bd Try.f38) [.take T32, .pv (.clo 35 (.int .i64))] [.tmp 4 ((.sl T32), .view)] slices_DeleteFunc_api_Task_c35_an from (And.intro trivial (And.intro trivial (And.intro (And.intro trivial (And.intro (And.intro trivial trivial) trivial)) (And.intro (And.intro trivial (And.intro (fun _ => rfl) (And.intro (fun n j => by kernel_rfl) (fun n => (And.intro (And.intro trivial (And.intro trivial trivial)) (And.intro (And.intro trivial (And.intro trivial (And.intro (And.intro trivial trivial) trivial))) trivial)))))) (And.intro trivial (And.intro trivial trivial))))))) slices_DeleteFunc_api_Task_c35_eq
/-! tags_but_c35: function 33 -/
noncomputable def tags_but_c35_fns : List (Nat × Fun) := [(39, { args := [.val (.sl T32)], res := [((.sl T32), .full)], f := slices_Clone_api_Task }), (38, { args := [.take T32, .pv (.clo 35 (.int .i64))], res := [((.sl T32), .view)], f := slices_DeleteFunc_api_Task_c35 })]
noncomputable def tags_but_c35_E : Env := { ty := Re.look tyTab, eq := fun n => memB n [], fn := Re.look tags_but_c35_fns, cut := fun n => memB n [], win := fun n => memB n [], one := fun n => memB n [], onc := fun n => memB n [], pre := fun n => memB n [], ptr := fun n => memB n [], psl := fun n => memB n [], parr := Re.look [], mpt := Re.look [], lnd := fun n => memB n [] }
noncomputable def tags_but_c35_an : An (Ds ((([.tmp 4 ((.sl T32), .view)] : List RV).map RV.pm).map (·.1) ++ ioTys [.val (.sl T32), .pv (.clo 35 (.int .i64))])) :=
(.seq (.rg [] none)
(.seq (.rg [] none)
.leaf))
theorem tags_but_c35_Eok : EnvOk Try.prog tags_but_c35_E := env_ok tab_ok (by simp) (allFn_mem (show AllFn Try.prog tags_but_c35_fns from ⟨slices_Clone_api_Task_ok, slices_DeleteFunc_api_Task_c35_ok, trivial⟩)) mixed (by kernel_rfl) (by kernel_rfl) (by kernel_rfl) (by kernel_rfl)
theorem tags_but_c35_eq (x : (List (Int × (Int × (List (BitVec 8) × (Int × (List (BitVec 8) × (((Int × (BitVec 64 × (Int × (Int × (Int × Unit))))) × (Int × (Int × (List (BitVec 8) × ((Int × (Int × (Int × Unit))) × Unit))))) × ((Int × (Int × (Int × Unit))) × Unit)))))))) × Int) : evF tags_but_c35_E 9 (bd Try.f33) [.val (.sl T32), .pv (.clo 35 (.int .i64))] [.tmp 4 ((.sl T32), .view)] tags_but_c35_an x = tags_but_c35 x := by kernel_rfl
theorem tags_but_c35_ok : FnOk Try.prog 33 { args := [.val (.sl T32), .pv (.clo 35 (.int .i64))], res := [((.sl T32), .view)], f := tags_but_c35 } :=
  fn_ok tags_but_c35_Eok Try.func33 rfl (by kernel_rfl) (by kernel_rfl) (by kernel_rfl) (rs := [.tmp 4 ((.sl T32), .view)]) (c := bd Try.f33) (an := tags_but_c35_an) (ob_flat _ _ _ _ _ _ _ (by kernel_rfl)) tags_but_c35_eq
/-! tags_Sweep: function 19 -/
noncomputable def tags_Sweep_fns : List (Nat × Fun) := [(33, { args := [.val (.sl T32), .pv (.clo 35 (.int .i64))], res := [((.sl T32), .view)], f := tags_but_c35 })]
noncomputable def tags_Sweep_E : Env := { ty := Re.look tyTab, eq := fun n => memB n [], fn := Re.look tags_Sweep_fns, cut := fun n => memB n [], win := fun n => memB n [], one := fun n => memB n [3], onc := fun n => memB n [], pre := fun n => memB n [], ptr := fun n => memB n [], psl := fun n => memB n [], parr := Re.look [], mpt := Re.look [], lnd := fun n => memB n [] }
noncomputable def tags_Sweep_an : An (Ds ((([.tmp 4 ((.sl T32), .view)] : List RV).map RV.pm).map (·.1) ++ ioTys [.val (.sl T32), .val (.int .i64)])) :=
(.seq (.rg [] none)
(.seq (.rg [] none)
.leaf))
theorem tags_Sweep_Eok : EnvOk Try.prog tags_Sweep_E := env_ok tab_ok (by simp) (allFn_mem (show AllFn Try.prog tags_Sweep_fns from ⟨tags_but_c35_ok, trivial⟩)) mixed (by kernel_rfl) (by kernel_rfl) (by kernel_rfl) (by kernel_rfl)
theorem tags_Sweep_eq (x : (List (Int × (Int × (List (BitVec 8) × (Int × (List (BitVec 8) × (((Int × (BitVec 64 × (Int × (Int × (Int × Unit))))) × (Int × (Int × (List (BitVec 8) × ((Int × (Int × (Int × Unit))) × Unit))))) × ((Int × (Int × (Int × Unit))) × Unit)))))))) × Int) : evF tags_Sweep_E 8 (bd Try.f19) [.val (.sl T32), .val (.int .i64)] [.tmp 4 ((.sl T32), .view)] tags_Sweep_an x = tags_Sweep x := by kernel_rfl
theorem tags_Sweep_ok : FnOk Try.prog 19 { args := [.val (.sl T32), .val (.int .i64)], res := [((.sl T32), .view)], f := tags_Sweep } :=
  fn_ok tags_Sweep_Eok Try.func19 rfl (by kernel_rfl) (by kernel_rfl) (by kernel_rfl) (rs := [.tmp 4 ((.sl T32), .view)]) (c := bd Try.f19) (an := tags_Sweep_an) (ob_flat _ _ _ _ _ _ _ (by kernel_rfl)) tags_Sweep_eq
/-! tags_Tags: function 22 -/
noncomputable def tags_Tags_fns : List (Nat × Fun) := []
noncomputable def tags_Tags_E : Env := { ty := Re.look tyTab, eq := fun n => memB n [], fn := Re.look tags_Tags_fns, cut := fun n => memB n [], win := fun n => memB n [], one := fun n => memB n [], onc := fun n => memB n [], pre := fun n => memB n [], ptr := fun n => memB n [], psl := fun n => memB n [], parr := Re.look [], mpt := Re.look [], lnd := fun n => memB n [] }
noncomputable def tags_Tags_an : An (Ds ((([.tmp 2 ((.sl (.int .i64)), .full)] : List RV).map RV.pm).map (·.1) ++ ioTys [.val (.sl T32)])) :=
(.seq (.rg [] none)
(.seq (.rg [] none)
(.seq (.seq (.rg [] none)
(.loop [.row 3 (.int .i64) .full, .val 6 (.sl T32), .val 7 (.int .i64), .val 8 (.int .i64)] [.row 3 (.int .i64) .full] tags_Tags_L0
(.seq (.rg [] none)
(.seq (.cond .leaf .leaf)
(.seq (.block (.seq (.rg [] none)
(.rg [] none)))
(.rg [] none))))))
(.seq (.rg [] none)
.leaf))))
theorem tags_Tags_Eok : EnvOk Try.prog tags_Tags_E := env_ok tab_ok (by simp) (allFn_mem (show AllFn Try.prog tags_Tags_fns from trivial)) mixed (by kernel_rfl) (by kernel_rfl) (by kernel_rfl) (by kernel_rfl)
theorem tags_Tags_eq (x : (List (Int × (Int × (List (BitVec 8) × (Int × (List (BitVec 8) × (((Int × (BitVec 64 × (Int × (Int × (Int × Unit))))) × (Int × (Int × (List (BitVec 8) × ((Int × (Int × (Int × Unit))) × Unit))))) × ((Int × (Int × (Int × Unit))) × Unit))))))))) : evF tags_Tags_E 19 (bd Try.f22) [.val (.sl T32)] [.tmp 2 ((.sl (.int .i64)), .full)] tags_Tags_an x = tags_Tags x := by kernel_rfl
theorem tags_Tags_ok : FnOk Try.prog 22 { args := [.val (.sl T32)], res := [((.sl (.int .i64)), .full)], f := tags_Tags } :=
  fn_ok tags_Tags_Eok Try.func22 rfl (by kernel_rfl) (by kernel_rfl) (by kernel_rfl) (rs := [.tmp 2 ((.sl (.int .i64)), .full)]) (c := bd Try.f22) (an := tags_Tags_an) (show obF tags_Tags_E 19 (bd Try.f22) [.val (.sl T32)] [.tmp 2 ((.sl (.int .i64)), .full)] tags_Tags_an from (And.intro trivial (And.intro trivial (And.intro (And.intro trivial (And.intro (fun _ => rfl) (And.intro (fun n j => by kernel_rfl) (fun n => (And.intro trivial (And.intro (And.intro trivial trivial) (And.intro (And.intro trivial trivial) trivial))))))) (And.intro trivial trivial))))) tags_Tags_eq
/-! reticuleref01_Ints: function 21 -/
noncomputable def reticuleref01_Ints_fns : List (Nat × Fun) := []
noncomputable def reticuleref01_Ints_E : Env := { ty := Re.look tyTab, eq := fun n => memB n [], fn := Re.look reticuleref01_Ints_fns, cut := fun n => memB n [], win := fun n => memB n [], one := fun n => memB n [], onc := fun n => memB n [], pre := fun n => memB n [], ptr := fun n => memB n [], psl := fun n => memB n [], parr := Re.look [], mpt := Re.look [], lnd := fun n => memB n [] }
noncomputable def reticuleref01_Ints_an : An (Ds ((([.tmp 4 (.bool, .view)] : List RV).map RV.pm).map (·.1) ++ ioTys [.val (.sl (.int .i64)), .val (.sl (.int .i64))])) :=
(.seq (.rg [] none)
(.seq (.seq (.rg [] none)
(.cond (.seq (.rg [] none)
.leaf) .leaf))
(.seq (.seq (.rg [] none)
(.loop [.val 0 (.sl (.int .i64)), .val 1 (.sl (.int .i64)), .val 5 (.int .i64)] [] reticuleref01_Ints_L0
(.seq (.seq (.rg [] none)
(.cond .leaf .leaf))
(.seq (.block (.seq (.rg [] (some (.op ⟨[], []⟩ (.op ⟨[], []⟩ (.op ⟨[], []⟩ (.op ⟨[], []⟩ (.op ⟨[], []⟩ (.op ⟨[], []⟩ (.op ⟨[], []⟩ (.op ⟨[], []⟩ (.op ⟨[], []⟩ .done)))))))))))
(.cond (.seq (.rg [] none)
.leaf) .leaf)))
(.rg [] none)))))
(.seq (.rg [] none)
.leaf))))
theorem reticuleref01_Ints_Eok : EnvOk Try.prog reticuleref01_Ints_E := env_ok tab_ok (by simp) (allFn_mem (show AllFn Try.prog reticuleref01_Ints_fns from trivial)) mixed (by kernel_rfl) (by kernel_rfl) (by kernel_rfl) (by kernel_rfl)
theorem reticuleref01_Ints_eq (x : (List Int) × (List Int)) : evF reticuleref01_Ints_E 26 (bd Try.f21) [.val (.sl (.int .i64)), .val (.sl (.int .i64))] [.tmp 4 (.bool, .view)] reticuleref01_Ints_an x = reticuleref01_Ints x := by kernel_rfl
theorem reticuleref01_Ints_ok : FnOk Try.prog 21 { args := [.val (.sl (.int .i64)), .val (.sl (.int .i64))], res := [(.bool, .view)], f := reticuleref01_Ints } :=
  fn_ok reticuleref01_Ints_Eok Try.func21 rfl (by kernel_rfl) (by kernel_rfl) (by kernel_rfl) (rs := [.tmp 4 (.bool, .view)]) (c := bd Try.f21) (an := reticuleref01_Ints_an) (show obF reticuleref01_Ints_E 26 (bd Try.f21) [.val (.sl (.int .i64)), .val (.sl (.int .i64))] [.tmp 4 (.bool, .view)] reticuleref01_Ints_an from (And.intro trivial (And.intro (And.intro trivial (And.intro (And.intro trivial trivial) trivial)) (And.intro (And.intro trivial (And.intro (fun _ => rfl) (And.intro (fun n j => by kernel_rfl) (fun n => (And.intro (And.intro trivial (And.intro trivial trivial)) (And.intro (And.intro trivial (And.intro (And.intro trivial trivial) trivial)) trivial)))))) (And.intro trivial trivial))))) reticuleref01_Ints_eq
/-! tags_Right: function 13 -/
noncomputable def tags_Right_fns : List (Nat × Fun) := [(29, { args := [.val (.sl T32)], res := [((.sl (.pair (.arr 2 (.int .u8)) (.int .i64))), .mp)], f := tags_places })]
noncomputable def tags_Right_E : Env := { ty := Re.look tyTab, eq := fun n => memB n [], fn := Re.look tags_Right_fns, cut := fun n => memB n [], win := fun n => memB n [], one := fun n => memB n [], onc := fun n => memB n [], pre := fun n => memB n [], ptr := fun n => memB n [], psl := fun n => memB n [], parr := Re.look [], mpt := Re.look [(58, ((.arr 2 (.int .u8)), (.int .i64)))], lnd := fun n => memB n [] }
noncomputable def tags_Right_an : An (Ds ((([.tmp 2 (.bool, .view)] : List RV).map RV.pm).map (·.1) ++ ioTys [.val (.sl T32)])) :=
(.seq (.rg [] none)
(.seq (.rg [] (some (.op ⟨[], []⟩ (.op ⟨[], []⟩ (.op ⟨[], []⟩ (.op ⟨[], []⟩ (.split 6 [(13, .bool)] (.op ⟨[], []⟩ (.op ⟨[128], [128]⟩ (.op ⟨[128], []⟩ (.op ⟨[], []⟩ (.op ⟨[], []⟩ (.op ⟨[], []⟩ (.op ⟨[], []⟩ .done))))))) (.op ⟨[], []⟩ .done))))))))
.leaf))
theorem tags_Right_Eok : EnvOk Try.prog tags_Right_E := env_ok tab_ok (by simp) (allFn_mem (show AllFn Try.prog tags_Right_fns from ⟨tags_places_ok, trivial⟩)) mixed (by kernel_rfl) (by kernel_rfl) (by kernel_rfl) (by kernel_rfl)
theorem tags_Right_eq (x : (List (Int × (Int × (List (BitVec 8) × (Int × (List (BitVec 8) × (((Int × (BitVec 64 × (Int × (Int × (Int × Unit))))) × (Int × (Int × (List (BitVec 8) × ((Int × (Int × (Int × Unit))) × Unit))))) × ((Int × (Int × (Int × Unit))) × Unit))))))))) : evF tags_Right_E 14 (bd Try.f13) [.val (.sl T32)] [.tmp 2 (.bool, .view)] tags_Right_an x = tags_Right x := by kernel_rfl
theorem tags_Right_ok : FnOk Try.prog 13 { args := [.val (.sl T32)], res := [(.bool, .view)], f := tags_Right } :=
  fn_ok tags_Right_Eok Try.func13 rfl (by kernel_rfl) (by kernel_rfl) (by kernel_rfl) (rs := [.tmp 2 (.bool, .view)]) (c := bd Try.f13) (an := tags_Right_an) (ob_flat _ _ _ _ _ _ _ (by kernel_rfl)) tags_Right_eq
/-! reticulelaw23_alive: function 7 -/
noncomputable def reticulelaw23_alive_fns : List (Nat × Fun) := [(10, { args := [.val (.sl T32), .val T32, .val (.int .i64)], res := [((.sl T32), .view), ((.int .i64), .view)], f := tags_Add }), (15, { args := [.val (.sl T32), .val (.int .i64)], res := [((.int .i64), .view)], f := tags_Find }), (17, { args := [.val (.sl T32), .val (.int .i64)], res := [((.sl T32), .view)], f := tags_Drop }), (19, { args := [.val (.sl T32), .val (.int .i64)], res := [((.sl T32), .view)], f := tags_Sweep }), (22, { args := [.val (.sl T32)], res := [((.sl (.int .i64)), .full)], f := tags_Tags }), (21, { args := [.val (.sl (.int .i64)), .val (.sl (.int .i64))], res := [(.bool, .view)], f := reticuleref01_Ints }), (13, { args := [.val (.sl T32)], res := [(.bool, .view)], f := tags_Right })]
noncomputable def reticulelaw23_alive_E : Env := { ty := Re.look tyTab, eq := fun n => memB n [], fn := Re.look reticulelaw23_alive_fns, cut := fun n => memB n [], win := fun n => memB n [], one := fun n => memB n [], onc := fun n => memB n [], pre := fun n => memB n [], ptr := fun n => memB n [], psl := fun n => memB n [], parr := Re.look [], mpt := Re.look [], lnd := fun n => memB n [] }
noncomputable def reticulelaw23_alive_an : An (Ds ((([.tmp 0 (.bool, .view)] : List RV).map RV.pm).map (·.1) ++ ioTys [])) :=
(.seq (.rg [] none)
(.seq (.rg [] none)
(.seq (.rg [] none)
(.seq (.rg [] none)
(.seq (.rg [] none)
(.seq (.seq (.rg [] (some (.op ⟨[], []⟩ (.op ⟨[], []⟩ (.op ⟨[], []⟩ (.split 33 [(36, .bool)] (.op ⟨[], []⟩ (.op ⟨[], []⟩ (.op ⟨[], []⟩ .done))) (.op ⟨[], []⟩ (.split 37 [(40, .bool)] (.op ⟨[], []⟩ (.op ⟨[], []⟩ (.op ⟨[], []⟩ .done))) (.op ⟨[], []⟩ (.split 41 [(44, .bool)] (.op ⟨[], []⟩ (.op ⟨[], []⟩ (.op ⟨[], []⟩ .done))) (.op ⟨[], []⟩ (.split 45 [(49, .bool)] (.op ⟨[], []⟩ (.op ⟨[], []⟩ (.op ⟨[], []⟩ (.op ⟨[], []⟩ .done)))) .done))))))))))))
(.cond (.seq (.rg [] none)
.leaf) .leaf))
(.seq (.rg [1248, 1264] (some (.op ⟨[], []⟩ (.op ⟨[816], []⟩ (.op ⟨[], []⟩ (.op ⟨[], []⟩ (.split 53 [(57, .bool)] (.op ⟨[], []⟩ (.op ⟨[880], []⟩ (.op ⟨[], []⟩ (.op ⟨[], []⟩ .done)))) (.op ⟨[], []⟩ (.split 58 [(63, .bool)] (.op ⟨[], []⟩ (.op ⟨[960], []⟩ (.op ⟨[], []⟩ (.op ⟨[], []⟩ (.op ⟨[], []⟩ .done))))) (.op ⟨[], []⟩ (.split 64 [(69, .bool)] (.op ⟨[], []⟩ (.op ⟨[1056], []⟩ (.op ⟨[], []⟩ (.op ⟨[], []⟩ (.op ⟨[], []⟩ .done))))) (.op ⟨[], []⟩ (.split 70 [(75, .bool)] (.op ⟨[], []⟩ (.op ⟨[1152], []⟩ (.op ⟨[], []⟩ (.op ⟨[], []⟩ (.op ⟨[], []⟩ .done))))) (.op ⟨[], []⟩ (.split 76 [(81, .bool)] (.op ⟨[], []⟩ (.op ⟨[1248], [1248]⟩ (.op ⟨[1264], [1264]⟩ (.op ⟨[1248, 1264, 1280], [1248, 1264]⟩ (.op ⟨[], []⟩ .done))))) (.op ⟨[], []⟩ (.split 82 [(85, .bool)] (.op ⟨[], []⟩ (.op ⟨[1344], []⟩ (.op ⟨[], []⟩ .done))) (.op ⟨[], []⟩ .done))))))))))))))))))
.leaf)))))))
theorem reticulelaw23_alive_Eok : EnvOk Try.prog reticulelaw23_alive_E := env_ok tab_ok (by simp) (allFn_mem (show AllFn Try.prog reticulelaw23_alive_fns from ⟨tags_Add_ok, tags_Find_ok, tags_Drop_ok, tags_Sweep_ok, tags_Tags_ok, reticuleref01_Ints_ok, tags_Right_ok, trivial⟩)) mixed (by kernel_rfl) (by kernel_rfl) (by kernel_rfl) (by kernel_rfl)
theorem reticulelaw23_alive_eq (x : Unit) : evF reticulelaw23_alive_E 86 (bd Try.f7) [] [.tmp 0 (.bool, .view)] reticulelaw23_alive_an x = reticulelaw23_alive x := by kernel_rfl
theorem reticulelaw23_alive_ok : FnOk Try.prog 7 { args := [], res := [(.bool, .view)], f := reticulelaw23_alive } :=
  fn_ok reticulelaw23_alive_Eok Try.func7 rfl (by kernel_rfl) (by kernel_rfl) (by kernel_rfl) (rs := [.tmp 0 (.bool, .view)]) (c := bd Try.f7) (an := reticulelaw23_alive_an) (ob_flat _ _ _ _ _ _ _ (by kernel_rfl)) reticulelaw23_alive_eq
/-! reticuleref23_Great: function 8 -/
noncomputable def reticuleref23_Great_fns : List (Nat × Fun) := []
noncomputable def reticuleref23_Great_E : Env := { ty := Re.look tyTab, eq := fun n => memB n [], fn := Re.look reticuleref23_Great_fns, cut := fun n => memB n [], win := fun n => memB n [], one := fun n => memB n [], onc := fun n => memB n [], pre := fun n => memB n [], ptr := fun n => memB n [], psl := fun n => memB n [], parr := Re.look [], mpt := Re.look [], lnd := fun n => memB n [] }
noncomputable def reticuleref23_Great_an : An (Ds ((([.tmp 2 (.bool, .view)] : List RV).map RV.pm).map (·.1) ++ ioTys [.val (.sl T32)])) :=
(.seq (.rg [] none)
(.seq (.seq (.rg [] none)
(.cond (.seq (.rg [] none)
.leaf) .leaf))
(.seq (.seq (.rg [] none)
(.loop [.val 0 (.sl T32), .val 3 (.int .i64)] [] reticuleref23_Great_L0
(.seq (.seq (.rg [] none)
(.cond .leaf .leaf))
(.seq (.block (.seq (.rg [] (some (.op ⟨[], []⟩ (.op ⟨[], []⟩ (.op ⟨[], []⟩ (.op ⟨[], []⟩ (.op ⟨[], []⟩ (.op ⟨[], []⟩ (.op ⟨[], []⟩ (.op ⟨[], []⟩ (.split 20 [(29, .bool)] (.op ⟨[], []⟩ (.op ⟨[], []⟩ (.op ⟨[], []⟩ (.op ⟨[], []⟩ (.op ⟨[], []⟩ (.op ⟨[], []⟩ (.op ⟨[], []⟩ (.op ⟨[], []⟩ (.op ⟨[], []⟩ .done))))))))) .done)))))))))))
(.cond (.seq (.rg [] none)
.leaf) .leaf)))
(.rg [] none)))))
(.seq (.rg [] none)
.leaf))))
theorem reticuleref23_Great_Eok : EnvOk Try.prog reticuleref23_Great_E := env_ok tab_ok (by simp) (allFn_mem (show AllFn Try.prog reticuleref23_Great_fns from trivial)) mixed (by kernel_rfl) (by kernel_rfl) (by kernel_rfl) (by kernel_rfl)
theorem reticuleref23_Great_eq (x : (List (Int × (Int × (List (BitVec 8) × (Int × (List (BitVec 8) × (((Int × (BitVec 64 × (Int × (Int × (Int × Unit))))) × (Int × (Int × (List (BitVec 8) × ((Int × (Int × (Int × Unit))) × Unit))))) × ((Int × (Int × (Int × Unit))) × Unit))))))))) : evF reticuleref23_Great_E 30 (bd Try.f8) [.val (.sl T32)] [.tmp 2 (.bool, .view)] reticuleref23_Great_an x = reticuleref23_Great x := by kernel_rfl
theorem reticuleref23_Great_ok : FnOk Try.prog 8 { args := [.val (.sl T32)], res := [(.bool, .view)], f := reticuleref23_Great } :=
  fn_ok reticuleref23_Great_Eok Try.func8 rfl (by kernel_rfl) (by kernel_rfl) (by kernel_rfl) (rs := [.tmp 2 (.bool, .view)]) (c := bd Try.f8) (an := reticuleref23_Great_an) (show obF reticuleref23_Great_E 30 (bd Try.f8) [.val (.sl T32)] [.tmp 2 (.bool, .view)] reticuleref23_Great_an from (And.intro trivial (And.intro (And.intro trivial (And.intro (And.intro trivial trivial) trivial)) (And.intro (And.intro trivial (And.intro (fun _ => rfl) (And.intro (fun n j => by kernel_rfl) (fun n => (And.intro (And.intro trivial (And.intro trivial trivial)) (And.intro (And.intro trivial (And.intro (And.intro trivial trivial) trivial)) trivial)))))) (And.intro trivial trivial))))) reticuleref23_Great_eq
/-! reticuleref23_Copy: function 9 -/
noncomputable def reticuleref23_Copy_fns : List (Nat × Fun) := []
noncomputable def reticuleref23_Copy_E : Env := { ty := Re.look tyTab, eq := fun n => memB n [], fn := Re.look reticuleref23_Copy_fns, cut := fun n => memB n [], win := fun n => memB n [], one := fun n => memB n [], onc := fun n => memB n [], pre := fun n => memB n [], ptr := fun n => memB n [], psl := fun n => memB n [], parr := Re.look [], mpt := Re.look [], lnd := fun n => memB n [] }
noncomputable def reticuleref23_Copy_an : An (Ds ((([.tmp 2 ((.sl T32), .full)] : List RV).map RV.pm).map (·.1) ++ ioTys [.val (.sl T32)])) :=
(.seq (.rg [] none)
(.seq (.rg [] none)
(.seq (.seq (.rg [] none)
(.loop [.val 0 (.sl T32), .row 3 T32 .full, .val 4 (.int .i64)] [.row 3 T32 .full] reticuleref23_Copy_L0
(.seq (.seq (.rg [] none)
(.cond .leaf .leaf))
(.seq (.block (.seq (.rg [] none)
(.seq (.rg [] none)
(.seq (.rg [] none)
(.rg [] none)))))
(.rg [] none)))))
(.seq (.rg [] none)
.leaf))))
theorem reticuleref23_Copy_Eok : EnvOk Try.prog reticuleref23_Copy_E := env_ok tab_ok (by simp) (allFn_mem (show AllFn Try.prog reticuleref23_Copy_fns from trivial)) mixed (by kernel_rfl) (by kernel_rfl) (by kernel_rfl) (by kernel_rfl)
theorem reticuleref23_Copy_eq (x : (List (Int × (Int × (List (BitVec 8) × (Int × (List (BitVec 8) × (((Int × (BitVec 64 × (Int × (Int × (Int × Unit))))) × (Int × (Int × (List (BitVec 8) × ((Int × (Int × (Int × Unit))) × Unit))))) × ((Int × (Int × (Int × Unit))) × Unit))))))))) : evF reticuleref23_Copy_E 33 (bd Try.f9) [.val (.sl T32)] [.tmp 2 ((.sl T32), .full)] reticuleref23_Copy_an x = reticuleref23_Copy x := by kernel_rfl
theorem reticuleref23_Copy_ok : FnOk Try.prog 9 { args := [.val (.sl T32)], res := [((.sl T32), .full)], f := reticuleref23_Copy } :=
  fn_ok reticuleref23_Copy_Eok Try.func9 rfl (by kernel_rfl) (by kernel_rfl) (by kernel_rfl) (rs := [.tmp 2 ((.sl T32), .full)]) (c := bd Try.f9) (an := reticuleref23_Copy_an) (show obF reticuleref23_Copy_E 33 (bd Try.f9) [.val (.sl T32)] [.tmp 2 ((.sl T32), .full)] reticuleref23_Copy_an from (And.intro trivial (And.intro trivial (And.intro (And.intro trivial (And.intro (fun _ => rfl) (And.intro (fun n j => by kernel_rfl) (fun n => (And.intro (And.intro trivial (And.intro trivial trivial)) (And.intro (And.intro trivial (And.intro trivial (And.intro trivial trivial))) trivial)))))) (And.intro trivial trivial))))) reticuleref23_Copy_eq
/-! reticuleref23_Find: function 16 -/
noncomputable def reticuleref23_Find_fns : List (Nat × Fun) := []
noncomputable def reticuleref23_Find_E : Env := { ty := Re.look tyTab, eq := fun n => memB n [], fn := Re.look reticuleref23_Find_fns, cut := fun n => memB n [], win := fun n => memB n [], one := fun n => memB n [], onc := fun n => memB n [], pre := fun n => memB n [], ptr := fun n => memB n [], psl := fun n => memB n [], parr := Re.look [], mpt := Re.look [], lnd := fun n => memB n [] }
noncomputable def reticuleref23_Find_an : An (Ds ((([.tmp 4 ((.int .i64), .view)] : List RV).map RV.pm).map (·.1) ++ ioTys [.val (.sl T32), .val (.int .i64)])) :=
(.seq (.rg [] none)
(.seq (.seq (.rg [] none)
(.loop [.val 0 (.sl T32), .val 1 (.int .i64), .val 5 (.int .i64)] [] reticuleref23_Find_L0
(.seq (.seq (.rg [] none)
(.cond .leaf .leaf))
(.seq (.block (.seq (.rg [] none)
(.cond (.seq (.rg [] none)
.leaf) .leaf)))
(.rg [] none)))))
(.seq (.rg [] none)
.leaf)))
theorem reticuleref23_Find_Eok : EnvOk Try.prog reticuleref23_Find_E := env_ok tab_ok (by simp) (allFn_mem (show AllFn Try.prog reticuleref23_Find_fns from trivial)) mixed (by kernel_rfl) (by kernel_rfl) (by kernel_rfl) (by kernel_rfl)
theorem reticuleref23_Find_eq (x : (List (Int × (Int × (List (BitVec 8) × (Int × (List (BitVec 8) × (((Int × (BitVec 64 × (Int × (Int × (Int × Unit))))) × (Int × (Int × (List (BitVec 8) × ((Int × (Int × (Int × Unit))) × Unit))))) × ((Int × (Int × (Int × Unit))) × Unit)))))))) × Int) : evF reticuleref23_Find_E 20 (bd Try.f16) [.val (.sl T32), .val (.int .i64)] [.tmp 4 ((.int .i64), .view)] reticuleref23_Find_an x = reticuleref23_Find x := by kernel_rfl
theorem reticuleref23_Find_ok : FnOk Try.prog 16 { args := [.val (.sl T32), .val (.int .i64)], res := [((.int .i64), .view)], f := reticuleref23_Find } :=
  fn_ok reticuleref23_Find_Eok Try.func16 rfl (by kernel_rfl) (by kernel_rfl) (by kernel_rfl) (rs := [.tmp 4 ((.int .i64), .view)]) (c := bd Try.f16) (an := reticuleref23_Find_an) (show obF reticuleref23_Find_E 20 (bd Try.f16) [.val (.sl T32), .val (.int .i64)] [.tmp 4 ((.int .i64), .view)] reticuleref23_Find_an from (And.intro trivial (And.intro (And.intro trivial (And.intro (fun _ => rfl) (And.intro (fun n j => by kernel_rfl) (fun n => (And.intro (And.intro trivial (And.intro trivial trivial)) (And.intro (And.intro trivial (And.intro (And.intro trivial trivial) trivial)) trivial)))))) (And.intro trivial trivial)))) reticuleref23_Find_eq
/-! reticuleref23_Add: function 11 -/
noncomputable def reticuleref23_Add_fns : List (Nat × Fun) := [(16, { args := [.val (.sl T32), .val (.int .i64)], res := [((.int .i64), .view)], f := reticuleref23_Find })]
noncomputable def reticuleref23_Add_E : Env := { ty := Re.look tyTab, eq := fun n => memB n [], fn := Re.look reticuleref23_Add_fns, cut := fun n => memB n [], win := fun n => memB n [], one := fun n => memB n [], onc := fun n => memB n [], pre := fun n => memB n [], ptr := fun n => memB n [], psl := fun n => memB n [], parr := Re.look [], mpt := Re.look [], lnd := fun n => memB n [] }
noncomputable def reticuleref23_Add_an : An (Ds ((([.tmp 6 ((.sl T32), .view), .tmp 7 ((.int .i64), .view)] : List RV).map RV.pm).map (·.1) ++ ioTys [.val (.sl T32), .val T32, .val (.int .i64)])) :=
(.seq (.rg [] none)
(.seq (.seq (.rg [] (some (.op ⟨[64], []⟩ (.op ⟨[64], []⟩ (.op ⟨[], []⟩ (.op ⟨[], []⟩ (.split 11 [(15, .bool)] (.op ⟨[64], []⟩ (.op ⟨[64], []⟩ (.op ⟨[], []⟩ (.op ⟨[], []⟩ .done)))) .done)))))))
(.cond (.seq (.rg [] none)
.leaf) .leaf))
(.seq (.seq (.rg [] none)
(.cond (.seq (.rg [] none)
.leaf) .leaf))
(.seq (.seq (.rg [] (some (.op ⟨[], []⟩ (.op ⟨[], []⟩ (.op ⟨[], []⟩ (.op ⟨[], []⟩ (.op ⟨[], []⟩ (.split 27 [(31, .bool)] (.op ⟨[], []⟩ (.op ⟨[], []⟩ (.op ⟨[], []⟩ (.op ⟨[], []⟩ .done)))) .done))))))))
(.cond (.seq (.rg [] none)
.leaf) .leaf))
(.seq (.rg [] (some (.op ⟨[528], [528]⟩ (.op ⟨[], []⟩ (.op ⟨[528, 560], [528, 560]⟩ (.op ⟨[64], []⟩ (.op ⟨[592], [592]⟩ (.op ⟨[560, 592, 608], [560, 608]⟩ (.op ⟨[], []⟩ (.op ⟨[], []⟩ .done))))))))))
.leaf)))))
theorem reticuleref23_Add_Eok : EnvOk Try.prog reticuleref23_Add_E := env_ok tab_ok (by simp) (allFn_mem (show AllFn Try.prog reticuleref23_Add_fns from ⟨reticuleref23_Find_ok, trivial⟩)) mixed (by kernel_rfl) (by kernel_rfl) (by kernel_rfl) (by kernel_rfl)
theorem reticuleref23_Add_eq (x : (List (Int × (Int × (List (BitVec 8) × (Int × (List (BitVec 8) × (((Int × (BitVec 64 × (Int × (Int × (Int × Unit))))) × (Int × (Int × (List (BitVec 8) × ((Int × (Int × (Int × Unit))) × Unit))))) × ((Int × (Int × (Int × Unit))) × Unit)))))))) × (Int × (Int × (List (BitVec 8) × (Int × (List (BitVec 8) × (((Int × (BitVec 64 × (Int × (Int × (Int × Unit))))) × (Int × (Int × (List (BitVec 8) × ((Int × (Int × (Int × Unit))) × Unit))))) × ((Int × (Int × (Int × Unit))) × Unit))))))) × Int) : evF reticuleref23_Add_E 39 (bd Try.f11) [.val (.sl T32), .val T32, .val (.int .i64)] [.tmp 6 ((.sl T32), .view), .tmp 7 ((.int .i64), .view)] reticuleref23_Add_an x = reticuleref23_Add x := by kernel_rfl
theorem reticuleref23_Add_ok : FnOk Try.prog 11 { args := [.val (.sl T32), .val T32, .val (.int .i64)], res := [((.sl T32), .view), ((.int .i64), .view)], f := reticuleref23_Add } :=
  fn_ok reticuleref23_Add_Eok Try.func11 rfl (by kernel_rfl) (by kernel_rfl) (by kernel_rfl) (rs := [.tmp 6 ((.sl T32), .view), .tmp 7 ((.int .i64), .view)]) (c := bd Try.f11) (an := reticuleref23_Add_an) (ob_flat _ _ _ _ _ _ _ (by kernel_rfl)) reticuleref23_Add_eq
/-! reticuleref10_Same: function 37 -/
noncomputable def reticuleref10_Same_fns : List (Nat × Fun) := []
noncomputable def reticuleref10_Same_E : Env := { ty := Re.look tyTab, eq := fun n => memB n [27, 29], fn := Re.look reticuleref10_Same_fns, cut := fun n => memB n [], win := fun n => memB n [], one := fun n => memB n [], onc := fun n => memB n [], pre := fun n => memB n [], ptr := fun n => memB n [], psl := fun n => memB n [], parr := Re.look [], mpt := Re.look [], lnd := fun n => memB n [] }
noncomputable def reticuleref10_Same_an : An (Ds ((([.tmp 4 (.bool, .view)] : List RV).map RV.pm).map (·.1) ++ ioTys [.val T30, .val T30])) :=
(.seq (.rg [] none)
(.seq (.rg [] (some (.op ⟨[32], []⟩ (.op ⟨[32], []⟩ (.op ⟨[48], []⟩ (.op ⟨[48], []⟩ (.op ⟨[], []⟩ (.op ⟨[], []⟩ (.split 10 [(16, .bool)] (.op ⟨[32], []⟩ (.op ⟨[32], []⟩ (.op ⟨[48], []⟩ (.op ⟨[48], []⟩ (.op ⟨[], []⟩ (.op ⟨[], []⟩ .done)))))) (.op ⟨[], []⟩ (.split 17 [(23, .bool)] (.op ⟨[32], []⟩ (.op ⟨[32], []⟩ (.op ⟨[48], []⟩ (.op ⟨[48], []⟩ (.op ⟨[], []⟩ (.op ⟨[], []⟩ .done)))))) (.op ⟨[], []⟩ (.split 24 [(32, .bool)] (.op ⟨[32], []⟩ (.op ⟨[32], []⟩ (.op ⟨[], []⟩ (.op ⟨[48], []⟩ (.op ⟨[48], []⟩ (.op ⟨[], []⟩ (.op ⟨[], []⟩ (.op ⟨[], []⟩ .done)))))))) (.op ⟨[], []⟩ (.split 33 [(39, .bool)] (.op ⟨[32], []⟩ (.op ⟨[32], []⟩ (.op ⟨[48], []⟩ (.op ⟨[48], []⟩ (.op ⟨[], []⟩ (.op ⟨[], []⟩ .done)))))) (.op ⟨[], []⟩ .done))))))))))))))))
.leaf))
theorem reticuleref10_Same_Eok : EnvOk Try.prog reticuleref10_Same_E := env_ok tab_ok (by intro t h; simp only [List.mem_cons, List.mem_nil_iff, or_false, List.not_mem_nil] at h; rcases h with rfl | rfl <;> exact ⟨by kernel_rfl, by kernel_rfl, by kernel_rfl⟩) (allFn_mem (show AllFn Try.prog reticuleref10_Same_fns from trivial)) mixed (by kernel_rfl) (by kernel_rfl) (by kernel_rfl) (by kernel_rfl)
theorem reticuleref10_Same_eq (x : ((Int × (BitVec 64 × (Int × (Int × (Int × Unit))))) × (Int × (Int × (List (BitVec 8) × ((Int × (Int × (Int × Unit))) × Unit))))) × ((Int × (BitVec 64 × (Int × (Int × (Int × Unit))))) × (Int × (Int × (List (BitVec 8) × ((Int × (Int × (Int × Unit))) × Unit)))))) : evF reticuleref10_Same_E 40 (bd Try.f37) [.val T30, .val T30] [.tmp 4 (.bool, .view)] reticuleref10_Same_an x = reticuleref10_Same x := by kernel_rfl
theorem reticuleref10_Same_ok : FnOk Try.prog 37 { args := [.val T30, .val T30], res := [(.bool, .view)], f := reticuleref10_Same } :=
  fn_ok reticuleref10_Same_Eok Try.func37 rfl (by kernel_rfl) (by kernel_rfl) (by kernel_rfl) (rs := [.tmp 4 (.bool, .view)]) (c := bd Try.f37) (an := reticuleref10_Same_an) (ob_flat _ _ _ _ _ _ _ (by kernel_rfl)) reticuleref10_Same_eq
/-! reticuleref23_One: function 28 -/
noncomputable def reticuleref23_One_fns : List (Nat × Fun) := [(37, { args := [.val T30, .val T30], res := [(.bool, .view)], f := reticuleref10_Same })]
noncomputable def reticuleref23_One_E : Env := { ty := Re.look tyTab, eq := fun n => memB n [23, 29], fn := Re.look reticuleref23_One_fns, cut := fun n => memB n [], win := fun n => memB n [], one := fun n => memB n [], onc := fun n => memB n [], pre := fun n => memB n [], ptr := fun n => memB n [], psl := fun n => memB n [], parr := Re.look [], mpt := Re.look [], lnd := fun n => memB n [] }
noncomputable def reticuleref23_One_an : An (Ds ((([.tmp 4 (.bool, .view)] : List RV).map RV.pm).map (·.1) ++ ioTys [.val T32, .val T32])) :=
(.seq (.rg [] none)
(.seq (.rg [] (some (.op ⟨[32], []⟩ (.op ⟨[32], []⟩ (.op ⟨[48], []⟩ (.op ⟨[48], []⟩ (.op ⟨[], []⟩ (.op ⟨[], []⟩ (.split 10 [(16, .bool)] (.op ⟨[32], []⟩ (.op ⟨[32], []⟩ (.op ⟨[48], []⟩ (.op ⟨[48], []⟩ (.op ⟨[], []⟩ (.op ⟨[], []⟩ .done)))))) (.op ⟨[], []⟩ (.split 17 [(23, .bool)] (.op ⟨[32], []⟩ (.op ⟨[32], []⟩ (.op ⟨[48], []⟩ (.op ⟨[48], []⟩ (.op ⟨[], []⟩ (.op ⟨[], []⟩ .done)))))) (.op ⟨[], []⟩ (.split 24 [(30, .bool)] (.op ⟨[32], []⟩ (.op ⟨[32], []⟩ (.op ⟨[48], []⟩ (.op ⟨[48], []⟩ (.op ⟨[], []⟩ (.op ⟨[], []⟩ .done)))))) (.op ⟨[], []⟩ (.split 31 [(39, .bool)] (.op ⟨[32], []⟩ (.op ⟨[32], []⟩ (.op ⟨[], []⟩ (.op ⟨[48], []⟩ (.op ⟨[48], []⟩ (.op ⟨[], []⟩ (.op ⟨[], []⟩ (.op ⟨[], []⟩ .done)))))))) (.op ⟨[], []⟩ (.split 40 [(46, .bool)] (.op ⟨[32], []⟩ (.op ⟨[32], []⟩ (.op ⟨[48], []⟩ (.op ⟨[48], []⟩ (.op ⟨[], []⟩ (.op ⟨[], []⟩ .done)))))) (.op ⟨[], []⟩ (.split 47 [(53, .bool)] (.op ⟨[32], []⟩ (.op ⟨[32], []⟩ (.op ⟨[48], []⟩ (.op ⟨[48], []⟩ (.op ⟨[832], []⟩ (.op ⟨[], []⟩ .done)))))) (.op ⟨[], []⟩ .done))))))))))))))))))))
.leaf))
theorem reticuleref23_One_Eok : EnvOk Try.prog reticuleref23_One_E := env_ok tab_ok (by intro t h; simp only [List.mem_cons, List.mem_nil_iff, or_false, List.not_mem_nil] at h; rcases h with rfl | rfl <;> exact ⟨by kernel_rfl, by kernel_rfl, by kernel_rfl⟩) (allFn_mem (show AllFn Try.prog reticuleref23_One_fns from ⟨reticuleref10_Same_ok, trivial⟩)) mixed (by kernel_rfl) (by kernel_rfl) (by kernel_rfl) (by kernel_rfl)
theorem reticuleref23_One_eq (x : (Int × (Int × (List (BitVec 8) × (Int × (List (BitVec 8) × (((Int × (BitVec 64 × (Int × (Int × (Int × Unit))))) × (Int × (Int × (List (BitVec 8) × ((Int × (Int × (Int × Unit))) × Unit))))) × ((Int × (Int × (Int × Unit))) × Unit))))))) × (Int × (Int × (List (BitVec 8) × (Int × (List (BitVec 8) × (((Int × (BitVec 64 × (Int × (Int × (Int × Unit))))) × (Int × (Int × (List (BitVec 8) × ((Int × (Int × (Int × Unit))) × Unit))))) × ((Int × (Int × (Int × Unit))) × Unit)))))))) : evF reticuleref23_One_E 54 (bd Try.f28) [.val T32, .val T32] [.tmp 4 (.bool, .view)] reticuleref23_One_an x = reticuleref23_One x := by kernel_rfl
theorem reticuleref23_One_ok : FnOk Try.prog 28 { args := [.val T32, .val T32], res := [(.bool, .view)], f := reticuleref23_One } :=
  fn_ok reticuleref23_One_Eok Try.func28 rfl (by kernel_rfl) (by kernel_rfl) (by kernel_rfl) (rs := [.tmp 4 (.bool, .view)]) (c := bd Try.f28) (an := reticuleref23_One_an) (ob_flat _ _ _ _ _ _ _ (by kernel_rfl)) reticuleref23_One_eq
/-! reticuleref23_Same: function 12 -/
noncomputable def reticuleref23_Same_fns : List (Nat × Fun) := [(28, { args := [.val T32, .val T32], res := [(.bool, .view)], f := reticuleref23_One })]
noncomputable def reticuleref23_Same_E : Env := { ty := Re.look tyTab, eq := fun n => memB n [], fn := Re.look reticuleref23_Same_fns, cut := fun n => memB n [], win := fun n => memB n [], one := fun n => memB n [], onc := fun n => memB n [], pre := fun n => memB n [], ptr := fun n => memB n [], psl := fun n => memB n [], parr := Re.look [], mpt := Re.look [], lnd := fun n => memB n [] }
noncomputable def reticuleref23_Same_an : An (Ds ((([.tmp 4 (.bool, .view)] : List RV).map RV.pm).map (·.1) ++ ioTys [.val (.sl T32), .val (.sl T32)])) :=
(.seq (.rg [] none)
(.seq (.seq (.rg [] none)
(.cond (.seq (.rg [] none)
.leaf) .leaf))
(.seq (.seq (.rg [] none)
(.loop [.val 0 (.sl T32), .val 1 (.sl T32), .val 5 (.int .i64)] [] reticuleref23_Same_L0
(.seq (.seq (.rg [] none)
(.cond .leaf .leaf))
(.seq (.block (.seq (.rg [] (some (.op ⟨[], []⟩ (.op ⟨[], []⟩ (.op ⟨[], []⟩ (.op ⟨[], []⟩ (.op ⟨[], []⟩ (.op ⟨[], []⟩ (.op ⟨[], []⟩ (.op ⟨[], []⟩ (.op ⟨[400], []⟩ (.op ⟨[], []⟩ .done))))))))))))
(.cond (.seq (.rg [] none)
.leaf) .leaf)))
(.rg [] none)))))
(.seq (.rg [] none)
.leaf))))
theorem reticuleref23_Same_Eok : EnvOk Try.prog reticuleref23_Same_E := env_ok tab_ok (by simp) (allFn_mem (show AllFn Try.prog reticuleref23_Same_fns from ⟨reticuleref23_One_ok, trivial⟩)) mixed (by kernel_rfl) (by kernel_rfl) (by kernel_rfl) (by kernel_rfl)
theorem reticuleref23_Same_eq (x : (List (Int × (Int × (List (BitVec 8) × (Int × (List (BitVec 8) × (((Int × (BitVec 64 × (Int × (Int × (Int × Unit))))) × (Int × (Int × (List (BitVec 8) × ((Int × (Int × (Int × Unit))) × Unit))))) × ((Int × (Int × (Int × Unit))) × Unit)))))))) × (List (Int × (Int × (List (BitVec 8) × (Int × (List (BitVec 8) × (((Int × (BitVec 64 × (Int × (Int × (Int × Unit))))) × (Int × (Int × (List (BitVec 8) × ((Int × (Int × (Int × Unit))) × Unit))))) × ((Int × (Int × (Int × Unit))) × Unit))))))))) : evF reticuleref23_Same_E 27 (bd Try.f12) [.val (.sl T32), .val (.sl T32)] [.tmp 4 (.bool, .view)] reticuleref23_Same_an x = reticuleref23_Same x := by kernel_rfl
theorem reticuleref23_Same_ok : FnOk Try.prog 12 { args := [.val (.sl T32), .val (.sl T32)], res := [(.bool, .view)], f := reticuleref23_Same } :=
  fn_ok reticuleref23_Same_Eok Try.func12 rfl (by kernel_rfl) (by kernel_rfl) (by kernel_rfl) (rs := [.tmp 4 (.bool, .view)]) (c := bd Try.f12) (an := reticuleref23_Same_an) (show obF reticuleref23_Same_E 27 (bd Try.f12) [.val (.sl T32), .val (.sl T32)] [.tmp 4 (.bool, .view)] reticuleref23_Same_an from (And.intro trivial (And.intro (And.intro trivial (And.intro (And.intro trivial trivial) trivial)) (And.intro (And.intro trivial (And.intro (fun _ => rfl) (And.intro (fun n j => by kernel_rfl) (fun n => (And.intro (And.intro trivial (And.intro trivial trivial)) (And.intro (And.intro trivial (And.intro (And.intro trivial trivial) trivial)) trivial)))))) (And.intro trivial trivial))))) reticuleref23_Same_eq
/-! reticuleref23_Right: function 14 -/
noncomputable def reticuleref23_Right_fns : List (Nat × Fun) := [(16, { args := [.val (.sl T32), .val (.int .i64)], res := [((.int .i64), .view)], f := reticuleref23_Find })]
noncomputable def reticuleref23_Right_E : Env := { ty := Re.look tyTab, eq := fun n => memB n [], fn := Re.look reticuleref23_Right_fns, cut := fun n => memB n [], win := fun n => memB n [], one := fun n => memB n [], onc := fun n => memB n [], pre := fun n => memB n [], ptr := fun n => memB n [], psl := fun n => memB n [], parr := Re.look [], mpt := Re.look [], lnd := fun n => memB n [] }
noncomputable def reticuleref23_Right_an : An (Ds ((([.tmp 2 (.bool, .view)] : List RV).map RV.pm).map (·.1) ++ ioTys [.val (.sl T32)])) :=
(.seq (.rg [] none)
(.seq (.seq (.rg [] none)
(.cond (.seq (.rg [] none)
.leaf) .leaf))
(.seq (.seq (.rg [] none)
(.loop [.val 0 (.sl T32), .val 3 (.int .i64)] [] reticuleref23_Right_L0
(.seq (.seq (.rg [] none)
(.cond .leaf .leaf))
(.seq (.block (.seq (.rg [] (some (.op ⟨[], []⟩ (.op ⟨[], []⟩ (.op ⟨[], []⟩ (.op ⟨[], []⟩ (.op ⟨[], []⟩ (.op ⟨[], []⟩ (.op ⟨[], []⟩ (.split 19 [(26, .bool)] (.op ⟨[], []⟩ (.op ⟨[], []⟩ (.op ⟨[], []⟩ (.op ⟨[], []⟩ (.op ⟨[], []⟩ (.op ⟨[], []⟩ (.op ⟨[], []⟩ .done))))))) (.op ⟨[], []⟩ (.split 27 [(37, .bool)] (.op ⟨[], []⟩ (.op ⟨[], []⟩ (.op ⟨[], []⟩ (.op ⟨[], []⟩ (.op ⟨[], []⟩ (.op ⟨[], []⟩ (.op ⟨[544], []⟩ (.op ⟨[], []⟩ (.op ⟨[], []⟩ (.op ⟨[], []⟩ .done)))))))))) .done))))))))))))
(.cond (.seq (.rg [] none)
.leaf) .leaf)))
(.rg [] none)))))
(.seq (.rg [] none)
.leaf))))
theorem reticuleref23_Right_Eok : EnvOk Try.prog reticuleref23_Right_E := env_ok tab_ok (by simp) (allFn_mem (show AllFn Try.prog reticuleref23_Right_fns from ⟨reticuleref23_Find_ok, trivial⟩)) mixed (by kernel_rfl) (by kernel_rfl) (by kernel_rfl) (by kernel_rfl)
theorem reticuleref23_Right_eq (x : (List (Int × (Int × (List (BitVec 8) × (Int × (List (BitVec 8) × (((Int × (BitVec 64 × (Int × (Int × (Int × Unit))))) × (Int × (Int × (List (BitVec 8) × ((Int × (Int × (Int × Unit))) × Unit))))) × ((Int × (Int × (Int × Unit))) × Unit))))))))) : evF reticuleref23_Right_E 38 (bd Try.f14) [.val (.sl T32)] [.tmp 2 (.bool, .view)] reticuleref23_Right_an x = reticuleref23_Right x := by kernel_rfl
theorem reticuleref23_Right_ok : FnOk Try.prog 14 { args := [.val (.sl T32)], res := [(.bool, .view)], f := reticuleref23_Right } :=
  fn_ok reticuleref23_Right_Eok Try.func14 rfl (by kernel_rfl) (by kernel_rfl) (by kernel_rfl) (rs := [.tmp 2 (.bool, .view)]) (c := bd Try.f14) (an := reticuleref23_Right_an) (show obF reticuleref23_Right_E 38 (bd Try.f14) [.val (.sl T32)] [.tmp 2 (.bool, .view)] reticuleref23_Right_an from (And.intro trivial (And.intro (And.intro trivial (And.intro (And.intro trivial trivial) trivial)) (And.intro (And.intro trivial (And.intro (fun _ => rfl) (And.intro (fun n j => by kernel_rfl) (fun n => (And.intro (And.intro trivial (And.intro trivial trivial)) (And.intro (And.intro trivial (And.intro (And.intro trivial trivial) trivial)) trivial)))))) (And.intro trivial trivial))))) reticuleref23_Right_eq
/-! reticulelaw23_TagsAdds: function 3 -/
noncomputable def reticulelaw23_TagsAdds_fns : List (Nat × Fun) := [(7, { args := [], res := [(.bool, .view)], f := reticulelaw23_alive }), (8, { args := [.val (.sl T32)], res := [(.bool, .view)], f := reticuleref23_Great }), (9, { args := [.val (.sl T32)], res := [((.sl T32), .full)], f := reticuleref23_Copy }), (10, { args := [.val (.sl T32), .val T32, .val (.int .i64)], res := [((.sl T32), .view), ((.int .i64), .view)], f := tags_Add }), (11, { args := [.val (.sl T32), .val T32, .val (.int .i64)], res := [((.sl T32), .view), ((.int .i64), .view)], f := reticuleref23_Add }), (12, { args := [.val (.sl T32), .val (.sl T32)], res := [(.bool, .view)], f := reticuleref23_Same }), (13, { args := [.val (.sl T32)], res := [(.bool, .view)], f := tags_Right }), (14, { args := [.val (.sl T32)], res := [(.bool, .view)], f := reticuleref23_Right })]
noncomputable def reticulelaw23_TagsAdds_E : Env := { ty := Re.look tyTab, eq := fun n => memB n [], fn := Re.look reticulelaw23_TagsAdds_fns, cut := fun n => memB n [], win := fun n => memB n [], one := fun n => memB n [], onc := fun n => memB n [], pre := fun n => memB n [], ptr := fun n => memB n [], psl := fun n => memB n [], parr := Re.look [], mpt := Re.look [], lnd := fun n => memB n [] }
noncomputable def reticulelaw23_TagsAdds_an : An (Ds ((([.tmp 6 (.bool, .view)] : List RV).map RV.pm).map (·.1) ++ ioTys [.val (.sl T32), .val T32, .val (.int .i64)])) :=
(.seq (.rg [] none)
(.seq (.seq (.rg [] none)
(.cond (.seq (.rg [] none)
.leaf) .leaf))
(.seq (.seq (.rg [288] (some (.op ⟨[], []⟩ (.op ⟨[240], []⟩ (.op ⟨[], []⟩ (.split 16 [(20, .bool)] (.op ⟨[64], []⟩ (.op ⟨[288], [288]⟩ (.op ⟨[288, 304], [288]⟩ (.op ⟨[], []⟩ .done)))) .done))))))
(.cond (.seq (.rg [] none)
.leaf) .leaf))
(.seq (.rg [] none)
(.seq (.rg [] none)
(.seq (.rg [] none)
(.seq (.rg [] (some (.op ⟨[], []⟩ (.op ⟨[], []⟩ (.op ⟨[624], []⟩ (.op ⟨[], []⟩ (.split 40 [(44, .bool)] (.op ⟨[], []⟩ (.op ⟨[], []⟩ (.op ⟨[], []⟩ (.op ⟨[], []⟩ .done)))) (.op ⟨[], []⟩ (.split 45 [(49, .bool)] (.op ⟨[], []⟩ (.op ⟨[], []⟩ (.op ⟨[352, 768], []⟩ (.op ⟨[], []⟩ .done)))) (.op ⟨[], []⟩ (.split 50 [(56, .bool)] (.op ⟨[], []⟩ (.op ⟨[832], []⟩ (.op ⟨[], []⟩ (.op ⟨[864], []⟩ (.op ⟨[], []⟩ (.op ⟨[], []⟩ .done)))))) (.op ⟨[], []⟩ .done))))))))))))
.leaf)))))))
theorem reticulelaw23_TagsAdds_Eok : EnvOk Try.prog reticulelaw23_TagsAdds_E := env_ok tab_ok (by simp) (allFn_mem (show AllFn Try.prog reticulelaw23_TagsAdds_fns from ⟨reticulelaw23_alive_ok, reticuleref23_Great_ok, reticuleref23_Copy_ok, tags_Add_ok, reticuleref23_Add_ok, reticuleref23_Same_ok, tags_Right_ok, reticuleref23_Right_ok, trivial⟩)) mixed (by kernel_rfl) (by kernel_rfl) (by kernel_rfl) (by kernel_rfl)
theorem reticulelaw23_TagsAdds_eq (x : (List (Int × (Int × (List (BitVec 8) × (Int × (List (BitVec 8) × (((Int × (BitVec 64 × (Int × (Int × (Int × Unit))))) × (Int × (Int × (List (BitVec 8) × ((Int × (Int × (Int × Unit))) × Unit))))) × ((Int × (Int × (Int × Unit))) × Unit)))))))) × (Int × (Int × (List (BitVec 8) × (Int × (List (BitVec 8) × (((Int × (BitVec 64 × (Int × (Int × (Int × Unit))))) × (Int × (Int × (List (BitVec 8) × ((Int × (Int × (Int × Unit))) × Unit))))) × ((Int × (Int × (Int × Unit))) × Unit))))))) × Int) : evF reticulelaw23_TagsAdds_E 57 (bd Try.f3) [.val (.sl T32), .val T32, .val (.int .i64)] [.tmp 6 (.bool, .view)] reticulelaw23_TagsAdds_an x = reticulelaw23_TagsAdds x := by kernel_rfl
theorem reticulelaw23_TagsAdds_ok : FnOk Try.prog 3 { args := [.val (.sl T32), .val T32, .val (.int .i64)], res := [(.bool, .view)], f := reticulelaw23_TagsAdds } :=
  fn_ok reticulelaw23_TagsAdds_Eok Try.func3 rfl (by kernel_rfl) (by kernel_rfl) (by kernel_rfl) (rs := [.tmp 6 (.bool, .view)]) (c := bd Try.f3) (an := reticulelaw23_TagsAdds_an) (ob_flat _ _ _ _ _ _ _ (by kernel_rfl)) reticulelaw23_TagsAdds_eq
/-! reticuleref23_Drop: function 18 -/
noncomputable def reticuleref23_Drop_fns : List (Nat × Fun) := []
noncomputable def reticuleref23_Drop_E : Env := { ty := Re.look tyTab, eq := fun n => memB n [], fn := Re.look reticuleref23_Drop_fns, cut := fun n => memB n [], win := fun n => memB n [], one := fun n => memB n [], onc := fun n => memB n [], pre := fun n => memB n [], ptr := fun n => memB n [], psl := fun n => memB n [], parr := Re.look [], mpt := Re.look [], lnd := fun n => memB n [] }
noncomputable def reticuleref23_Drop_an : An (Ds ((([.tmp 4 ((.sl T32), .full)] : List RV).map RV.pm).map (·.1) ++ ioTys [.val (.sl T32), .val (.int .i64)])) :=
(.seq (.rg [] none)
(.seq (.rg [] none)
(.seq (.seq (.rg [] none)
(.loop [.val 0 (.sl T32), .val 1 (.int .i64), .row 5 T32 .full, .val 6 (.int .i64)] [.row 5 T32 .full] reticuleref23_Drop_L0
(.seq (.seq (.rg [] none)
(.cond .leaf .leaf))
(.join [.val 0 (.sl T32), .val 1 (.int .i64), .row 5 T32 .full, .val 6 (.int .i64)]
(.block (.seq (.rg [] none)
(.cond (.rg [] none) .leaf)))
(.rg [] none)))))
(.seq (.rg [] none)
.leaf))))
theorem reticuleref23_Drop_Eok : EnvOk Try.prog reticuleref23_Drop_E := env_ok tab_ok (by simp) (allFn_mem (show AllFn Try.prog reticuleref23_Drop_fns from trivial)) mixed (by kernel_rfl) (by kernel_rfl) (by kernel_rfl) (by kernel_rfl)
theorem reticuleref23_Drop_eq (x : (List (Int × (Int × (List (BitVec 8) × (Int × (List (BitVec 8) × (((Int × (BitVec 64 × (Int × (Int × (Int × Unit))))) × (Int × (Int × (List (BitVec 8) × ((Int × (Int × (Int × Unit))) × Unit))))) × ((Int × (Int × (Int × Unit))) × Unit)))))))) × Int) : evF reticuleref23_Drop_E 28 (bd Try.f18) [.val (.sl T32), .val (.int .i64)] [.tmp 4 ((.sl T32), .full)] reticuleref23_Drop_an x = reticuleref23_Drop x := by kernel_rfl
theorem reticuleref23_Drop_ok : FnOk Try.prog 18 { args := [.val (.sl T32), .val (.int .i64)], res := [((.sl T32), .full)], f := reticuleref23_Drop } :=
  fn_ok reticuleref23_Drop_Eok Try.func18 rfl (by kernel_rfl) (by kernel_rfl) (by kernel_rfl) (rs := [.tmp 4 ((.sl T32), .full)]) (c := bd Try.f18) (an := reticuleref23_Drop_an) (show obF reticuleref23_Drop_E 28 (bd Try.f18) [.val (.sl T32), .val (.int .i64)] [.tmp 4 ((.sl T32), .full)] reticuleref23_Drop_an from (And.intro trivial (And.intro trivial (And.intro (And.intro trivial (And.intro (fun _ => rfl) (And.intro (fun n j => by kernel_rfl) (fun n => (And.intro (And.intro trivial (And.intro trivial trivial)) (And.intro (And.intro trivial (And.intro trivial trivial)) trivial)))))) (And.intro trivial trivial))))) reticuleref23_Drop_eq
/-! reticuleref23_Sweep: function 20 -/
noncomputable def reticuleref23_Sweep_fns : List (Nat × Fun) := []
noncomputable def reticuleref23_Sweep_E : Env := { ty := Re.look tyTab, eq := fun n => memB n [], fn := Re.look reticuleref23_Sweep_fns, cut := fun n => memB n [], win := fun n => memB n [], one := fun n => memB n [], onc := fun n => memB n [], pre := fun n => memB n [], ptr := fun n => memB n [], psl := fun n => memB n [], parr := Re.look [], mpt := Re.look [], lnd := fun n => memB n [] }
noncomputable def reticuleref23_Sweep_an : An (Ds ((([.tmp 4 ((.sl T32), .full)] : List RV).map RV.pm).map (·.1) ++ ioTys [.val (.sl T32), .val (.int .i64)])) :=
(.seq (.rg [] none)
(.seq (.rg [] none)
(.seq (.seq (.rg [] none)
(.loop [.val 0 (.sl T32), .val 1 (.int .i64), .row 5 T32 .full, .val 6 (.int .i64)] [.row 5 T32 .full] reticuleref23_Sweep_L0
(.seq (.seq (.rg [] none)
(.cond .leaf .leaf))
(.join [.val 0 (.sl T32), .val 1 (.int .i64), .row 5 T32 .full, .val 6 (.int .i64)]
(.block (.seq (.rg [] (some (.op ⟨[], []⟩ (.op ⟨[], []⟩ (.op ⟨[], []⟩ (.split 15 [(23, .bool)] (.op ⟨[], []⟩ (.op ⟨[], []⟩ (.op ⟨[], []⟩ (.op ⟨[], []⟩ (.op ⟨[], []⟩ (.op ⟨[], []⟩ (.op ⟨[], []⟩ (.op ⟨[], []⟩ .done)))))))) .done))))))
(.cond (.rg [] none) .leaf)))
(.rg [] none)))))
(.seq (.rg [] none)
.leaf))))
theorem reticuleref23_Sweep_Eok : EnvOk Try.prog reticuleref23_Sweep_E := env_ok tab_ok (by simp) (allFn_mem (show AllFn Try.prog reticuleref23_Sweep_fns from trivial)) mixed (by kernel_rfl) (by kernel_rfl) (by kernel_rfl) (by kernel_rfl)
theorem reticuleref23_Sweep_eq (x : (List (Int × (Int × (List (BitVec 8) × (Int × (List (BitVec 8) × (((Int × (BitVec 64 × (Int × (Int × (Int × Unit))))) × (Int × (Int × (List (BitVec 8) × ((Int × (Int × (Int × Unit))) × Unit))))) × ((Int × (Int × (Int × Unit))) × Unit)))))))) × Int) : evF reticuleref23_Sweep_E 32 (bd Try.f20) [.val (.sl T32), .val (.int .i64)] [.tmp 4 ((.sl T32), .full)] reticuleref23_Sweep_an x = reticuleref23_Sweep x := by kernel_rfl
theorem reticuleref23_Sweep_ok : FnOk Try.prog 20 { args := [.val (.sl T32), .val (.int .i64)], res := [((.sl T32), .full)], f := reticuleref23_Sweep } :=
  fn_ok reticuleref23_Sweep_Eok Try.func20 rfl (by kernel_rfl) (by kernel_rfl) (by kernel_rfl) (rs := [.tmp 4 ((.sl T32), .full)]) (c := bd Try.f20) (an := reticuleref23_Sweep_an) (show obF reticuleref23_Sweep_E 32 (bd Try.f20) [.val (.sl T32), .val (.int .i64)] [.tmp 4 ((.sl T32), .full)] reticuleref23_Sweep_an from (And.intro trivial (And.intro trivial (And.intro (And.intro trivial (And.intro (fun _ => rfl) (And.intro (fun n j => by kernel_rfl) (fun n => (And.intro (And.intro trivial (And.intro trivial trivial)) (And.intro (And.intro trivial (And.intro trivial trivial)) trivial)))))) (And.intro trivial trivial))))) reticuleref23_Sweep_eq
/-! reticuleref23_Tags: function 23 -/
noncomputable def reticuleref23_Tags_fns : List (Nat × Fun) := []
noncomputable def reticuleref23_Tags_E : Env := { ty := Re.look tyTab, eq := fun n => memB n [], fn := Re.look reticuleref23_Tags_fns, cut := fun n => memB n [], win := fun n => memB n [], one := fun n => memB n [], onc := fun n => memB n [], pre := fun n => memB n [], ptr := fun n => memB n [], psl := fun n => memB n [], parr := Re.look [], mpt := Re.look [], lnd := fun n => memB n [] }
noncomputable def reticuleref23_Tags_an : An (Ds ((([.tmp 2 ((.sl (.int .i64)), .full)] : List RV).map RV.pm).map (·.1) ++ ioTys [.val (.sl T32)])) :=
(.seq (.rg [] none)
(.seq (.rg [] none)
(.seq (.seq (.rg [] none)
(.loop [.val 0 (.sl T32), .row 3 (.int .i64) .full, .val 4 (.int .i64)] [.row 3 (.int .i64) .full] reticuleref23_Tags_L0
(.seq (.seq (.rg [] none)
(.cond .leaf .leaf))
(.seq (.block (.rg [] none))
(.rg [] none)))))
(.seq (.rg [] none)
.leaf))))
theorem reticuleref23_Tags_Eok : EnvOk Try.prog reticuleref23_Tags_E := env_ok tab_ok (by simp) (allFn_mem (show AllFn Try.prog reticuleref23_Tags_fns from trivial)) mixed (by kernel_rfl) (by kernel_rfl) (by kernel_rfl) (by kernel_rfl)
theorem reticuleref23_Tags_eq (x : (List (Int × (Int × (List (BitVec 8) × (Int × (List (BitVec 8) × (((Int × (BitVec 64 × (Int × (Int × (Int × Unit))))) × (Int × (Int × (List (BitVec 8) × ((Int × (Int × (Int × Unit))) × Unit))))) × ((Int × (Int × (Int × Unit))) × Unit))))))))) : evF reticuleref23_Tags_E 20 (bd Try.f23) [.val (.sl T32)] [.tmp 2 ((.sl (.int .i64)), .full)] reticuleref23_Tags_an x = reticuleref23_Tags x := by kernel_rfl
theorem reticuleref23_Tags_ok : FnOk Try.prog 23 { args := [.val (.sl T32)], res := [((.sl (.int .i64)), .full)], f := reticuleref23_Tags } :=
  fn_ok reticuleref23_Tags_Eok Try.func23 rfl (by kernel_rfl) (by kernel_rfl) (by kernel_rfl) (rs := [.tmp 2 ((.sl (.int .i64)), .full)]) (c := bd Try.f23) (an := reticuleref23_Tags_an) (show obF reticuleref23_Tags_E 20 (bd Try.f23) [.val (.sl T32)] [.tmp 2 ((.sl (.int .i64)), .full)] reticuleref23_Tags_an from (And.intro trivial (And.intro trivial (And.intro (And.intro trivial (And.intro (fun _ => rfl) (And.intro (fun n j => by kernel_rfl) (fun n => (And.intro (And.intro trivial (And.intro trivial trivial)) (And.intro trivial trivial)))))) (And.intro trivial trivial))))) reticuleref23_Tags_eq
/-! reticulelaw23_TagsTakes: function 4 -/
noncomputable def reticulelaw23_TagsTakes_fns : List (Nat × Fun) := [(7, { args := [], res := [(.bool, .view)], f := reticulelaw23_alive }), (8, { args := [.val (.sl T32)], res := [(.bool, .view)], f := reticuleref23_Great }), (9, { args := [.val (.sl T32)], res := [((.sl T32), .full)], f := reticuleref23_Copy }), (15, { args := [.val (.sl T32), .val (.int .i64)], res := [((.int .i64), .view)], f := tags_Find }), (16, { args := [.val (.sl T32), .val (.int .i64)], res := [((.int .i64), .view)], f := reticuleref23_Find }), (17, { args := [.val (.sl T32), .val (.int .i64)], res := [((.sl T32), .view)], f := tags_Drop }), (18, { args := [.val (.sl T32), .val (.int .i64)], res := [((.sl T32), .full)], f := reticuleref23_Drop }), (12, { args := [.val (.sl T32), .val (.sl T32)], res := [(.bool, .view)], f := reticuleref23_Same }), (19, { args := [.val (.sl T32), .val (.int .i64)], res := [((.sl T32), .view)], f := tags_Sweep }), (20, { args := [.val (.sl T32), .val (.int .i64)], res := [((.sl T32), .full)], f := reticuleref23_Sweep }), (22, { args := [.val (.sl T32)], res := [((.sl (.int .i64)), .full)], f := tags_Tags }), (23, { args := [.val (.sl T32)], res := [((.sl (.int .i64)), .full)], f := reticuleref23_Tags }), (21, { args := [.val (.sl (.int .i64)), .val (.sl (.int .i64))], res := [(.bool, .view)], f := reticuleref01_Ints })]
noncomputable def reticulelaw23_TagsTakes_E : Env := { ty := Re.look tyTab, eq := fun n => memB n [], fn := Re.look reticulelaw23_TagsTakes_fns, cut := fun n => memB n [], win := fun n => memB n [], one := fun n => memB n [], onc := fun n => memB n [], pre := fun n => memB n [], ptr := fun n => memB n [], psl := fun n => memB n [], parr := Re.look [], mpt := Re.look [], lnd := fun n => memB n [] }
noncomputable def reticulelaw23_TagsTakes_an : An (Ds ((([.tmp 6 (.bool, .view)] : List RV).map RV.pm).map (·.1) ++ ioTys [.val (.sl T32), .val (.int .i64), .val (.int .i64)])) :=
(.seq (.rg [] none)
(.seq (.seq (.rg [] none)
(.cond (.seq (.rg [] none)
.leaf) .leaf))
(.seq (.seq (.rg [] none)
(.cond (.seq (.rg [] none)
.leaf) .leaf))
(.seq (.rg [] none)
(.seq (.rg [432, 576, 656, 688] (some (.op ⟨[], []⟩ (.op ⟨[], []⟩ (.op ⟨[208, 256], [208]⟩ (.op ⟨[], []⟩ (.op ⟨[], []⟩ (.op ⟨[304], []⟩ (.op ⟨[], []⟩ (.op ⟨[], []⟩ (.split 21 [(29, .bool)] (.op ⟨[], []⟩ (.op ⟨[], []⟩ (.op ⟨[208, 384], []⟩ (.op ⟨[], []⟩ (.op ⟨[], []⟩ (.op ⟨[432], [432]⟩ (.op ⟨[432, 448], [432]⟩ (.op ⟨[], []⟩ .done)))))))) (.op ⟨[], []⟩ (.split 30 [(38, .bool)] (.op ⟨[], []⟩ (.op ⟨[], []⟩ (.op ⟨[208, 528], []⟩ (.op ⟨[], []⟩ (.op ⟨[], []⟩ (.op ⟨[576], [576]⟩ (.op ⟨[576, 592], [576]⟩ (.op ⟨[], []⟩ .done)))))))) (.op ⟨[], []⟩ (.split 39 [(45, .bool)] (.op ⟨[], []⟩ (.op ⟨[208, 656], [656]⟩ (.op ⟨[], []⟩ (.op ⟨[688], [688]⟩ (.op ⟨[656, 688, 704], [656, 688]⟩ (.op ⟨[], []⟩ .done)))))) (.op ⟨[], []⟩ (.split 46 [(50, .bool)] (.op ⟨[], []⟩ (.op ⟨[], []⟩ (.op ⟨[208, 784], []⟩ (.op ⟨[], []⟩ .done)))) (.op ⟨[], []⟩ .done))))))))))))))))))
.leaf)))))
theorem reticulelaw23_TagsTakes_Eok : EnvOk Try.prog reticulelaw23_TagsTakes_E := env_ok tab_ok (by simp) (allFn_mem (show AllFn Try.prog reticulelaw23_TagsTakes_fns from ⟨reticulelaw23_alive_ok, reticuleref23_Great_ok, reticuleref23_Copy_ok, tags_Find_ok, reticuleref23_Find_ok, tags_Drop_ok, reticuleref23_Drop_ok, reticuleref23_Same_ok, tags_Sweep_ok, reticuleref23_Sweep_ok, tags_Tags_ok, reticuleref23_Tags_ok, reticuleref01_Ints_ok, trivial⟩)) mixed (by kernel_rfl) (by kernel_rfl) (by kernel_rfl) (by kernel_rfl)
theorem reticulelaw23_TagsTakes_eq (x : (List (Int × (Int × (List (BitVec 8) × (Int × (List (BitVec 8) × (((Int × (BitVec 64 × (Int × (Int × (Int × Unit))))) × (Int × (Int × (List (BitVec 8) × ((Int × (Int × (Int × Unit))) × Unit))))) × ((Int × (Int × (Int × Unit))) × Unit)))))))) × Int × Int) : evF reticulelaw23_TagsTakes_E 51 (bd Try.f4) [.val (.sl T32), .val (.int .i64), .val (.int .i64)] [.tmp 6 (.bool, .view)] reticulelaw23_TagsTakes_an x = reticulelaw23_TagsTakes x := by kernel_rfl
theorem reticulelaw23_TagsTakes_ok : FnOk Try.prog 4 { args := [.val (.sl T32), .val (.int .i64), .val (.int .i64)], res := [(.bool, .view)], f := reticulelaw23_TagsTakes } :=
  fn_ok reticulelaw23_TagsTakes_Eok Try.func4 rfl (by kernel_rfl) (by kernel_rfl) (by kernel_rfl) (rs := [.tmp 6 (.bool, .view)]) (c := bd Try.f4) (an := reticulelaw23_TagsTakes_an) (ob_flat _ _ _ _ _ _ _ (by kernel_rfl)) reticulelaw23_TagsTakes_eq
/-! reticulelaw23_without: function 24 -/
noncomputable def reticulelaw23_without_fns : List (Nat × Fun) := []
noncomputable def reticulelaw23_without_E : Env := { ty := Re.look tyTab, eq := fun n => memB n [], fn := Re.look reticulelaw23_without_fns, cut := fun n => memB n [], win := fun n => memB n [], one := fun n => memB n [], onc := fun n => memB n [], pre := fun n => memB n [], ptr := fun n => memB n [], psl := fun n => memB n [], parr := Re.look [], mpt := Re.look [], lnd := fun n => memB n [] }
noncomputable def reticulelaw23_without_an : An (Ds ((([.tmp 4 ((.sl (.int .i64)), .full)] : List RV).map RV.pm).map (·.1) ++ ioTys [.val (.sl (.int .i64)), .val (.int .i64)])) :=
(.seq (.rg [] none)
(.seq (.rg [] none)
(.seq (.seq (.rg [] none)
(.loop [.val 0 (.sl (.int .i64)), .val 1 (.int .i64), .row 5 (.int .i64) .full, .val 6 (.int .i64)] [.row 5 (.int .i64) .full] reticulelaw23_without_L0
(.seq (.seq (.rg [] none)
(.cond .leaf .leaf))
(.join [.val 0 (.sl (.int .i64)), .val 1 (.int .i64), .row 5 (.int .i64) .full, .val 6 (.int .i64)]
(.block (.seq (.rg [] none)
(.cond (.rg [] none) .leaf)))
(.rg [] none)))))
(.seq (.rg [] none)
.leaf))))
theorem reticulelaw23_without_Eok : EnvOk Try.prog reticulelaw23_without_E := env_ok tab_ok (by simp) (allFn_mem (show AllFn Try.prog reticulelaw23_without_fns from trivial)) mixed (by kernel_rfl) (by kernel_rfl) (by kernel_rfl) (by kernel_rfl)
theorem reticulelaw23_without_eq (x : (List Int) × Int) : evF reticulelaw23_without_E 27 (bd Try.f24) [.val (.sl (.int .i64)), .val (.int .i64)] [.tmp 4 ((.sl (.int .i64)), .full)] reticulelaw23_without_an x = reticulelaw23_without x := by kernel_rfl
theorem reticulelaw23_without_ok : FnOk Try.prog 24 { args := [.val (.sl (.int .i64)), .val (.int .i64)], res := [((.sl (.int .i64)), .full)], f := reticulelaw23_without } :=
  fn_ok reticulelaw23_without_Eok Try.func24 rfl (by kernel_rfl) (by kernel_rfl) (by kernel_rfl) (rs := [.tmp 4 ((.sl (.int .i64)), .full)]) (c := bd Try.f24) (an := reticulelaw23_without_an) (show obF reticulelaw23_without_E 27 (bd Try.f24) [.val (.sl (.int .i64)), .val (.int .i64)] [.tmp 4 ((.sl (.int .i64)), .full)] reticulelaw23_without_an from (And.intro trivial (And.intro trivial (And.intro (And.intro trivial (And.intro (fun _ => rfl) (And.intro (fun n j => by kernel_rfl) (fun n => (And.intro (And.intro trivial (And.intro trivial trivial)) (And.intro (And.intro trivial (And.intro trivial trivial)) trivial)))))) (And.intro trivial trivial))))) reticulelaw23_without_eq
/-! reticuleref01_Has: function 25 -/
noncomputable def reticuleref01_Has_fns : List (Nat × Fun) := []
noncomputable def reticuleref01_Has_E : Env := { ty := Re.look tyTab, eq := fun n => memB n [], fn := Re.look reticuleref01_Has_fns, cut := fun n => memB n [], win := fun n => memB n [], one := fun n => memB n [], onc := fun n => memB n [], pre := fun n => memB n [], ptr := fun n => memB n [], psl := fun n => memB n [], parr := Re.look [], mpt := Re.look [], lnd := fun n => memB n [] }
noncomputable def reticuleref01_Has_an : An (Ds ((([.tmp 4 (.bool, .view)] : List RV).map RV.pm).map (·.1) ++ ioTys [.val (.sl (.int .i64)), .val (.int .i64)])) :=
(.seq (.rg [] none)
(.seq (.seq (.rg [] none)
(.loop [.val 0 (.sl (.int .i64)), .val 1 (.int .i64), .val 5 (.int .i64)] [] reticuleref01_Has_L0
(.seq (.seq (.rg [] none)
(.cond .leaf .leaf))
(.seq (.block (.seq (.rg [] none)
(.cond (.seq (.rg [] none)
.leaf) .leaf)))
(.rg [] none)))))
(.seq (.rg [] none)
.leaf)))
theorem reticuleref01_Has_Eok : EnvOk Try.prog reticuleref01_Has_E := env_ok tab_ok (by simp) (allFn_mem (show AllFn Try.prog reticuleref01_Has_fns from trivial)) mixed (by kernel_rfl) (by kernel_rfl) (by kernel_rfl) (by kernel_rfl)
theorem reticuleref01_Has_eq (x : (List Int) × Int) : evF reticuleref01_Has_E 18 (bd Try.f25) [.val (.sl (.int .i64)), .val (.int .i64)] [.tmp 4 (.bool, .view)] reticuleref01_Has_an x = reticuleref01_Has x := by kernel_rfl
theorem reticuleref01_Has_ok : FnOk Try.prog 25 { args := [.val (.sl (.int .i64)), .val (.int .i64)], res := [(.bool, .view)], f := reticuleref01_Has } :=
  fn_ok reticuleref01_Has_Eok Try.func25 rfl (by kernel_rfl) (by kernel_rfl) (by kernel_rfl) (rs := [.tmp 4 (.bool, .view)]) (c := bd Try.f25) (an := reticuleref01_Has_an) (show obF reticuleref01_Has_E 18 (bd Try.f25) [.val (.sl (.int .i64)), .val (.int .i64)] [.tmp 4 (.bool, .view)] reticuleref01_Has_an from (And.intro trivial (And.intro (And.intro trivial (And.intro (fun _ => rfl) (And.intro (fun n j => by kernel_rfl) (fun n => (And.intro (And.intro trivial (And.intro trivial trivial)) (And.intro (And.intro trivial (And.intro (And.intro trivial trivial) trivial)) trivial)))))) (And.intro trivial trivial)))) reticuleref01_Has_eq
/-! reticulelaw23_TagsOnce: function 5 -/
noncomputable def reticulelaw23_TagsOnce_fns : List (Nat × Fun) := [(7, { args := [], res := [(.bool, .view)], f := reticulelaw23_alive }), (17, { args := [.val (.sl T32), .val (.int .i64)], res := [((.sl T32), .view)], f := tags_Drop }), (24, { args := [.val (.sl (.int .i64)), .val (.int .i64)], res := [((.sl (.int .i64)), .full)], f := reticulelaw23_without }), (19, { args := [.val (.sl T32), .val (.int .i64)], res := [((.sl T32), .view)], f := tags_Sweep }), (22, { args := [.val (.sl T32)], res := [((.sl (.int .i64)), .full)], f := tags_Tags }), (10, { args := [.val (.sl T32), .val T32, .val (.int .i64)], res := [((.sl T32), .view), ((.int .i64), .view)], f := tags_Add }), (25, { args := [.val (.sl (.int .i64)), .val (.int .i64)], res := [(.bool, .view)], f := reticuleref01_Has }), (13, { args := [.val (.sl T32)], res := [(.bool, .view)], f := tags_Right }), (21, { args := [.val (.sl (.int .i64)), .val (.sl (.int .i64))], res := [(.bool, .view)], f := reticuleref01_Ints })]
noncomputable def reticulelaw23_TagsOnce_E : Env := { ty := Re.look tyTab, eq := fun n => memB n [], fn := Re.look reticulelaw23_TagsOnce_fns, cut := fun n => memB n [], win := fun n => memB n [], one := fun n => memB n [], onc := fun n => memB n [], pre := fun n => memB n [], ptr := fun n => memB n [], psl := fun n => memB n [], parr := Re.look [], mpt := Re.look [], lnd := fun n => memB n [] }
noncomputable def reticulelaw23_TagsOnce_an : An (Ds ((([.tmp 4 (.bool, .view)] : List RV).map RV.pm).map (·.1) ++ ioTys [.val (.sl T28), .val (.int .u8)])) :=
(.seq (.rg [] none)
(.seq (.seq (.rg [] none)
(.cond (.seq (.rg [] none)
.leaf) .leaf))
(.seq (.seq (.rg [] none)
(.cond (.seq (.rg [] none)
.leaf) .leaf))
(.seq (.rg [] none)
(.seq (.rg [] none)
(.seq (.rg [] none)
(.seq (.seq (.rg [] none)
(.loop [.val 0 (.sl T28), .val 5 (.int .i64), .val 6 (.sl T32), .row 7 (.int .i64) .tail, .val 8 (.int .i64)] [] reticulelaw23_TagsOnce_L0
(.seq (.seq (.rg [] none)
(.cond .leaf .leaf))
(.seq (.block (.seq (.rg [] none)
(.join [.val 0 (.sl T28), .val 5 (.int .i64), .val 6 (.sl T32), .row 7 (.int .i64) .tail, .val 8 (.int .i64)]
(.seq (.rg [] none)
(.block (.seq (.rg [] none)
(.cond (.rg [] (some (.op ⟨[], []⟩ (.op ⟨[144], []⟩ (.op ⟨[144], []⟩ (.op ⟨[1360], []⟩ (.op ⟨[], []⟩ (.op ⟨[144], []⟩ (.op ⟨[144], []⟩ (.op ⟨[112, 1424], [1424]⟩ (.op ⟨[], []⟩ (.op ⟨[], []⟩ .done)))))))))))) (.seq (.rg [] none)
(.cond (.seq (.rg [] none)
(.seq (.rg [] none)
(.seq (.rg [] none)
(.loop [.val 0 (.sl T28), .val 5 (.int .i64), .val 6 (.sl T32), .row 7 (.int .i64) .full, .val 8 (.int .i64), .box 9 T28, .val 10 (.int .i64)] [.val 0 (.sl T28), .val 5 (.int .i64), .val 6 (.sl T32), .row 7 (.int .i64) .full, .val 8 (.int .i64)] reticulelaw23_TagsOnce_L1
(.seq (.seq (.rg [] none)
(.cond .leaf .leaf))
(.seq (.block (.seq (.rg [] (some (.op ⟨[], []⟩ (.op ⟨[], []⟩ (.op ⟨[], []⟩ (.op ⟨[], []⟩ (.op ⟨[], []⟩ (.op ⟨[144], []⟩ (.op ⟨[144], []⟩ (.op ⟨[], []⟩ (.op ⟨[], []⟩ (.split 112 [(116, .bool)] (.op ⟨[144], []⟩ (.op ⟨[144], []⟩ (.op ⟨[], []⟩ (.op ⟨[], []⟩ .done)))) .done))))))))))))
(.cond (.seq (.rg [] none)
.leaf) .leaf)))
(.rg [] none))))))) (.seq (.rg [] none)
(.seq (.rg [] (some (.op ⟨[144], []⟩ (.op ⟨[144], []⟩ (.op ⟨[], []⟩ (.op ⟨[], []⟩ (.split 49 [(53, .bool)] (.op ⟨[144], []⟩ (.op ⟨[144], []⟩ (.op ⟨[], []⟩ (.op ⟨[], []⟩ .done)))) (.op ⟨[], []⟩ (.split 54 [(60, .bool)] (.op ⟨[], []⟩ (.op ⟨[144], []⟩ (.op ⟨[144], []⟩ (.op ⟨[112, 928], []⟩ (.op ⟨[], []⟩ (.op ⟨[], []⟩ .done)))))) (.op ⟨[], []⟩ (.split 61 [(66, .bool)] (.op ⟨[], []⟩ (.op ⟨[112], []⟩ (.op ⟨[], []⟩ (.op ⟨[], []⟩ (.op ⟨[], []⟩ .done))))) (.op ⟨[], []⟩ .done))))))))))))
(.seq (.seq (.rg [] none)
(.cond (.seq (.rg [] none)
.leaf) .leaf))
(.seq (.rg [] none)
(.seq (.rg [] none)
(.cond (.rg [] (some (.op ⟨[1168], [1168]⟩ (.op ⟨[], []⟩ (.op ⟨[112, 1168, 1200], [1168, 1200]⟩ (.op ⟨[144], []⟩ (.op ⟨[144], []⟩ (.op ⟨[1248], [1248]⟩ (.op ⟨[1200, 1248, 1264], [1200, 1264]⟩ (.op ⟨[], []⟩ .done)))))))))) .leaf))))))))))))
(.seq (.rg [2048] (some (.op ⟨[], []⟩ (.op ⟨[1888], []⟩ (.op ⟨[], []⟩ (.op ⟨[], []⟩ (.split 120 [(125, .bool)] (.op ⟨[], []⟩ (.op ⟨[], []⟩ (.op ⟨[], []⟩ (.op ⟨[], []⟩ (.op ⟨[], []⟩ .done))))) (.op ⟨[], []⟩ (.split 126 [(132, .bool)] (.op ⟨[], []⟩ (.op ⟨[2048], [2048]⟩ (.op ⟨[], []⟩ (.op ⟨[112, 2048, 2080], [2048]⟩ (.op ⟨[], []⟩ (.op ⟨[], []⟩ .done)))))) .done)))))))))
(.cond (.seq (.rg [] none)
.leaf) .leaf)))))
(.rg [] none)))))
(.seq (.rg [] none)
.leaf))))))))
theorem reticulelaw23_TagsOnce_Eok : EnvOk Try.prog reticulelaw23_TagsOnce_E := env_ok tab_ok (by simp) (allFn_mem (show AllFn Try.prog reticulelaw23_TagsOnce_fns from ⟨reticulelaw23_alive_ok, tags_Drop_ok, reticulelaw23_without_ok, tags_Sweep_ok, tags_Tags_ok, tags_Add_ok, reticuleref01_Has_ok, tags_Right_ok, reticuleref01_Ints_ok, trivial⟩)) mixed (by kernel_rfl) (by kernel_rfl) (by kernel_rfl) (by kernel_rfl)
theorem reticulelaw23_TagsOnce_eq (x : (List (Int × (Int × (Int × Unit)))) × (BitVec 8)) : evF reticulelaw23_TagsOnce_E 133 (bd Try.f5) [.val (.sl T28), .val (.int .u8)] [.tmp 4 (.bool, .view)] reticulelaw23_TagsOnce_an x = reticulelaw23_TagsOnce x := by kernel_rfl
theorem reticulelaw23_TagsOnce_ok : FnOk Try.prog 5 { args := [.val (.sl T28), .val (.int .u8)], res := [(.bool, .view)], f := reticulelaw23_TagsOnce } :=
  fn_ok reticulelaw23_TagsOnce_Eok Try.func5 rfl (by kernel_rfl) (by kernel_rfl) (by kernel_rfl) (rs := [.tmp 4 (.bool, .view)]) (c := bd Try.f5) (an := reticulelaw23_TagsOnce_an) (show obF reticulelaw23_TagsOnce_E 133 (bd Try.f5) [.val (.sl T28), .val (.int .u8)] [.tmp 4 (.bool, .view)] reticulelaw23_TagsOnce_an from (And.intro trivial (And.intro (And.intro trivial (And.intro (And.intro trivial trivial) trivial)) (And.intro (And.intro trivial (And.intro (And.intro trivial trivial) trivial)) (And.intro trivial (And.intro trivial (And.intro trivial (And.intro (And.intro trivial (And.intro (fun _ => rfl) (And.intro (fun n j => by kernel_rfl) (fun n => (And.intro (And.intro trivial (And.intro trivial trivial)) (And.intro (And.intro trivial (And.intro (And.intro trivial (And.intro trivial (And.intro trivial (And.intro trivial (And.intro (And.intro trivial (And.intro trivial (And.intro trivial (And.intro (fun _ => rfl) (And.intro (fun n j => by kernel_rfl) (fun n => (And.intro (And.intro trivial (And.intro trivial trivial)) (And.intro (And.intro trivial (And.intro (And.intro trivial trivial) trivial)) trivial)))))))) (And.intro trivial (And.intro trivial (And.intro (And.intro trivial (And.intro (And.intro trivial trivial) trivial)) (And.intro trivial (And.intro trivial (And.intro trivial trivial))))))))))) (And.intro trivial (And.intro (And.intro trivial trivial) trivial)))) trivial)))))) (And.intro trivial trivial))))))))) reticulelaw23_TagsOnce_eq
/-! reticulelaw23_TagsBack: function 6 -/
noncomputable def reticulelaw23_TagsBack_fns : List (Nat × Fun) := [(7, { args := [], res := [(.bool, .view)], f := reticulelaw23_alive }), (8, { args := [.val (.sl T32)], res := [(.bool, .view)], f := reticuleref23_Great }), (14, { args := [.val (.sl T32)], res := [(.bool, .view)], f := reticuleref23_Right }), (10, { args := [.val (.sl T32), .val T32, .val (.int .i64)], res := [((.sl T32), .view), ((.int .i64), .view)], f := tags_Add }), (12, { args := [.val (.sl T32), .val (.sl T32)], res := [(.bool, .view)], f := reticuleref23_Same }), (15, { args := [.val (.sl T32), .val (.int .i64)], res := [((.int .i64), .view)], f := tags_Find }), (17, { args := [.val (.sl T32), .val (.int .i64)], res := [((.sl T32), .view)], f := tags_Drop })]
noncomputable def reticulelaw23_TagsBack_E : Env := { ty := Re.look tyTab, eq := fun n => memB n [], fn := Re.look reticulelaw23_TagsBack_fns, cut := fun n => memB n [], win := fun n => memB n [], one := fun n => memB n [], onc := fun n => memB n [], pre := fun n => memB n [], ptr := fun n => memB n [], psl := fun n => memB n [], parr := Re.look [], mpt := Re.look [], lnd := fun n => memB n [] }
noncomputable def reticulelaw23_TagsBack_an : An (Ds ((([.tmp 4 (.bool, .view)] : List RV).map RV.pm).map (·.1) ++ ioTys [.val (.sl T32), .val T32])) :=
(.seq (.rg [] none)
(.seq (.seq (.rg [] none)
(.cond (.seq (.rg [] none)
.leaf) .leaf))
(.seq (.seq (.rg [208] (some (.op ⟨[], []⟩ (.op ⟨[160], []⟩ (.op ⟨[], []⟩ (.split 11 [(15, .bool)] (.op ⟨[48], []⟩ (.op ⟨[208], [208]⟩ (.op ⟨[208, 224], [208]⟩ (.op ⟨[], []⟩ .done)))) (.op ⟨[], []⟩ (.split 16 [(20, .bool)] (.op ⟨[], []⟩ (.op ⟨[288], []⟩ (.op ⟨[], []⟩ (.op ⟨[], []⟩ .done)))) .done))))))))
(.cond (.seq (.rg [] none)
.leaf) .leaf))
(.seq (.rg [] none)
(.seq (.seq (.rg [] none)
(.cond (.seq (.rg [] none)
.leaf) .leaf))
(.seq (.rg [] (some (.op ⟨[], []⟩ (.op ⟨[48], []⟩ (.op ⟨[48], []⟩ (.op ⟨[560], []⟩ (.op ⟨[], []⟩ (.op ⟨[], []⟩ (.op ⟨[], []⟩ (.op ⟨[], []⟩ (.split 39 [(46, .bool)] (.op ⟨[], []⟩ (.op ⟨[48], []⟩ (.op ⟨[48], []⟩ (.op ⟨[688], []⟩ (.op ⟨[], []⟩ (.op ⟨[720], []⟩ (.op ⟨[], []⟩ .done))))))) (.op ⟨[], []⟩ .done))))))))))))
.leaf))))))
theorem reticulelaw23_TagsBack_Eok : EnvOk Try.prog reticulelaw23_TagsBack_E := env_ok tab_ok (by simp) (allFn_mem (show AllFn Try.prog reticulelaw23_TagsBack_fns from ⟨reticulelaw23_alive_ok, reticuleref23_Great_ok, reticuleref23_Right_ok, tags_Add_ok, reticuleref23_Same_ok, tags_Find_ok, tags_Drop_ok, trivial⟩)) mixed (by kernel_rfl) (by kernel_rfl) (by kernel_rfl) (by kernel_rfl)
theorem reticulelaw23_TagsBack_eq (x : (List (Int × (Int × (List (BitVec 8) × (Int × (List (BitVec 8) × (((Int × (BitVec 64 × (Int × (Int × (Int × Unit))))) × (Int × (Int × (List (BitVec 8) × ((Int × (Int × (Int × Unit))) × Unit))))) × ((Int × (Int × (Int × Unit))) × Unit)))))))) × (Int × (Int × (List (BitVec 8) × (Int × (List (BitVec 8) × (((Int × (BitVec 64 × (Int × (Int × (Int × Unit))))) × (Int × (Int × (List (BitVec 8) × ((Int × (Int × (Int × Unit))) × Unit))))) × ((Int × (Int × (Int × Unit))) × Unit)))))))) : evF reticulelaw23_TagsBack_E 47 (bd Try.f6) [.val (.sl T32), .val T32] [.tmp 4 (.bool, .view)] reticulelaw23_TagsBack_an x = reticulelaw23_TagsBack x := by kernel_rfl
theorem reticulelaw23_TagsBack_ok : FnOk Try.prog 6 { args := [.val (.sl T32), .val T32], res := [(.bool, .view)], f := reticulelaw23_TagsBack } :=
  fn_ok reticulelaw23_TagsBack_Eok Try.func6 rfl (by kernel_rfl) (by kernel_rfl) (by kernel_rfl) (rs := [.tmp 4 (.bool, .view)]) (c := bd Try.f6) (an := reticulelaw23_TagsBack_an) (ob_flat _ _ _ _ _ _ _ (by kernel_rfl)) reticulelaw23_TagsBack_eq
end Go.Proofs.Ytnpehooofdheaaa
