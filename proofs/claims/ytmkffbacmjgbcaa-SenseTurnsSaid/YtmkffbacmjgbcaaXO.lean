/- Each function does what its plain one tells. Printed by the session's own program. -/
import Derived.Test.YtmkffbacmjgbcaaXT
import Derived.Test.YtmkffbacmjgbcaaXF
namespace Go.Proofs.Ytmkffbacmjgbcaa
open Go Go.Re
set_option linter.unusedVariables false
set_option linter.unusedSimpArgs false
set_option maxRecDepth 100000
set_option maxHeartbeats 1000000
/-! sense_NotReady: function 25 -/
noncomputable def sense_NotReady_fns : List (Nat × Fun) := []
noncomputable def sense_NotReady_E : Env := { ty := Re.look tyTab, eq := fun n => memB n [], fn := Re.look sense_NotReady_fns, cut := fun n => memB n [], win := fun n => memB n [], one := fun n => memB n [], onc := fun n => memB n [], pre := fun n => memB n [], ptr := fun n => memB n [], psl := fun n => memB n [], parr := Re.look [], mpt := Re.look [] }
noncomputable def sense_NotReady_an : An (Ds ((([.cell 0 T22] : List RV).map RV.pm).map (·.1) ++ ioTys [])) :=
(.seq (.rg [] none)
(.seq (.rg [] none)
.leaf))
theorem sense_NotReady_Eok : EnvOk Try.prog sense_NotReady_E := env_ok tab_ok (by simp) (allFn_mem (show AllFn Try.prog sense_NotReady_fns from trivial)) mixed (by kernel_rfl) (by kernel_rfl) (by kernel_rfl) (by kernel_rfl)
theorem sense_NotReady_eq (x : Unit) : evF sense_NotReady_E 2 (bd Try.f25) [] [.cell 0 T22] sense_NotReady_an x = sense_NotReady x := by kernel_rfl
theorem sense_NotReady_ok : FnOk Try.prog 25 { args := [], res := [(T22, .view)], f := sense_NotReady } :=
  fn_ok sense_NotReady_Eok Try.func25 rfl (by kernel_rfl) (by kernel_rfl) (by kernel_rfl) (rs := [.cell 0 T22]) (c := bd Try.f25) (an := sense_NotReady_an) (ob_flat _ _ _ _ _ _ _ (by kernel_rfl)) sense_NotReady_eq
/-! sense_Protected: function 26 -/
noncomputable def sense_Protected_fns : List (Nat × Fun) := []
noncomputable def sense_Protected_E : Env := { ty := Re.look tyTab, eq := fun n => memB n [], fn := Re.look sense_Protected_fns, cut := fun n => memB n [], win := fun n => memB n [], one := fun n => memB n [], onc := fun n => memB n [], pre := fun n => memB n [], ptr := fun n => memB n [], psl := fun n => memB n [], parr := Re.look [], mpt := Re.look [] }
noncomputable def sense_Protected_an : An (Ds ((([.cell 0 T22] : List RV).map RV.pm).map (·.1) ++ ioTys [])) :=
(.seq (.rg [] none)
(.seq (.rg [] none)
.leaf))
theorem sense_Protected_Eok : EnvOk Try.prog sense_Protected_E := env_ok tab_ok (by simp) (allFn_mem (show AllFn Try.prog sense_Protected_fns from trivial)) mixed (by kernel_rfl) (by kernel_rfl) (by kernel_rfl) (by kernel_rfl)
theorem sense_Protected_eq (x : Unit) : evF sense_Protected_E 2 (bd Try.f26) [] [.cell 0 T22] sense_Protected_an x = sense_Protected x := by kernel_rfl
theorem sense_Protected_ok : FnOk Try.prog 26 { args := [], res := [(T22, .view)], f := sense_Protected } :=
  fn_ok sense_Protected_Eok Try.func26 rfl (by kernel_rfl) (by kernel_rfl) (by kernel_rfl) (rs := [.cell 0 T22]) (c := bd Try.f26) (an := sense_Protected_an) (ob_flat _ _ _ _ _ _ _ (by kernel_rfl)) sense_Protected_eq
/-! sense_asked: function 41 -/
noncomputable def sense_asked_fns : List (Nat × Fun) := []
noncomputable def sense_asked_E : Env := { ty := Re.look tyTab, eq := fun n => memB n [], fn := Re.look sense_asked_fns, cut := fun n => memB n [], win := fun n => memB n [], one := fun n => memB n [], onc := fun n => memB n [], pre := fun n => memB n [], ptr := fun n => memB n [], psl := fun n => memB n [], parr := Re.look [], mpt := Re.look [] }
noncomputable def sense_asked_an : An (Ds ((([.cell 4 T22] : List RV).map RV.pm).map (·.1) ++ ioTys [.val (.int .i64), .val (.int .i64)])) :=
(.seq (.rg [] none)
(.seq (.rg [] none)
.leaf))
theorem sense_asked_Eok : EnvOk Try.prog sense_asked_E := env_ok tab_ok (by simp) (allFn_mem (show AllFn Try.prog sense_asked_fns from trivial)) mixed (by kernel_rfl) (by kernel_rfl) (by kernel_rfl) (by kernel_rfl)
theorem sense_asked_eq (x : Int × Int) : evF sense_asked_E 8 (bd Try.f41) [.val (.int .i64), .val (.int .i64)] [.cell 4 T22] sense_asked_an x = sense_asked x := by kernel_rfl
theorem sense_asked_ok : FnOk Try.prog 41 { args := [.val (.int .i64), .val (.int .i64)], res := [(T22, .view)], f := sense_asked } :=
  fn_ok sense_asked_Eok Try.func41 rfl (by kernel_rfl) (by kernel_rfl) (by kernel_rfl) (rs := [.cell 4 T22]) (c := bd Try.f41) (an := sense_asked_an) (ob_flat _ _ _ _ _ _ _ (by kernel_rfl)) sense_asked_eq
/-! sense_Kept: function 27 -/
noncomputable def sense_Kept_fns : List (Nat × Fun) := [(41, { args := [.val (.int .i64), .val (.int .i64)], res := [(T22, .view)], f := sense_asked })]
noncomputable def sense_Kept_E : Env := { ty := Re.look tyTab, eq := fun n => memB n [], fn := Re.look sense_Kept_fns, cut := fun n => memB n [], win := fun n => memB n [], one := fun n => memB n [], onc := fun n => memB n [], pre := fun n => memB n [], ptr := fun n => memB n [], psl := fun n => memB n [], parr := Re.look [], mpt := Re.look [] }
noncomputable def sense_Kept_an : An (Ds ((([.cell 0 T22] : List RV).map RV.pm).map (·.1) ++ ioTys [])) :=
(.seq (.rg [] none)
(.seq (.rg [] none)
.leaf))
theorem sense_Kept_Eok : EnvOk Try.prog sense_Kept_E := env_ok tab_ok (by simp) (allFn_mem (show AllFn Try.prog sense_Kept_fns from ⟨sense_asked_ok, trivial⟩)) mixed (by kernel_rfl) (by kernel_rfl) (by kernel_rfl) (by kernel_rfl)
theorem sense_Kept_eq (x : Unit) : evF sense_Kept_E 2 (bd Try.f27) [] [.cell 0 T22] sense_Kept_an x = sense_Kept x := by kernel_rfl
theorem sense_Kept_ok : FnOk Try.prog 27 { args := [], res := [(T22, .view)], f := sense_Kept } :=
  fn_ok sense_Kept_Eok Try.func27 rfl (by kernel_rfl) (by kernel_rfl) (by kernel_rfl) (rs := [.cell 0 T22]) (c := bd Try.f27) (an := sense_Kept_an) (ob_flat _ _ _ _ _ _ _ (by kernel_rfl)) sense_Kept_eq
/-! sense_Range: function 28 -/
noncomputable def sense_Range_fns : List (Nat × Fun) := [(41, { args := [.val (.int .i64), .val (.int .i64)], res := [(T22, .view)], f := sense_asked })]
noncomputable def sense_Range_E : Env := { ty := Re.look tyTab, eq := fun n => memB n [], fn := Re.look sense_Range_fns, cut := fun n => memB n [], win := fun n => memB n [], one := fun n => memB n [], onc := fun n => memB n [], pre := fun n => memB n [], ptr := fun n => memB n [], psl := fun n => memB n [], parr := Re.look [], mpt := Re.look [] }
noncomputable def sense_Range_an : An (Ds ((([.cell 0 T22] : List RV).map RV.pm).map (·.1) ++ ioTys [])) :=
(.seq (.rg [] none)
(.seq (.rg [] none)
.leaf))
theorem sense_Range_Eok : EnvOk Try.prog sense_Range_E := env_ok tab_ok (by simp) (allFn_mem (show AllFn Try.prog sense_Range_fns from ⟨sense_asked_ok, trivial⟩)) mixed (by kernel_rfl) (by kernel_rfl) (by kernel_rfl) (by kernel_rfl)
theorem sense_Range_eq (x : Unit) : evF sense_Range_E 2 (bd Try.f28) [] [.cell 0 T22] sense_Range_an x = sense_Range x := by kernel_rfl
theorem sense_Range_ok : FnOk Try.prog 28 { args := [], res := [(T22, .view)], f := sense_Range } :=
  fn_ok sense_Range_Eok Try.func28 rfl (by kernel_rfl) (by kernel_rfl) (by kernel_rfl) (rs := [.cell 0 T22]) (c := bd Try.f28) (an := sense_Range_an) (ob_flat _ _ _ _ _ _ _ (by kernel_rfl)) sense_Range_eq
/-! sense_Field: function 29 -/
noncomputable def sense_Field_fns : List (Nat × Fun) := [(41, { args := [.val (.int .i64), .val (.int .i64)], res := [(T22, .view)], f := sense_asked })]
noncomputable def sense_Field_E : Env := { ty := Re.look tyTab, eq := fun n => memB n [], fn := Re.look sense_Field_fns, cut := fun n => memB n [], win := fun n => memB n [], one := fun n => memB n [], onc := fun n => memB n [], pre := fun n => memB n [], ptr := fun n => memB n [], psl := fun n => memB n [], parr := Re.look [], mpt := Re.look [] }
noncomputable def sense_Field_an : An (Ds ((([.cell 0 T22] : List RV).map RV.pm).map (·.1) ++ ioTys [])) :=
(.seq (.rg [] none)
(.seq (.rg [] none)
.leaf))
theorem sense_Field_Eok : EnvOk Try.prog sense_Field_E := env_ok tab_ok (by simp) (allFn_mem (show AllFn Try.prog sense_Field_fns from ⟨sense_asked_ok, trivial⟩)) mixed (by kernel_rfl) (by kernel_rfl) (by kernel_rfl) (by kernel_rfl)
theorem sense_Field_eq (x : Unit) : evF sense_Field_E 2 (bd Try.f29) [] [.cell 0 T22] sense_Field_an x = sense_Field x := by kernel_rfl
theorem sense_Field_ok : FnOk Try.prog 29 { args := [], res := [(T22, .view)], f := sense_Field } :=
  fn_ok sense_Field_Eok Try.func29 rfl (by kernel_rfl) (by kernel_rfl) (by kernel_rfl) (rs := [.cell 0 T22]) (c := bd Try.f29) (an := sense_Field_an) (ob_flat _ _ _ _ _ _ _ (by kernel_rfl)) sense_Field_eq
/-! sense_Unknown: function 30 -/
noncomputable def sense_Unknown_fns : List (Nat × Fun) := [(41, { args := [.val (.int .i64), .val (.int .i64)], res := [(T22, .view)], f := sense_asked })]
noncomputable def sense_Unknown_E : Env := { ty := Re.look tyTab, eq := fun n => memB n [], fn := Re.look sense_Unknown_fns, cut := fun n => memB n [], win := fun n => memB n [], one := fun n => memB n [], onc := fun n => memB n [], pre := fun n => memB n [], ptr := fun n => memB n [], psl := fun n => memB n [], parr := Re.look [], mpt := Re.look [] }
noncomputable def sense_Unknown_an : An (Ds ((([.cell 0 T22] : List RV).map RV.pm).map (·.1) ++ ioTys [])) :=
(.seq (.rg [] none)
(.seq (.rg [] none)
.leaf))
theorem sense_Unknown_Eok : EnvOk Try.prog sense_Unknown_E := env_ok tab_ok (by simp) (allFn_mem (show AllFn Try.prog sense_Unknown_fns from ⟨sense_asked_ok, trivial⟩)) mixed (by kernel_rfl) (by kernel_rfl) (by kernel_rfl) (by kernel_rfl)
theorem sense_Unknown_eq (x : Unit) : evF sense_Unknown_E 2 (bd Try.f30) [] [.cell 0 T22] sense_Unknown_an x = sense_Unknown x := by kernel_rfl
theorem sense_Unknown_ok : FnOk Try.prog 30 { args := [], res := [(T22, .view)], f := sense_Unknown } :=
  fn_ok sense_Unknown_Eok Try.func30 rfl (by kernel_rfl) (by kernel_rfl) (by kernel_rfl) (rs := [.cell 0 T22]) (c := bd Try.f30) (an := sense_Unknown_an) (ob_flat _ _ _ _ _ _ _ (by kernel_rfl)) sense_Unknown_eq
/-! sense_NoUnit: function 31 -/
noncomputable def sense_NoUnit_fns : List (Nat × Fun) := [(41, { args := [.val (.int .i64), .val (.int .i64)], res := [(T22, .view)], f := sense_asked })]
noncomputable def sense_NoUnit_E : Env := { ty := Re.look tyTab, eq := fun n => memB n [], fn := Re.look sense_NoUnit_fns, cut := fun n => memB n [], win := fun n => memB n [], one := fun n => memB n [], onc := fun n => memB n [], pre := fun n => memB n [], ptr := fun n => memB n [], psl := fun n => memB n [], parr := Re.look [], mpt := Re.look [] }
noncomputable def sense_NoUnit_an : An (Ds ((([.cell 0 T22] : List RV).map RV.pm).map (·.1) ++ ioTys [])) :=
(.seq (.rg [] none)
(.seq (.rg [] none)
.leaf))
theorem sense_NoUnit_Eok : EnvOk Try.prog sense_NoUnit_E := env_ok tab_ok (by simp) (allFn_mem (show AllFn Try.prog sense_NoUnit_fns from ⟨sense_asked_ok, trivial⟩)) mixed (by kernel_rfl) (by kernel_rfl) (by kernel_rfl) (by kernel_rfl)
theorem sense_NoUnit_eq (x : Unit) : evF sense_NoUnit_E 2 (bd Try.f31) [] [.cell 0 T22] sense_NoUnit_an x = sense_NoUnit x := by kernel_rfl
theorem sense_NoUnit_ok : FnOk Try.prog 31 { args := [], res := [(T22, .view)], f := sense_NoUnit } :=
  fn_ok sense_NoUnit_Eok Try.func31 rfl (by kernel_rfl) (by kernel_rfl) (by kernel_rfl) (rs := [.cell 0 T22]) (c := bd Try.f31) (an := sense_NoUnit_an) (ob_flat _ _ _ _ _ _ _ (by kernel_rfl)) sense_NoUnit_eq
/-! sense_Parameter: function 32 -/
noncomputable def sense_Parameter_fns : List (Nat × Fun) := [(41, { args := [.val (.int .i64), .val (.int .i64)], res := [(T22, .view)], f := sense_asked })]
noncomputable def sense_Parameter_E : Env := { ty := Re.look tyTab, eq := fun n => memB n [], fn := Re.look sense_Parameter_fns, cut := fun n => memB n [], win := fun n => memB n [], one := fun n => memB n [], onc := fun n => memB n [], pre := fun n => memB n [], ptr := fun n => memB n [], psl := fun n => memB n [], parr := Re.look [], mpt := Re.look [] }
noncomputable def sense_Parameter_an : An (Ds ((([.cell 0 T22] : List RV).map RV.pm).map (·.1) ++ ioTys [])) :=
(.seq (.rg [] none)
(.seq (.rg [] none)
.leaf))
theorem sense_Parameter_Eok : EnvOk Try.prog sense_Parameter_E := env_ok tab_ok (by simp) (allFn_mem (show AllFn Try.prog sense_Parameter_fns from ⟨sense_asked_ok, trivial⟩)) mixed (by kernel_rfl) (by kernel_rfl) (by kernel_rfl) (by kernel_rfl)
theorem sense_Parameter_eq (x : Unit) : evF sense_Parameter_E 2 (bd Try.f32) [] [.cell 0 T22] sense_Parameter_an x = sense_Parameter x := by kernel_rfl
theorem sense_Parameter_ok : FnOk Try.prog 32 { args := [], res := [(T22, .view)], f := sense_Parameter } :=
  fn_ok sense_Parameter_Eok Try.func32 rfl (by kernel_rfl) (by kernel_rfl) (by kernel_rfl) (rs := [.cell 0 T22]) (c := bd Try.f32) (an := sense_Parameter_an) (ob_flat _ _ _ _ _ _ _ (by kernel_rfl)) sense_Parameter_eq
/-! sense_Length: function 33 -/
noncomputable def sense_Length_fns : List (Nat × Fun) := [(41, { args := [.val (.int .i64), .val (.int .i64)], res := [(T22, .view)], f := sense_asked })]
noncomputable def sense_Length_E : Env := { ty := Re.look tyTab, eq := fun n => memB n [], fn := Re.look sense_Length_fns, cut := fun n => memB n [], win := fun n => memB n [], one := fun n => memB n [], onc := fun n => memB n [], pre := fun n => memB n [], ptr := fun n => memB n [], psl := fun n => memB n [], parr := Re.look [], mpt := Re.look [] }
noncomputable def sense_Length_an : An (Ds ((([.cell 0 T22] : List RV).map RV.pm).map (·.1) ++ ioTys [])) :=
(.seq (.rg [] none)
(.seq (.rg [] none)
.leaf))
theorem sense_Length_Eok : EnvOk Try.prog sense_Length_E := env_ok tab_ok (by simp) (allFn_mem (show AllFn Try.prog sense_Length_fns from ⟨sense_asked_ok, trivial⟩)) mixed (by kernel_rfl) (by kernel_rfl) (by kernel_rfl) (by kernel_rfl)
theorem sense_Length_eq (x : Unit) : evF sense_Length_E 2 (bd Try.f33) [] [.cell 0 T22] sense_Length_an x = sense_Length x := by kernel_rfl
theorem sense_Length_ok : FnOk Try.prog 33 { args := [], res := [(T22, .view)], f := sense_Length } :=
  fn_ok sense_Length_Eok Try.func33 rfl (by kernel_rfl) (by kernel_rfl) (by kernel_rfl) (rs := [.cell 0 T22]) (c := bd Try.f33) (an := sense_Length_an) (ob_flat _ _ _ _ _ _ _ (by kernel_rfl)) sense_Length_eq
/-! sense_Saving: function 34 -/
noncomputable def sense_Saving_fns : List (Nat × Fun) := [(41, { args := [.val (.int .i64), .val (.int .i64)], res := [(T22, .view)], f := sense_asked })]
noncomputable def sense_Saving_E : Env := { ty := Re.look tyTab, eq := fun n => memB n [], fn := Re.look sense_Saving_fns, cut := fun n => memB n [], win := fun n => memB n [], one := fun n => memB n [], onc := fun n => memB n [], pre := fun n => memB n [], ptr := fun n => memB n [], psl := fun n => memB n [], parr := Re.look [], mpt := Re.look [] }
noncomputable def sense_Saving_an : An (Ds ((([.cell 0 T22] : List RV).map RV.pm).map (·.1) ++ ioTys [])) :=
(.seq (.rg [] none)
(.seq (.rg [] none)
.leaf))
theorem sense_Saving_Eok : EnvOk Try.prog sense_Saving_E := env_ok tab_ok (by simp) (allFn_mem (show AllFn Try.prog sense_Saving_fns from ⟨sense_asked_ok, trivial⟩)) mixed (by kernel_rfl) (by kernel_rfl) (by kernel_rfl) (by kernel_rfl)
theorem sense_Saving_eq (x : Unit) : evF sense_Saving_E 2 (bd Try.f34) [] [.cell 0 T22] sense_Saving_an x = sense_Saving x := by kernel_rfl
theorem sense_Saving_ok : FnOk Try.prog 34 { args := [], res := [(T22, .view)], f := sense_Saving } :=
  fn_ok sense_Saving_Eok Try.func34 rfl (by kernel_rfl) (by kernel_rfl) (by kernel_rfl) (rs := [.cell 0 T22]) (c := bd Try.f34) (an := sense_Saving_an) (ob_flat _ _ _ _ _ _ _ (by kernel_rfl)) sense_Saving_eq
/-! sense_Differs: function 35 -/
noncomputable def sense_Differs_fns : List (Nat × Fun) := []
noncomputable def sense_Differs_E : Env := { ty := Re.look tyTab, eq := fun n => memB n [], fn := Re.look sense_Differs_fns, cut := fun n => memB n [], win := fun n => memB n [], one := fun n => memB n [], onc := fun n => memB n [], pre := fun n => memB n [], ptr := fun n => memB n [], psl := fun n => memB n [], parr := Re.look [], mpt := Re.look [] }
noncomputable def sense_Differs_an : An (Ds ((([.cell 0 T22] : List RV).map RV.pm).map (·.1) ++ ioTys [])) :=
(.seq (.rg [] none)
(.seq (.rg [] none)
.leaf))
theorem sense_Differs_Eok : EnvOk Try.prog sense_Differs_E := env_ok tab_ok (by simp) (allFn_mem (show AllFn Try.prog sense_Differs_fns from trivial)) mixed (by kernel_rfl) (by kernel_rfl) (by kernel_rfl) (by kernel_rfl)
theorem sense_Differs_eq (x : Unit) : evF sense_Differs_E 2 (bd Try.f35) [] [.cell 0 T22] sense_Differs_an x = sense_Differs x := by kernel_rfl
theorem sense_Differs_ok : FnOk Try.prog 35 { args := [], res := [(T22, .view)], f := sense_Differs } :=
  fn_ok sense_Differs_Eok Try.func35 rfl (by kernel_rfl) (by kernel_rfl) (by kernel_rfl) (rs := [.cell 0 T22]) (c := bd Try.f35) (an := sense_Differs_an) (ob_flat _ _ _ _ _ _ _ (by kernel_rfl)) sense_Differs_eq
/-! sense_reset: function 40 -/
noncomputable def sense_reset_fns : List (Nat × Fun) := []
noncomputable def sense_reset_E : Env := { ty := Re.look tyTab, eq := fun n => memB n [], fn := Re.look sense_reset_fns, cut := fun n => memB n [], win := fun n => memB n [], one := fun n => memB n [], onc := fun n => memB n [], pre := fun n => memB n [], ptr := fun n => memB n [], psl := fun n => memB n [], parr := Re.look [], mpt := Re.look [] }
noncomputable def sense_reset_an : An (Ds ((([.cell 2 T22] : List RV).map RV.pm).map (·.1) ++ ioTys [.val (.int .i64)])) :=
(.seq (.rg [] none)
(.seq (.rg [] none)
.leaf))
theorem sense_reset_Eok : EnvOk Try.prog sense_reset_E := env_ok tab_ok (by simp) (allFn_mem (show AllFn Try.prog sense_reset_fns from trivial)) mixed (by kernel_rfl) (by kernel_rfl) (by kernel_rfl) (by kernel_rfl)
theorem sense_reset_eq (x : Int) : evF sense_reset_E 5 (bd Try.f40) [.val (.int .i64)] [.cell 2 T22] sense_reset_an x = sense_reset x := by kernel_rfl
theorem sense_reset_ok : FnOk Try.prog 40 { args := [.val (.int .i64)], res := [(T22, .view)], f := sense_reset } :=
  fn_ok sense_reset_Eok Try.func40 rfl (by kernel_rfl) (by kernel_rfl) (by kernel_rfl) (rs := [.cell 2 T22]) (c := bd Try.f40) (an := sense_reset_an) (ob_flat _ _ _ _ _ _ _ (by kernel_rfl)) sense_reset_eq
/-! sense_PowerOn: function 19 -/
noncomputable def sense_PowerOn_fns : List (Nat × Fun) := [(40, { args := [.val (.int .i64)], res := [(T22, .view)], f := sense_reset })]
noncomputable def sense_PowerOn_E : Env := { ty := Re.look tyTab, eq := fun n => memB n [], fn := Re.look sense_PowerOn_fns, cut := fun n => memB n [], win := fun n => memB n [], one := fun n => memB n [], onc := fun n => memB n [], pre := fun n => memB n [], ptr := fun n => memB n [], psl := fun n => memB n [], parr := Re.look [], mpt := Re.look [] }
noncomputable def sense_PowerOn_an : An (Ds ((([.cell 0 T22] : List RV).map RV.pm).map (·.1) ++ ioTys [])) :=
(.seq (.rg [] none)
(.seq (.rg [] none)
.leaf))
theorem sense_PowerOn_Eok : EnvOk Try.prog sense_PowerOn_E := env_ok tab_ok (by simp) (allFn_mem (show AllFn Try.prog sense_PowerOn_fns from ⟨sense_reset_ok, trivial⟩)) mixed (by kernel_rfl) (by kernel_rfl) (by kernel_rfl) (by kernel_rfl)
theorem sense_PowerOn_eq (x : Unit) : evF sense_PowerOn_E 2 (bd Try.f19) [] [.cell 0 T22] sense_PowerOn_an x = sense_PowerOn x := by kernel_rfl
theorem sense_PowerOn_ok : FnOk Try.prog 19 { args := [], res := [(T22, .view)], f := sense_PowerOn } :=
  fn_ok sense_PowerOn_Eok Try.func19 rfl (by kernel_rfl) (by kernel_rfl) (by kernel_rfl) (rs := [.cell 0 T22]) (c := bd Try.f19) (an := sense_PowerOn_an) (ob_flat _ _ _ _ _ _ _ (by kernel_rfl)) sense_PowerOn_eq
/-! sense_BusReset: function 20 -/
noncomputable def sense_BusReset_fns : List (Nat × Fun) := [(40, { args := [.val (.int .i64)], res := [(T22, .view)], f := sense_reset })]
noncomputable def sense_BusReset_E : Env := { ty := Re.look tyTab, eq := fun n => memB n [], fn := Re.look sense_BusReset_fns, cut := fun n => memB n [], win := fun n => memB n [], one := fun n => memB n [], onc := fun n => memB n [], pre := fun n => memB n [], ptr := fun n => memB n [], psl := fun n => memB n [], parr := Re.look [], mpt := Re.look [] }
noncomputable def sense_BusReset_an : An (Ds ((([.cell 0 T22] : List RV).map RV.pm).map (·.1) ++ ioTys [])) :=
(.seq (.rg [] none)
(.seq (.rg [] none)
.leaf))
theorem sense_BusReset_Eok : EnvOk Try.prog sense_BusReset_E := env_ok tab_ok (by simp) (allFn_mem (show AllFn Try.prog sense_BusReset_fns from ⟨sense_reset_ok, trivial⟩)) mixed (by kernel_rfl) (by kernel_rfl) (by kernel_rfl) (by kernel_rfl)
theorem sense_BusReset_eq (x : Unit) : evF sense_BusReset_E 2 (bd Try.f20) [] [.cell 0 T22] sense_BusReset_an x = sense_BusReset x := by kernel_rfl
theorem sense_BusReset_ok : FnOk Try.prog 20 { args := [], res := [(T22, .view)], f := sense_BusReset } :=
  fn_ok sense_BusReset_Eok Try.func20 rfl (by kernel_rfl) (by kernel_rfl) (by kernel_rfl) (rs := [.cell 0 T22]) (c := bd Try.f20) (an := sense_BusReset_an) (ob_flat _ _ _ _ _ _ _ (by kernel_rfl)) sense_BusReset_eq
/-! sense_UnitReset: function 21 -/
noncomputable def sense_UnitReset_fns : List (Nat × Fun) := [(40, { args := [.val (.int .i64)], res := [(T22, .view)], f := sense_reset })]
noncomputable def sense_UnitReset_E : Env := { ty := Re.look tyTab, eq := fun n => memB n [], fn := Re.look sense_UnitReset_fns, cut := fun n => memB n [], win := fun n => memB n [], one := fun n => memB n [], onc := fun n => memB n [], pre := fun n => memB n [], ptr := fun n => memB n [], psl := fun n => memB n [], parr := Re.look [], mpt := Re.look [] }
noncomputable def sense_UnitReset_an : An (Ds ((([.cell 0 T22] : List RV).map RV.pm).map (·.1) ++ ioTys [])) :=
(.seq (.rg [] none)
(.seq (.rg [] none)
.leaf))
theorem sense_UnitReset_Eok : EnvOk Try.prog sense_UnitReset_E := env_ok tab_ok (by simp) (allFn_mem (show AllFn Try.prog sense_UnitReset_fns from ⟨sense_reset_ok, trivial⟩)) mixed (by kernel_rfl) (by kernel_rfl) (by kernel_rfl) (by kernel_rfl)
theorem sense_UnitReset_eq (x : Unit) : evF sense_UnitReset_E 2 (bd Try.f21) [] [.cell 0 T22] sense_UnitReset_an x = sense_UnitReset x := by kernel_rfl
theorem sense_UnitReset_ok : FnOk Try.prog 21 { args := [], res := [(T22, .view)], f := sense_UnitReset } :=
  fn_ok sense_UnitReset_Eok Try.func21 rfl (by kernel_rfl) (by kernel_rfl) (by kernel_rfl) (rs := [.cell 0 T22]) (c := bd Try.f21) (an := sense_UnitReset_an) (ob_flat _ _ _ _ _ _ _ (by kernel_rfl)) sense_UnitReset_eq
/-! sense_NexusLoss: function 22 -/
noncomputable def sense_NexusLoss_fns : List (Nat × Fun) := [(40, { args := [.val (.int .i64)], res := [(T22, .view)], f := sense_reset })]
noncomputable def sense_NexusLoss_E : Env := { ty := Re.look tyTab, eq := fun n => memB n [], fn := Re.look sense_NexusLoss_fns, cut := fun n => memB n [], win := fun n => memB n [], one := fun n => memB n [], onc := fun n => memB n [], pre := fun n => memB n [], ptr := fun n => memB n [], psl := fun n => memB n [], parr := Re.look [], mpt := Re.look [] }
noncomputable def sense_NexusLoss_an : An (Ds ((([.cell 0 T22] : List RV).map RV.pm).map (·.1) ++ ioTys [])) :=
(.seq (.rg [] none)
(.seq (.rg [] none)
.leaf))
theorem sense_NexusLoss_Eok : EnvOk Try.prog sense_NexusLoss_E := env_ok tab_ok (by simp) (allFn_mem (show AllFn Try.prog sense_NexusLoss_fns from ⟨sense_reset_ok, trivial⟩)) mixed (by kernel_rfl) (by kernel_rfl) (by kernel_rfl) (by kernel_rfl)
theorem sense_NexusLoss_eq (x : Unit) : evF sense_NexusLoss_E 2 (bd Try.f22) [] [.cell 0 T22] sense_NexusLoss_an x = sense_NexusLoss x := by kernel_rfl
theorem sense_NexusLoss_ok : FnOk Try.prog 22 { args := [], res := [(T22, .view)], f := sense_NexusLoss } :=
  fn_ok sense_NexusLoss_Eok Try.func22 rfl (by kernel_rfl) (by kernel_rfl) (by kernel_rfl) (rs := [.cell 0 T22]) (c := bd Try.f22) (an := sense_NexusLoss_an) (ob_flat _ _ _ _ _ _ _ (by kernel_rfl)) sense_NexusLoss_eq
/-! sense_NewMedium: function 23 -/
noncomputable def sense_NewMedium_fns : List (Nat × Fun) := []
noncomputable def sense_NewMedium_E : Env := { ty := Re.look tyTab, eq := fun n => memB n [], fn := Re.look sense_NewMedium_fns, cut := fun n => memB n [], win := fun n => memB n [], one := fun n => memB n [], onc := fun n => memB n [], pre := fun n => memB n [], ptr := fun n => memB n [], psl := fun n => memB n [], parr := Re.look [], mpt := Re.look [] }
noncomputable def sense_NewMedium_an : An (Ds ((([.cell 0 T22] : List RV).map RV.pm).map (·.1) ++ ioTys [])) :=
(.seq (.rg [] none)
(.seq (.rg [] none)
.leaf))
theorem sense_NewMedium_Eok : EnvOk Try.prog sense_NewMedium_E := env_ok tab_ok (by simp) (allFn_mem (show AllFn Try.prog sense_NewMedium_fns from trivial)) mixed (by kernel_rfl) (by kernel_rfl) (by kernel_rfl) (by kernel_rfl)
theorem sense_NewMedium_eq (x : Unit) : evF sense_NewMedium_E 2 (bd Try.f23) [] [.cell 0 T22] sense_NewMedium_an x = sense_NewMedium x := by kernel_rfl
theorem sense_NewMedium_ok : FnOk Try.prog 23 { args := [], res := [(T22, .view)], f := sense_NewMedium } :=
  fn_ok sense_NewMedium_Eok Try.func23 rfl (by kernel_rfl) (by kernel_rfl) (by kernel_rfl) (rs := [.cell 0 T22]) (c := bd Try.f23) (an := sense_NewMedium_an) (ob_flat _ _ _ _ _ _ _ (by kernel_rfl)) sense_NewMedium_eq
/-! reticuleref04_Of: function 13 -/
noncomputable def reticuleref04_Of_fns : List (Nat × Fun) := []
noncomputable def reticuleref04_Of_E : Env := { ty := Re.look tyTab, eq := fun n => memB n [], fn := Re.look reticuleref04_Of_fns, cut := fun n => memB n [], win := fun n => memB n [], one := fun n => memB n [], onc := fun n => memB n [], pre := fun n => memB n [], ptr := fun n => memB n [], psl := fun n => memB n [], parr := Re.look [], mpt := Re.look [] }
noncomputable def reticuleref04_Of_an : An (Ds ((([.cell 6 T22] : List RV).map RV.pm).map (·.1) ++ ioTys [.val (.int .i64), .val (.int .i64), .val (.int .i64)])) :=
(.seq (.rg [] none)
(.seq (.rg [] none)
.leaf))
theorem reticuleref04_Of_Eok : EnvOk Try.prog reticuleref04_Of_E := env_ok tab_ok (by simp) (allFn_mem (show AllFn Try.prog reticuleref04_Of_fns from trivial)) mixed (by kernel_rfl) (by kernel_rfl) (by kernel_rfl) (by kernel_rfl)
theorem reticuleref04_Of_eq (x : Int × Int × Int) : evF reticuleref04_Of_E 11 (bd Try.f13) [.val (.int .i64), .val (.int .i64), .val (.int .i64)] [.cell 6 T22] reticuleref04_Of_an x = reticuleref04_Of x := by kernel_rfl
theorem reticuleref04_Of_ok : FnOk Try.prog 13 { args := [.val (.int .i64), .val (.int .i64), .val (.int .i64)], res := [(T22, .view)], f := reticuleref04_Of } :=
  fn_ok reticuleref04_Of_Eok Try.func13 rfl (by kernel_rfl) (by kernel_rfl) (by kernel_rfl) (rs := [.cell 6 T22]) (c := bd Try.f13) (an := reticuleref04_Of_an) (ob_flat _ _ _ _ _ _ _ (by kernel_rfl)) reticuleref04_Of_eq
/-! sense_Good: function 12 -/
noncomputable def sense_Good_fns : List (Nat × Fun) := []
noncomputable def sense_Good_E : Env := { ty := Re.look tyTab, eq := fun n => memB n [23], fn := Re.look sense_Good_fns, cut := fun n => memB n [], win := fun n => memB n [], one := fun n => memB n [], onc := fun n => memB n [], pre := fun n => memB n [], ptr := fun n => memB n [], psl := fun n => memB n [], parr := Re.look [], mpt := Re.look [] }
noncomputable def sense_Good_an : An (Ds ((([.tmp 2 (.bool, .view)] : List RV).map RV.pm).map (·.1) ++ ioTys [.val T22])) :=
(.seq (.rg [] none)
(.seq (.rg [] none)
.leaf))
theorem sense_Good_Eok : EnvOk Try.prog sense_Good_E := env_ok tab_ok (by intro t h; simp only [List.mem_cons, List.mem_nil_iff, or_false, List.not_mem_nil] at h; rcases h with rfl <;> exact ⟨by kernel_rfl, by kernel_rfl, by kernel_rfl⟩) (allFn_mem (show AllFn Try.prog sense_Good_fns from trivial)) mixed (by kernel_rfl) (by kernel_rfl) (by kernel_rfl) (by kernel_rfl)
theorem sense_Good_eq (x : (Int × (Int × (Int × Unit)))) : evF sense_Good_E 6 (bd Try.f12) [.val T22] [.tmp 2 (.bool, .view)] sense_Good_an x = sense_Good x := by kernel_rfl
theorem sense_Good_ok : FnOk Try.prog 12 { args := [.val T22], res := [(.bool, .view)], f := sense_Good } :=
  fn_ok sense_Good_Eok Try.func12 rfl (by kernel_rfl) (by kernel_rfl) (by kernel_rfl) (rs := [.tmp 2 (.bool, .view)]) (c := bd Try.f12) (an := sense_Good_an) (ob_flat _ _ _ _ _ _ _ (by kernel_rfl)) sense_Good_eq
/-! number_PutLittle: function 42 -/
noncomputable def number_PutLittle_fns : List (Nat × Fun) := []
noncomputable def number_PutLittle_E : Env := { ty := Re.look tyTab, eq := fun n => memB n [], fn := Re.look number_PutLittle_fns, cut := fun n => memB n [], win := fun n => memB n [], one := fun n => memB n [], onc := fun n => memB n [], pre := fun n => memB n [], ptr := fun n => memB n [], psl := fun n => memB n [], parr := Re.look [], mpt := Re.look [] }
noncomputable def number_PutLittle_an : An (Ds ((([.tmp 4 ((.sl (.int .u8)), .full)] : List RV).map RV.pm).map (·.1) ++ ioTys [.val (.int .u64), .val (.int .i64)])) :=
(.seq (.rg [] none)
(.seq (.seq (.rg [] (some (.op ⟨[], []⟩ (.op ⟨[], []⟩ (.op ⟨[], []⟩ (.split 7 [(10, .bool)] (.op ⟨[], []⟩ (.op ⟨[], []⟩ (.op ⟨[], []⟩ .done))) .done))))))
(.cond (.seq (.rg [] none)
.leaf) .leaf))
(.seq (.seq (.rg [] none)
(.loop [.val 0 (.int .u64), .row 4 (.int .u8) .full, .val 11 (.int .i64), .val 12 (.int .i64)] [.row 4 (.int .u8) .full] number_PutLittle_L0
(.seq (.rg [] none)
(.seq (.cond .leaf .leaf)
(.seq (.block (.seq (.rg [] none)
(.rg [] none)))
(.rg [] none))))))
(.seq (.rg [] none)
.leaf))))
theorem number_PutLittle_Eok : EnvOk Try.prog number_PutLittle_E := env_ok tab_ok (by simp) (allFn_mem (show AllFn Try.prog number_PutLittle_fns from trivial)) mixed (by kernel_rfl) (by kernel_rfl) (by kernel_rfl) (by kernel_rfl)
theorem number_PutLittle_eq (x : (BitVec 64) × Int) : evF number_PutLittle_E 23 (bd Try.f42) [.val (.int .u64), .val (.int .i64)] [.tmp 4 ((.sl (.int .u8)), .full)] number_PutLittle_an x = number_PutLittle x := by kernel_rfl
theorem number_PutLittle_ok : FnOk Try.prog 42 { args := [.val (.int .u64), .val (.int .i64)], res := [((.sl (.int .u8)), .full)], f := number_PutLittle } :=
  fn_ok number_PutLittle_Eok Try.func42 rfl (by kernel_rfl) (by kernel_rfl) (by kernel_rfl) (rs := [.tmp 4 ((.sl (.int .u8)), .full)]) (c := bd Try.f42) (an := number_PutLittle_an) (show obF number_PutLittle_E 23 (bd Try.f42) [.val (.int .u64), .val (.int .i64)] [.tmp 4 ((.sl (.int .u8)), .full)] number_PutLittle_an from (And.intro trivial (And.intro (And.intro trivial (And.intro (And.intro trivial trivial) trivial)) (And.intro (And.intro trivial (And.intro (fun _ => rfl) (And.intro (fun n j => by kernel_rfl) (fun n => (And.intro trivial (And.intro (And.intro trivial trivial) (And.intro (And.intro trivial trivial) trivial))))))) (And.intro trivial trivial))))) number_PutLittle_eq
/-! slices_Reverse_byte: function 43 -/
noncomputable def slices_Reverse_byte_fns : List (Nat × Fun) := []
noncomputable def slices_Reverse_byte_E : Env := { ty := Re.look tyTab, eq := fun n => memB n [], fn := Re.look slices_Reverse_byte_fns, cut := fun n => memB n [], win := fun n => memB n [], one := fun n => memB n [], onc := fun n => memB n [], pre := fun n => memB n [], ptr := fun n => memB n [], psl := fun n => memB n [], parr := Re.look [], mpt := Re.look [] }
noncomputable def slices_Reverse_byte_an : An (Ds ((([] : List RV).map RV.pm).map (·.1) ++ ioTys [.row (.int .u8)])) :=
(.seq (.rg [] none)
(.loop [.prow 0 (.int .u8), .val 2 (.int .i64), .val 3 (.int .i64)] [.prow 0 (.int .u8)] slices_Reverse_byte_L0
(.seq (.seq (.rg [] none)
(.cond .leaf .leaf))
(.seq (.block (.rg [] (some (.op ⟨[], []⟩ (.op ⟨[], []⟩ (.op ⟨[], []⟩ (.op ⟨[], []⟩ (.op ⟨[], []⟩ (.op ⟨[], []⟩ (.op ⟨[0], []⟩ (.op ⟨[0], []⟩ (.op ⟨[], []⟩ (.op ⟨[], []⟩ (.op ⟨[0], []⟩ (.op ⟨[0], []⟩ (.op ⟨[0], []⟩ (.op ⟨[0], [0]⟩ (.op ⟨[0], []⟩ (.op ⟨[0], [0]⟩ .done)))))))))))))))))))
(.rg [] none)))))
theorem slices_Reverse_byte_Eok : EnvOk Try.prog slices_Reverse_byte_E := env_ok tab_ok (by simp) (allFn_mem (show AllFn Try.prog slices_Reverse_byte_fns from trivial)) mixed (by kernel_rfl) (by kernel_rfl) (by kernel_rfl) (by kernel_rfl)
theorem slices_Reverse_byte_eq (x : (List (BitVec 8))) : evF slices_Reverse_byte_E 28 (bd Try.f43) [.row (.int .u8)] [] slices_Reverse_byte_an x = slices_Reverse_byte x := by kernel_rfl
theorem slices_Reverse_byte_ok : FnOk Try.prog 43 { args := [.row (.int .u8)], res := [], f := slices_Reverse_byte } :=
  fn_ok slices_Reverse_byte_Eok Try.func43 rfl (by kernel_rfl) (by kernel_rfl) (by kernel_rfl) (rs := []) (c := bd Try.f43) (an := slices_Reverse_byte_an) (show obF slices_Reverse_byte_E 28 (bd Try.f43) [.row (.int .u8)] [] slices_Reverse_byte_an from (And.intro trivial (And.intro (fun _ => rfl) (And.intro (fun n j => by kernel_rfl) (fun n => (And.intro (And.intro trivial (And.intro trivial trivial)) (And.intro trivial trivial))))))) slices_Reverse_byte_eq
/-! number_PutBig: function 37 -/
noncomputable def number_PutBig_fns : List (Nat × Fun) := [(42, { args := [.val (.int .u64), .val (.int .i64)], res := [((.sl (.int .u8)), .full)], f := number_PutLittle }), (43, { args := [.row (.int .u8)], res := [], f := slices_Reverse_byte })]
noncomputable def number_PutBig_E : Env := { ty := Re.look tyTab, eq := fun n => memB n [], fn := Re.look number_PutBig_fns, cut := fun n => memB n [], win := fun n => memB n [], one := fun n => memB n [], onc := fun n => memB n [], pre := fun n => memB n [], ptr := fun n => memB n [], psl := fun n => memB n [], parr := Re.look [], mpt := Re.look [] }
noncomputable def number_PutBig_an : An (Ds ((([.tmp 4 ((.sl (.int .u8)), .full)] : List RV).map RV.pm).map (·.1) ++ ioTys [.val (.int .u64), .val (.int .i64)])) :=
(.seq (.rg [] none)
(.seq (.rg [] none)
(.seq (.rg [] none)
(.seq (.rg [] none)
.leaf))))
theorem number_PutBig_Eok : EnvOk Try.prog number_PutBig_E := env_ok tab_ok (by simp) (allFn_mem (show AllFn Try.prog number_PutBig_fns from ⟨number_PutLittle_ok, slices_Reverse_byte_ok, trivial⟩)) mixed (by kernel_rfl) (by kernel_rfl) (by kernel_rfl) (by kernel_rfl)
theorem number_PutBig_eq (x : (BitVec 64) × Int) : evF number_PutBig_E 12 (bd Try.f37) [.val (.int .u64), .val (.int .i64)] [.tmp 4 ((.sl (.int .u8)), .full)] number_PutBig_an x = number_PutBig x := by kernel_rfl
theorem number_PutBig_ok : FnOk Try.prog 37 { args := [.val (.int .u64), .val (.int .i64)], res := [((.sl (.int .u8)), .full)], f := number_PutBig } :=
  fn_ok number_PutBig_Eok Try.func37 rfl (by kernel_rfl) (by kernel_rfl) (by kernel_rfl) (rs := [.tmp 4 ((.sl (.int .u8)), .full)]) (c := bd Try.f37) (an := number_PutBig_an) (ob_flat _ _ _ _ _ _ _ (by kernel_rfl)) number_PutBig_eq
/-! sense_Bytes: function 10 -/
noncomputable def sense_Bytes_fns : List (Nat × Fun) := [(37, { args := [.val (.int .u64), .val (.int .i64)], res := [((.sl (.int .u8)), .full)], f := number_PutBig })]
noncomputable def sense_Bytes_E : Env := { ty := Re.look tyTab, eq := fun n => memB n [], fn := Re.look sense_Bytes_fns, cut := fun n => memB n [], win := fun n => memB n [15], one := fun n => memB n [], onc := fun n => memB n [], pre := fun n => memB n [], ptr := fun n => memB n [], psl := fun n => memB n [], parr := Re.look [], mpt := Re.look [] }
noncomputable def sense_Bytes_an : An (Ds ((([.tmp 2 ((.sl (.int .u8)), .full)] : List RV).map RV.pm).map (·.1) ++ ioTys [.val T22])) :=
(.seq (.rg [] none)
(.seq (.rg [] none)
(.seq (.rg [] (some (.op ⟨[], []⟩ (.op ⟨[], []⟩ (.op ⟨[], []⟩ (.op ⟨[16], []⟩ (.op ⟨[16], []⟩ (.op ⟨[], []⟩ (.op ⟨[64], []⟩ (.op ⟨[64], [64]⟩ (.op ⟨[64], []⟩ (.op ⟨[64], [64]⟩ (.op ⟨[64], []⟩ (.op ⟨[64], [64]⟩ .done))))))))))))))
(.seq (.rg [] (some (.op ⟨[], []⟩ (.op ⟨[64], []⟩ (.op ⟨[16], []⟩ (.op ⟨[16], []⟩ (.op ⟨[], []⟩ (.op ⟨[], []⟩ (.op ⟨[], []⟩ (.op ⟨[16], []⟩ (.op ⟨[16], []⟩ (.op ⟨[], []⟩ (.op ⟨[], []⟩ (.op ⟨[], []⟩ (.op ⟨[416], [416]⟩ (.op ⟨[64, 416], [64]⟩ .done))))))))))))))))
(.seq (.rg [] none)
.leaf)))))
theorem sense_Bytes_Eok : EnvOk Try.prog sense_Bytes_E := env_ok tab_ok (by simp) (allFn_mem (show AllFn Try.prog sense_Bytes_fns from ⟨number_PutBig_ok, trivial⟩)) mixed (by kernel_rfl) (by kernel_rfl) (by kernel_rfl) (by kernel_rfl)
theorem sense_Bytes_eq (x : (Int × (Int × (Int × Unit)))) : evF sense_Bytes_E 29 (bd Try.f10) [.val T22] [.tmp 2 ((.sl (.int .u8)), .full)] sense_Bytes_an x = sense_Bytes x := by kernel_rfl
theorem sense_Bytes_ok : FnOk Try.prog 10 { args := [.val T22], res := [((.sl (.int .u8)), .full)], f := sense_Bytes } :=
  fn_ok sense_Bytes_Eok Try.func10 rfl (by kernel_rfl) (by kernel_rfl) (by kernel_rfl) (rs := [.tmp 2 ((.sl (.int .u8)), .full)]) (c := bd Try.f10) (an := sense_Bytes_an) (ob_flat _ _ _ _ _ _ _ (by kernel_rfl)) sense_Bytes_eq
/-! slices_Equal_byte: function 36 -/
noncomputable def slices_Equal_byte_fns : List (Nat × Fun) := []
noncomputable def slices_Equal_byte_E : Env := { ty := Re.look tyTab, eq := fun n => memB n [], fn := Re.look slices_Equal_byte_fns, cut := fun n => memB n [], win := fun n => memB n [], one := fun n => memB n [], onc := fun n => memB n [], pre := fun n => memB n [], ptr := fun n => memB n [], psl := fun n => memB n [], parr := Re.look [], mpt := Re.look [] }
noncomputable def slices_Equal_byte_an : An (Ds ((([.tmp 4 (.bool, .view)] : List RV).map RV.pm).map (·.1) ++ ioTys [.val (.sl (.int .u8)), .val (.sl (.int .u8))])) :=
(.seq (.rg [] none)
(.seq (.seq (.rg [] none)
(.cond (.seq (.rg [] none)
.leaf) .leaf))
(.seq (.seq (.rg [] none)
(.loop [.val 0 (.sl (.int .u8)), .val 1 (.sl (.int .u8)), .val 12 (.int .i64), .val 13 (.int .i64)] [] slices_Equal_byte_L0
(.seq (.rg [] none)
(.seq (.cond .leaf .leaf)
(.seq (.block (.seq (.rg [] none)
(.seq (.rg [] (some (.op ⟨[], []⟩ (.op ⟨[], []⟩ (.op ⟨[], []⟩ (.op ⟨[], []⟩ (.op ⟨[], []⟩ (.op ⟨[], []⟩ (.op ⟨[], []⟩ (.op ⟨[], []⟩ (.op ⟨[], []⟩ .done)))))))))))
(.cond (.seq (.rg [] none)
.leaf) .leaf))))
(.rg [] none))))))
(.seq (.rg [] none)
.leaf))))
theorem slices_Equal_byte_Eok : EnvOk Try.prog slices_Equal_byte_E := env_ok tab_ok (by simp) (allFn_mem (show AllFn Try.prog slices_Equal_byte_fns from trivial)) mixed (by kernel_rfl) (by kernel_rfl) (by kernel_rfl) (by kernel_rfl)
theorem slices_Equal_byte_eq (x : (List (BitVec 8)) × (List (BitVec 8))) : evF slices_Equal_byte_E 26 (bd Try.f36) [.val (.sl (.int .u8)), .val (.sl (.int .u8))] [.tmp 4 (.bool, .view)] slices_Equal_byte_an x = slices_Equal_byte x := by kernel_rfl
theorem slices_Equal_byte_ok : FnOk Try.prog 36 { args := [.val (.sl (.int .u8)), .val (.sl (.int .u8))], res := [(.bool, .view)], f := slices_Equal_byte } :=
  fn_ok slices_Equal_byte_Eok Try.func36 rfl (by kernel_rfl) (by kernel_rfl) (by kernel_rfl) (rs := [.tmp 4 (.bool, .view)]) (c := bd Try.f36) (an := slices_Equal_byte_an) (show obF slices_Equal_byte_E 26 (bd Try.f36) [.val (.sl (.int .u8)), .val (.sl (.int .u8))] [.tmp 4 (.bool, .view)] slices_Equal_byte_an from (And.intro trivial (And.intro (And.intro trivial (And.intro (And.intro trivial trivial) trivial)) (And.intro (And.intro trivial (And.intro (fun _ => rfl) (And.intro (fun n j => by kernel_rfl) (fun n => (And.intro trivial (And.intro (And.intro trivial trivial) (And.intro (And.intro trivial (And.intro trivial (And.intro (And.intro trivial trivial) trivial))) trivial))))))) (And.intro trivial trivial))))) slices_Equal_byte_eq
/-! sense_Parse: function 8 -/
noncomputable def sense_Parse_fns : List (Nat × Fun) := [(10, { args := [.val T22], res := [((.sl (.int .u8)), .full)], f := sense_Bytes }), (36, { args := [.val (.sl (.int .u8)), .val (.sl (.int .u8))], res := [(.bool, .view)], f := slices_Equal_byte })]
noncomputable def sense_Parse_E : Env := { ty := Re.look tyTab, eq := fun n => memB n [], fn := Re.look sense_Parse_fns, cut := fun n => memB n [], win := fun n => memB n [], one := fun n => memB n [], onc := fun n => memB n [], pre := fun n => memB n [], ptr := fun n => memB n [], psl := fun n => memB n [], parr := Re.look [], mpt := Re.look [] }
noncomputable def sense_Parse_an : An (Ds ((([.cell 2 T22, .tmp 3 (.bool, .view)] : List RV).map RV.pm).map (·.1) ++ ioTys [.val (.sl (.int .u8))])) :=
(.seq (.rg [] none)
(.seq (.seq (.rg [] none)
(.cond (.seq (.rg [] none)
.leaf) .leaf))
(.seq (.rg [] (some (.op ⟨[], []⟩ (.op ⟨[], []⟩ (.op ⟨[], []⟩ (.op ⟨[], []⟩ (.op ⟨[], []⟩ (.op ⟨[], []⟩ (.op ⟨[], []⟩ (.op ⟨[], []⟩ (.op ⟨[], []⟩ (.op ⟨[], []⟩ (.op ⟨[], []⟩ (.op ⟨[], []⟩ (.op ⟨[], []⟩ (.op ⟨[64], [64]⟩ (.op ⟨[64], [64]⟩ .done)))))))))))))))))
(.seq (.seq (.rg [] none)
(.cond (.seq (.rg [] none)
.leaf) .leaf))
(.seq (.rg [] none)
.leaf)))))
theorem sense_Parse_Eok : EnvOk Try.prog sense_Parse_E := env_ok tab_ok (by simp) (allFn_mem (show AllFn Try.prog sense_Parse_fns from ⟨sense_Bytes_ok, slices_Equal_byte_ok, trivial⟩)) mixed (by kernel_rfl) (by kernel_rfl) (by kernel_rfl) (by kernel_rfl)
theorem sense_Parse_eq (x : (List (BitVec 8))) : evF sense_Parse_E 29 (bd Try.f8) [.val (.sl (.int .u8))] [.cell 2 T22, .tmp 3 (.bool, .view)] sense_Parse_an x = sense_Parse x := by kernel_rfl
theorem sense_Parse_ok : FnOk Try.prog 8 { args := [.val (.sl (.int .u8))], res := [(T22, .view), (.bool, .view)], f := sense_Parse } :=
  fn_ok sense_Parse_Eok Try.func8 rfl (by kernel_rfl) (by kernel_rfl) (by kernel_rfl) (rs := [.cell 2 T22, .tmp 3 (.bool, .view)]) (c := bd Try.f8) (an := sense_Parse_an) (ob_flat _ _ _ _ _ _ _ (by kernel_rfl)) sense_Parse_eq
/-! slices_Index_api_Sense: function 44 -/
noncomputable def slices_Index_api_Sense_fns : List (Nat × Fun) := []
noncomputable def slices_Index_api_Sense_E : Env := { ty := Re.look tyTab, eq := fun n => memB n [23], fn := Re.look slices_Index_api_Sense_fns, cut := fun n => memB n [], win := fun n => memB n [], one := fun n => memB n [], onc := fun n => memB n [], pre := fun n => memB n [], ptr := fun n => memB n [], psl := fun n => memB n [], parr := Re.look [], mpt := Re.look [] }
noncomputable def slices_Index_api_Sense_an : An (Ds ((([.tmp 4 ((.int .i64), .view)] : List RV).map RV.pm).map (·.1) ++ ioTys [.val (.sl T22), .val T22])) :=
(.seq (.rg [] none)
(.seq (.seq (.rg [] none)
(.loop [.val 0 (.sl T22), .box 3 T22, .val 7 (.int .i64), .val 8 (.int .i64)] [] slices_Index_api_Sense_L0
(.seq (.rg [] none)
(.seq (.cond .leaf .leaf)
(.seq (.block (.seq (.rg [] none)
(.seq (.rg [] (some (.op ⟨[48], []⟩ (.op ⟨[], []⟩ (.op ⟨[], []⟩ (.op ⟨[], []⟩ (.op ⟨[], []⟩ (.op ⟨[], []⟩ .done))))))))
(.cond (.seq (.rg [] none)
.leaf) .leaf))))
(.rg [] none))))))
(.seq (.rg [] none)
.leaf)))
theorem slices_Index_api_Sense_Eok : EnvOk Try.prog slices_Index_api_Sense_E := env_ok tab_ok (by intro t h; simp only [List.mem_cons, List.mem_nil_iff, or_false, List.not_mem_nil] at h; rcases h with rfl <;> exact ⟨by kernel_rfl, by kernel_rfl, by kernel_rfl⟩) (allFn_mem (show AllFn Try.prog slices_Index_api_Sense_fns from trivial)) mixed (by kernel_rfl) (by kernel_rfl) (by kernel_rfl) (by kernel_rfl)
theorem slices_Index_api_Sense_eq (x : (List (Int × (Int × (Int × Unit)))) × (Int × (Int × (Int × Unit)))) : evF slices_Index_api_Sense_E 19 (bd Try.f44) [.val (.sl T22), .val T22] [.tmp 4 ((.int .i64), .view)] slices_Index_api_Sense_an x = slices_Index_api_Sense x := by kernel_rfl
theorem slices_Index_api_Sense_ok : FnOk Try.prog 44 { args := [.val (.sl T22), .val T22], res := [((.int .i64), .view)], f := slices_Index_api_Sense } :=
  fn_ok slices_Index_api_Sense_Eok Try.func44 rfl (by kernel_rfl) (by kernel_rfl) (by kernel_rfl) (rs := [.tmp 4 ((.int .i64), .view)]) (c := bd Try.f44) (an := slices_Index_api_Sense_an) (show obF slices_Index_api_Sense_E 19 (bd Try.f44) [.val (.sl T22), .val T22] [.tmp 4 ((.int .i64), .view)] slices_Index_api_Sense_an from (And.intro trivial (And.intro (And.intro trivial (And.intro (fun _ => rfl) (And.intro (fun n j => by kernel_rfl) (fun n => (And.intro trivial (And.intro (And.intro trivial trivial) (And.intro (And.intro trivial (And.intro trivial (And.intro (And.intro trivial trivial) trivial))) trivial))))))) (And.intro trivial trivial)))) slices_Index_api_Sense_eq
/-! slices_Contains_api_Sense: function 38 -/
noncomputable def slices_Contains_api_Sense_fns : List (Nat × Fun) := [(44, { args := [.val (.sl T22), .val T22], res := [((.int .i64), .view)], f := slices_Index_api_Sense })]
noncomputable def slices_Contains_api_Sense_E : Env := { ty := Re.look tyTab, eq := fun n => memB n [], fn := Re.look slices_Contains_api_Sense_fns, cut := fun n => memB n [], win := fun n => memB n [], one := fun n => memB n [], onc := fun n => memB n [], pre := fun n => memB n [], ptr := fun n => memB n [], psl := fun n => memB n [], parr := Re.look [], mpt := Re.look [] }
noncomputable def slices_Contains_api_Sense_an : An (Ds ((([.tmp 4 (.bool, .view)] : List RV).map RV.pm).map (·.1) ++ ioTys [.val (.sl T22), .val T22])) :=
(.seq (.rg [] none)
(.seq (.rg [] none)
.leaf))
theorem slices_Contains_api_Sense_Eok : EnvOk Try.prog slices_Contains_api_Sense_E := env_ok tab_ok (by simp) (allFn_mem (show AllFn Try.prog slices_Contains_api_Sense_fns from ⟨slices_Index_api_Sense_ok, trivial⟩)) mixed (by kernel_rfl) (by kernel_rfl) (by kernel_rfl) (by kernel_rfl)
theorem slices_Contains_api_Sense_eq (x : (List (Int × (Int × (Int × Unit)))) × (Int × (Int × (Int × Unit)))) : evF slices_Contains_api_Sense_E 9 (bd Try.f38) [.val (.sl T22), .val T22] [.tmp 4 (.bool, .view)] slices_Contains_api_Sense_an x = slices_Contains_api_Sense x := by kernel_rfl
theorem slices_Contains_api_Sense_ok : FnOk Try.prog 38 { args := [.val (.sl T22), .val T22], res := [(.bool, .view)], f := slices_Contains_api_Sense } :=
  fn_ok slices_Contains_api_Sense_Eok Try.func38 rfl (by kernel_rfl) (by kernel_rfl) (by kernel_rfl) (rs := [.tmp 4 (.bool, .view)]) (c := bd Try.f38) (an := slices_Contains_api_Sense_an) (ob_flat _ _ _ _ _ _ _ (by kernel_rfl)) slices_Contains_api_Sense_eq
/-! slices_Clip_api_Sense: function 39 -/
noncomputable def slices_Clip_api_Sense_fns : List (Nat × Fun) := []
noncomputable def slices_Clip_api_Sense_E : Env := { ty := Re.look tyTab, eq := fun n => memB n [], fn := Re.look slices_Clip_api_Sense_fns, cut := fun n => memB n [], win := fun n => memB n [], one := fun n => memB n [], onc := fun n => memB n [], pre := fun n => memB n [], ptr := fun n => memB n [], psl := fun n => memB n [], parr := Re.look [], mpt := Re.look [] }
noncomputable def slices_Clip_api_Sense_an : An (Ds ((([.tmp 2 ((.sl T22), .tail)] : List RV).map RV.pm).map (·.1) ++ ioTys [.val (.sl T22)])) :=
(.seq (.rg [] none)
(.seq (.rg [] none)
.leaf))
theorem slices_Clip_api_Sense_Eok : EnvOk Try.prog slices_Clip_api_Sense_E := env_ok tab_ok (by simp) (allFn_mem (show AllFn Try.prog slices_Clip_api_Sense_fns from trivial)) mixed (by kernel_rfl) (by kernel_rfl) (by kernel_rfl) (by kernel_rfl)
theorem slices_Clip_api_Sense_eq (x : (List (Int × (Int × (Int × Unit))))) : evF slices_Clip_api_Sense_E 9 (bd Try.f39) [.val (.sl T22)] [.tmp 2 ((.sl T22), .tail)] slices_Clip_api_Sense_an x = slices_Clip_api_Sense x := by kernel_rfl
theorem slices_Clip_api_Sense_ok : FnOk Try.prog 39 { args := [.val (.sl T22)], res := [((.sl T22), .tail)], f := slices_Clip_api_Sense } :=
  fn_ok slices_Clip_api_Sense_Eok Try.func39 rfl (by kernel_rfl) (by kernel_rfl) (by kernel_rfl) (rs := [.tmp 2 ((.sl T22), .tail)]) (c := bd Try.f39) (an := slices_Clip_api_Sense_an) (ob_flat _ _ _ _ _ _ _ (by kernel_rfl)) slices_Clip_api_Sense_eq
/-! sense_Add: function 14 -/
noncomputable def sense_Add_fns : List (Nat × Fun) := [(38, { args := [.val (.sl T22), .val T22], res := [(.bool, .view)], f := slices_Contains_api_Sense }), (19, { args := [], res := [(T22, .view)], f := sense_PowerOn }), (39, { args := [.val (.sl T22)], res := [((.sl T22), .tail)], f := slices_Clip_api_Sense })]
noncomputable def sense_Add_E : Env := { ty := Re.look tyTab, eq := fun n => memB n [23], fn := Re.look sense_Add_fns, cut := fun n => memB n [], win := fun n => memB n [], one := fun n => memB n [], onc := fun n => memB n [], pre := fun n => memB n [], ptr := fun n => memB n [], psl := fun n => memB n [], parr := Re.look [], mpt := Re.look [] }
noncomputable def sense_Add_an : An (Ds ((([.tmp 4 ((.sl T22), .view)] : List RV).map RV.pm).map (·.1) ++ ioTys [.val (.sl T22), .val T22])) :=
(.seq (.rg [] none)
(.seq (.block (.seq (.rg [] none)
(.cond (.seq (.rg [] none)
.leaf) (.seq (.rg [] (some (.op ⟨[48], []⟩ (.op ⟨[192], []⟩ (.op ⟨[], []⟩ (.op ⟨[], []⟩ .done))))))
(.cond (.seq (.rg [] none)
.leaf) (.seq (.rg [] none)
(.cond (.seq (.rg [] none)
.leaf) .leaf)))))))
(.seq (.rg [] (some (.op ⟨[], []⟩ (.op ⟨[352], [352]⟩ (.op ⟨[48], []⟩ (.op ⟨[384], [384]⟩ (.op ⟨[352, 384, 400], [352, 400]⟩ (.op ⟨[], []⟩ .done))))))))
.leaf)))
theorem sense_Add_Eok : EnvOk Try.prog sense_Add_E := env_ok tab_ok (by intro t h; simp only [List.mem_cons, List.mem_nil_iff, or_false, List.not_mem_nil] at h; rcases h with rfl <;> exact ⟨by kernel_rfl, by kernel_rfl, by kernel_rfl⟩) (allFn_mem (show AllFn Try.prog sense_Add_fns from ⟨slices_Contains_api_Sense_ok, sense_PowerOn_ok, slices_Clip_api_Sense_ok, trivial⟩)) mixed (by kernel_rfl) (by kernel_rfl) (by kernel_rfl) (by kernel_rfl)
theorem sense_Add_eq (x : (List (Int × (Int × (Int × Unit)))) × (Int × (Int × (Int × Unit)))) : evF sense_Add_E 26 (bd Try.f14) [.val (.sl T22), .val T22] [.tmp 4 ((.sl T22), .view)] sense_Add_an x = sense_Add x := by kernel_rfl
theorem sense_Add_ok : FnOk Try.prog 14 { args := [.val (.sl T22), .val T22], res := [((.sl T22), .view)], f := sense_Add } :=
  fn_ok sense_Add_Eok Try.func14 rfl (by kernel_rfl) (by kernel_rfl) (by kernel_rfl) (rs := [.tmp 4 ((.sl T22), .view)]) (c := bd Try.f14) (an := sense_Add_an) (ob_flat _ _ _ _ _ _ _ (by kernel_rfl)) sense_Add_eq
/-! sense_First: function 16 -/
noncomputable def sense_First_fns : List (Nat × Fun) := []
noncomputable def sense_First_E : Env := { ty := Re.look tyTab, eq := fun n => memB n [], fn := Re.look sense_First_fns, cut := fun n => memB n [], win := fun n => memB n [], one := fun n => memB n [], onc := fun n => memB n [], pre := fun n => memB n [], ptr := fun n => memB n [], psl := fun n => memB n [], parr := Re.look [], mpt := Re.look [] }
noncomputable def sense_First_an : An (Ds ((([.cell 2 T22, .tmp 3 ((.sl T22), .view)] : List RV).map RV.pm).map (·.1) ++ ioTys [.val (.sl T22)])) :=
(.seq (.rg [] none)
(.seq (.seq (.rg [] none)
(.cond (.seq (.rg [] none)
.leaf) .leaf))
(.seq (.rg [] (some (.op ⟨[], []⟩ (.op ⟨[], []⟩ (.op ⟨[], []⟩ (.op ⟨[], []⟩ (.op ⟨[], []⟩ (.op ⟨[32], [32]⟩ (.op ⟨[], []⟩ .done)))))))))
.leaf)))
theorem sense_First_Eok : EnvOk Try.prog sense_First_E := env_ok tab_ok (by simp) (allFn_mem (show AllFn Try.prog sense_First_fns from trivial)) mixed (by kernel_rfl) (by kernel_rfl) (by kernel_rfl) (by kernel_rfl)
theorem sense_First_eq (x : (List (Int × (Int × (Int × Unit))))) : evF sense_First_E 13 (bd Try.f16) [.val (.sl T22)] [.cell 2 T22, .tmp 3 ((.sl T22), .view)] sense_First_an x = sense_First x := by kernel_rfl
theorem sense_First_ok : FnOk Try.prog 16 { args := [.val (.sl T22)], res := [(T22, .view), ((.sl T22), .view)], f := sense_First } :=
  fn_ok sense_First_Eok Try.func16 rfl (by kernel_rfl) (by kernel_rfl) (by kernel_rfl) (rs := [.cell 2 T22, .tmp 3 ((.sl T22), .view)]) (c := bd Try.f16) (an := sense_First_an) (ob_flat _ _ _ _ _ _ _ (by kernel_rfl)) sense_First_eq
/-! reticulelaw04_alive: function 7 -/
noncomputable def reticulelaw04_alive_fns : List (Nat × Fun) := [(25, { args := [], res := [(T22, .view)], f := sense_NotReady }), (26, { args := [], res := [(T22, .view)], f := sense_Protected }), (27, { args := [], res := [(T22, .view)], f := sense_Kept }), (28, { args := [], res := [(T22, .view)], f := sense_Range }), (29, { args := [], res := [(T22, .view)], f := sense_Field }), (30, { args := [], res := [(T22, .view)], f := sense_Unknown }), (31, { args := [], res := [(T22, .view)], f := sense_NoUnit }), (32, { args := [], res := [(T22, .view)], f := sense_Parameter }), (33, { args := [], res := [(T22, .view)], f := sense_Length }), (34, { args := [], res := [(T22, .view)], f := sense_Saving }), (35, { args := [], res := [(T22, .view)], f := sense_Differs }), (19, { args := [], res := [(T22, .view)], f := sense_PowerOn }), (20, { args := [], res := [(T22, .view)], f := sense_BusReset }), (21, { args := [], res := [(T22, .view)], f := sense_UnitReset }), (22, { args := [], res := [(T22, .view)], f := sense_NexusLoss }), (23, { args := [], res := [(T22, .view)], f := sense_NewMedium }), (13, { args := [.val (.int .i64), .val (.int .i64), .val (.int .i64)], res := [(T22, .view)], f := reticuleref04_Of }), (12, { args := [.val T22], res := [(.bool, .view)], f := sense_Good }), (10, { args := [.val T22], res := [((.sl (.int .u8)), .full)], f := sense_Bytes }), (8, { args := [.val (.sl (.int .u8))], res := [(T22, .view), (.bool, .view)], f := sense_Parse }), (14, { args := [.val (.sl T22), .val T22], res := [((.sl T22), .view)], f := sense_Add }), (16, { args := [.val (.sl T22)], res := [(T22, .view), ((.sl T22), .view)], f := sense_First })]
noncomputable def reticulelaw04_alive_E : Env := { ty := Re.look tyTab, eq := fun n => memB n [23], fn := Re.look reticulelaw04_alive_fns, cut := fun n => memB n [], win := fun n => memB n [], one := fun n => memB n [], onc := fun n => memB n [], pre := fun n => memB n [], ptr := fun n => memB n [], psl := fun n => memB n [], parr := Re.look [], mpt := Re.look [] }
noncomputable def reticulelaw04_alive_an : An (Ds ((([.tmp 0 (.bool, .view)] : List RV).map RV.pm).map (·.1) ++ ioTys [])) :=
(.seq (.rg [] none)
(.seq (.rg [] none)
(.seq (.rg [] none)
(.seq (.seq (.rg [] none)
(.loop [.box 1 (.arr 16 T22), .box 2 (.arr 16 (.arr 3 (.int .i64))), .val 3 (.int .i64)] [.box 1 (.arr 16 T22)] reticulelaw04_alive_L0
(.seq (.seq (.rg [] none)
(.cond .leaf .leaf))
(.seq (.block (.seq (.rg [] (some (.op ⟨[], []⟩ (.op ⟨[16], []⟩ (.op ⟨[16], []⟩ (.op ⟨[], []⟩ (.op ⟨[32], []⟩ (.op ⟨[32], []⟩ (.op ⟨[32], []⟩ (.op ⟨[], []⟩ (.op ⟨[32], []⟩ (.op ⟨[32], []⟩ (.op ⟨[32], []⟩ (.op ⟨[], []⟩ (.op ⟨[32], []⟩ (.op ⟨[32], []⟩ (.op ⟨[32], []⟩ (.op ⟨[992], []⟩ (.op ⟨[], []⟩ (.op ⟨[], []⟩ (.split 64 [(69, .bool)] (.op ⟨[], []⟩ (.op ⟨[16], []⟩ (.op ⟨[16], []⟩ (.op ⟨[1088], []⟩ (.op ⟨[], []⟩ .done))))) .done)))))))))))))))))))))
(.cond (.seq (.rg [] none)
.leaf) .leaf)))
(.rg [] none)))))
(.seq (.rg [] none)
(.seq (.rg [] (some (.op ⟨[16], []⟩ (.op ⟨[16], []⟩ (.op ⟨[1264], []⟩ (.op ⟨[16], []⟩ (.op ⟨[16], []⟩ (.op ⟨[1312], []⟩ (.op ⟨[], []⟩ .done)))))))))
(.seq (.rg [] none)
(.seq (.rg [] (some (.op ⟨[], []⟩ (.op ⟨[], []⟩ (.split 89 [(94, .bool)] (.op ⟨[64], []⟩ (.op ⟨[16], []⟩ (.op ⟨[16], []⟩ (.op ⟨[], []⟩ (.op ⟨[], []⟩ .done))))) (.op ⟨[], []⟩ (.split 95 [(99, .bool)] (.op ⟨[], []⟩ (.op ⟨[], []⟩ (.op ⟨[], []⟩ (.op ⟨[], []⟩ .done)))) (.op ⟨[], []⟩ (.split 100 [(105, .bool)] (.op ⟨[112], []⟩ (.op ⟨[16], []⟩ (.op ⟨[16], []⟩ (.op ⟨[], []⟩ (.op ⟨[], []⟩ .done))))) (.op ⟨[], []⟩ (.split 106 [(110, .bool)] (.op ⟨[], []⟩ (.op ⟨[], []⟩ (.op ⟨[], []⟩ (.op ⟨[], []⟩ .done)))) (.op ⟨[], []⟩ (.split 111 [(118, .bool)] (.op ⟨[], []⟩ (.op ⟨[16], []⟩ (.op ⟨[16], []⟩ (.op ⟨[1840], []⟩ (.op ⟨[], []⟩ (.op ⟨[], []⟩ (.op ⟨[], []⟩ .done))))))) (.op ⟨[], []⟩ (.split 119 [(122, .bool)] (.op ⟨[], []⟩ (.op ⟨[1936], []⟩ (.op ⟨[], []⟩ .done))) (.op ⟨[], []⟩ .done))))))))))))))))
.leaf))))))))
theorem reticulelaw04_alive_Eok : EnvOk Try.prog reticulelaw04_alive_E := env_ok tab_ok (by intro t h; simp only [List.mem_cons, List.mem_nil_iff, or_false, List.not_mem_nil] at h; rcases h with rfl <;> exact ⟨by kernel_rfl, by kernel_rfl, by kernel_rfl⟩) (allFn_mem (show AllFn Try.prog reticulelaw04_alive_fns from ⟨sense_NotReady_ok, sense_Protected_ok, sense_Kept_ok, sense_Range_ok, sense_Field_ok, sense_Unknown_ok, sense_NoUnit_ok, sense_Parameter_ok, sense_Length_ok, sense_Saving_ok, sense_Differs_ok, sense_PowerOn_ok, sense_BusReset_ok, sense_UnitReset_ok, sense_NexusLoss_ok, sense_NewMedium_ok, reticuleref04_Of_ok, sense_Good_ok, sense_Bytes_ok, sense_Parse_ok, sense_Add_ok, sense_First_ok, trivial⟩)) mixed (by kernel_rfl) (by kernel_rfl) (by kernel_rfl) (by kernel_rfl)
theorem reticulelaw04_alive_eq (x : Unit) : evF reticulelaw04_alive_E 123 (bd Try.f7) [] [.tmp 0 (.bool, .view)] reticulelaw04_alive_an x = reticulelaw04_alive x := by kernel_rfl
theorem reticulelaw04_alive_ok : FnOk Try.prog 7 { args := [], res := [(.bool, .view)], f := reticulelaw04_alive } :=
  fn_ok reticulelaw04_alive_Eok Try.func7 rfl (by kernel_rfl) (by kernel_rfl) (by kernel_rfl) (rs := [.tmp 0 (.bool, .view)]) (c := bd Try.f7) (an := reticulelaw04_alive_an) (show obF reticulelaw04_alive_E 123 (bd Try.f7) [] [.tmp 0 (.bool, .view)] reticulelaw04_alive_an from (And.intro trivial (And.intro trivial (And.intro trivial (And.intro (And.intro trivial (And.intro (fun _ => rfl) (And.intro (fun n j => by kernel_rfl) (fun n => (And.intro (And.intro trivial (And.intro trivial trivial)) (And.intro (And.intro trivial (And.intro (And.intro trivial trivial) trivial)) trivial)))))) (And.intro trivial (And.intro trivial (And.intro trivial (And.intro trivial trivial))))))))) reticulelaw04_alive_eq
/-! reticuleref04_Bytes: function 11 -/
noncomputable def reticuleref04_Bytes_fns : List (Nat × Fun) := []
noncomputable def reticuleref04_Bytes_E : Env := { ty := Re.look tyTab, eq := fun n => memB n [], fn := Re.look reticuleref04_Bytes_fns, cut := fun n => memB n [], win := fun n => memB n [], one := fun n => memB n [], onc := fun n => memB n [], pre := fun n => memB n [], ptr := fun n => memB n [], psl := fun n => memB n [], parr := Re.look [], mpt := Re.look [] }
noncomputable def reticuleref04_Bytes_an : An (Ds ((([.tmp 2 ((.sl (.int .u8)), .full)] : List RV).map RV.pm).map (·.1) ++ ioTys [.val T22])) :=
(.seq (.rg [] none)
(.seq (.rg [] none)
.leaf))
theorem reticuleref04_Bytes_Eok : EnvOk Try.prog reticuleref04_Bytes_E := env_ok tab_ok (by simp) (allFn_mem (show AllFn Try.prog reticuleref04_Bytes_fns from trivial)) mixed (by kernel_rfl) (by kernel_rfl) (by kernel_rfl) (by kernel_rfl)
theorem reticuleref04_Bytes_eq (x : (Int × (Int × (Int × Unit)))) : evF reticuleref04_Bytes_E 13 (bd Try.f11) [.val T22] [.tmp 2 ((.sl (.int .u8)), .full)] reticuleref04_Bytes_an x = reticuleref04_Bytes x := by kernel_rfl
theorem reticuleref04_Bytes_ok : FnOk Try.prog 11 { args := [.val T22], res := [((.sl (.int .u8)), .full)], f := reticuleref04_Bytes } :=
  fn_ok reticuleref04_Bytes_Eok Try.func11 rfl (by kernel_rfl) (by kernel_rfl) (by kernel_rfl) (rs := [.tmp 2 ((.sl (.int .u8)), .full)]) (c := bd Try.f11) (an := reticuleref04_Bytes_an) (ob_flat _ _ _ _ _ _ _ (by kernel_rfl)) reticuleref04_Bytes_eq
/-! reticuleref04_Parse: function 9 -/
noncomputable def reticuleref04_Parse_fns : List (Nat × Fun) := [(13, { args := [.val (.int .i64), .val (.int .i64), .val (.int .i64)], res := [(T22, .view)], f := reticuleref04_Of }), (11, { args := [.val T22], res := [((.sl (.int .u8)), .full)], f := reticuleref04_Bytes })]
noncomputable def reticuleref04_Parse_E : Env := { ty := Re.look tyTab, eq := fun n => memB n [], fn := Re.look reticuleref04_Parse_fns, cut := fun n => memB n [], win := fun n => memB n [], one := fun n => memB n [], onc := fun n => memB n [], pre := fun n => memB n [], ptr := fun n => memB n [], psl := fun n => memB n [], parr := Re.look [], mpt := Re.look [] }
noncomputable def reticuleref04_Parse_an : An (Ds ((([.cell 2 T22, .tmp 3 (.bool, .view)] : List RV).map RV.pm).map (·.1) ++ ioTys [.val (.sl (.int .u8))])) :=
(.seq (.rg [] none)
(.seq (.seq (.rg [] none)
(.cond (.seq (.rg [] none)
.leaf) .leaf))
(.seq (.rg [] (some (.op ⟨[], []⟩ (.op ⟨[], []⟩ (.op ⟨[], []⟩ (.op ⟨[], []⟩ (.op ⟨[], []⟩ (.op ⟨[], []⟩ (.op ⟨[], []⟩ (.op ⟨[], []⟩ (.op ⟨[], []⟩ (.op ⟨[], []⟩ (.op ⟨[], []⟩ (.op ⟨[], []⟩ (.op ⟨[336], []⟩ (.op ⟨[64], [64]⟩ (.op ⟨[64], [64]⟩ .done)))))))))))))))))
(.seq (.seq (.rg [] (some (.op ⟨[64], []⟩ (.op ⟨[368], [368]⟩ (.op ⟨[368], []⟩ (.op ⟨[], []⟩ (.op ⟨[], []⟩ (.op ⟨[], []⟩ .done))))))))
(.cond (.seq (.rg [] none)
.leaf) .leaf))
(.seq (.rg [] none)
.leaf)))))
theorem reticuleref04_Parse_Eok : EnvOk Try.prog reticuleref04_Parse_E := env_ok tab_ok (by simp) (allFn_mem (show AllFn Try.prog reticuleref04_Parse_fns from ⟨reticuleref04_Of_ok, reticuleref04_Bytes_ok, trivial⟩)) mixed (by kernel_rfl) (by kernel_rfl) (by kernel_rfl) (by kernel_rfl)
theorem reticuleref04_Parse_eq (x : (List (BitVec 8))) : evF reticuleref04_Parse_E 30 (bd Try.f9) [.val (.sl (.int .u8))] [.cell 2 T22, .tmp 3 (.bool, .view)] reticuleref04_Parse_an x = reticuleref04_Parse x := by kernel_rfl
theorem reticuleref04_Parse_ok : FnOk Try.prog 9 { args := [.val (.sl (.int .u8))], res := [(T22, .view), (.bool, .view)], f := reticuleref04_Parse } :=
  fn_ok reticuleref04_Parse_Eok Try.func9 rfl (by kernel_rfl) (by kernel_rfl) (by kernel_rfl) (rs := [.cell 2 T22, .tmp 3 (.bool, .view)]) (c := bd Try.f9) (an := reticuleref04_Parse_an) (ob_flat _ _ _ _ _ _ _ (by kernel_rfl)) reticuleref04_Parse_eq
/-! reticulelaw04_SenseBytes: function 3 -/
noncomputable def reticulelaw04_SenseBytes_fns : List (Nat × Fun) := [(7, { args := [], res := [(.bool, .view)], f := reticulelaw04_alive }), (8, { args := [.val (.sl (.int .u8))], res := [(T22, .view), (.bool, .view)], f := sense_Parse }), (9, { args := [.val (.sl (.int .u8))], res := [(T22, .view), (.bool, .view)], f := reticuleref04_Parse }), (10, { args := [.val T22], res := [((.sl (.int .u8)), .full)], f := sense_Bytes }), (11, { args := [.val T22], res := [((.sl (.int .u8)), .full)], f := reticuleref04_Bytes }), (12, { args := [.val T22], res := [(.bool, .view)], f := sense_Good })]
noncomputable def reticulelaw04_SenseBytes_E : Env := { ty := Re.look tyTab, eq := fun n => memB n [23], fn := Re.look reticulelaw04_SenseBytes_fns, cut := fun n => memB n [], win := fun n => memB n [], one := fun n => memB n [], onc := fun n => memB n [], pre := fun n => memB n [], ptr := fun n => memB n [], psl := fun n => memB n [], parr := Re.look [], mpt := Re.look [] }
noncomputable def reticulelaw04_SenseBytes_an : An (Ds ((([.tmp 4 (.bool, .view)] : List RV).map RV.pm).map (·.1) ++ ioTys [.val T22, .val (.sl (.int .u8))])) :=
(.seq (.rg [] none)
(.seq (.seq (.rg [] none)
(.cond (.seq (.rg [] none)
.leaf) .leaf))
(.seq (.seq (.rg [] none)
(.cond (.seq (.rg [] none)
.leaf) .leaf))
(.seq (.rg [] none)
(.seq (.rg [] none)
(.seq (.rg [] (some (.op ⟨[32], []⟩ (.op ⟨[400], [400]⟩ (.op ⟨[400], []⟩ (.op ⟨[32], []⟩ (.op ⟨[448], [448]⟩ (.op ⟨[448], []⟩ (.op ⟨[], []⟩ (.op ⟨[], []⟩ (.split 31 [(35, .bool)] (.op ⟨[80], []⟩ (.op ⟨[112], []⟩ (.op ⟨[], []⟩ (.op ⟨[], []⟩ .done)))) (.op ⟨[], []⟩ (.split 36 [(40, .bool)] (.op ⟨[], []⟩ (.op ⟨[], []⟩ (.op ⟨[], []⟩ (.op ⟨[], []⟩ .done)))) (.op ⟨[], []⟩ (.split 41 [(48, .bool)] (.op ⟨[32], []⟩ (.op ⟨[688], []⟩ (.op ⟨[32], []⟩ (.op ⟨[], []⟩ (.op ⟨[], []⟩ (.op ⟨[], []⟩ (.op ⟨[], []⟩ .done))))))) (.op ⟨[], []⟩ .done))))))))))))))))
.leaf))))))
theorem reticulelaw04_SenseBytes_Eok : EnvOk Try.prog reticulelaw04_SenseBytes_E := env_ok tab_ok (by intro t h; simp only [List.mem_cons, List.mem_nil_iff, or_false, List.not_mem_nil] at h; rcases h with rfl <;> exact ⟨by kernel_rfl, by kernel_rfl, by kernel_rfl⟩) (allFn_mem (show AllFn Try.prog reticulelaw04_SenseBytes_fns from ⟨reticulelaw04_alive_ok, sense_Parse_ok, reticuleref04_Parse_ok, sense_Bytes_ok, reticuleref04_Bytes_ok, sense_Good_ok, trivial⟩)) mixed (by kernel_rfl) (by kernel_rfl) (by kernel_rfl) (by kernel_rfl)
theorem reticulelaw04_SenseBytes_eq (x : (Int × (Int × (Int × Unit))) × (List (BitVec 8))) : evF reticulelaw04_SenseBytes_E 49 (bd Try.f3) [.val T22, .val (.sl (.int .u8))] [.tmp 4 (.bool, .view)] reticulelaw04_SenseBytes_an x = reticulelaw04_SenseBytes x := by kernel_rfl
theorem reticulelaw04_SenseBytes_ok : FnOk Try.prog 3 { args := [.val T22, .val (.sl (.int .u8))], res := [(.bool, .view)], f := reticulelaw04_SenseBytes } :=
  fn_ok reticulelaw04_SenseBytes_Eok Try.func3 rfl (by kernel_rfl) (by kernel_rfl) (by kernel_rfl) (rs := [.tmp 4 (.bool, .view)]) (c := bd Try.f3) (an := reticulelaw04_SenseBytes_an) (ob_flat _ _ _ _ _ _ _ (by kernel_rfl)) reticulelaw04_SenseBytes_eq
/-! reticulelaw04_SenseBack: function 4 -/
noncomputable def reticulelaw04_SenseBack_fns : List (Nat × Fun) := [(7, { args := [], res := [(.bool, .view)], f := reticulelaw04_alive }), (13, { args := [.val (.int .i64), .val (.int .i64), .val (.int .i64)], res := [(T22, .view)], f := reticuleref04_Of }), (10, { args := [.val T22], res := [((.sl (.int .u8)), .full)], f := sense_Bytes }), (8, { args := [.val (.sl (.int .u8))], res := [(T22, .view), (.bool, .view)], f := sense_Parse }), (12, { args := [.val T22], res := [(.bool, .view)], f := sense_Good })]
noncomputable def reticulelaw04_SenseBack_E : Env := { ty := Re.look tyTab, eq := fun n => memB n [23], fn := Re.look reticulelaw04_SenseBack_fns, cut := fun n => memB n [], win := fun n => memB n [], one := fun n => memB n [], onc := fun n => memB n [], pre := fun n => memB n [], ptr := fun n => memB n [], psl := fun n => memB n [], parr := Re.look [], mpt := Re.look [] }
noncomputable def reticulelaw04_SenseBack_an : An (Ds ((([.tmp 4 (.bool, .view)] : List RV).map RV.pm).map (·.1) ++ ioTys [.val (.arr 3 (.int .u8)), .val (.sl (.int .u8))])) :=
(.seq (.rg [] none)
(.seq (.seq (.rg [] none)
(.cond (.seq (.rg [] none)
.leaf) .leaf))
(.seq (.seq (.rg [] none)
(.cond (.seq (.rg [] none)
.leaf) .leaf))
(.seq (.rg [] none)
(.seq (.rg [] none)
(.seq (.rg [] none)
(.seq (.rg [] (some (.op ⟨[], []⟩ (.op ⟨[], []⟩ (.split 37 [(41, .bool)] (.op ⟨[96], []⟩ (.op ⟨[80], []⟩ (.op ⟨[], []⟩ (.op ⟨[], []⟩ .done)))) (.op ⟨[], []⟩ (.split 42 [(47, .bool)] (.op ⟨[80], []⟩ (.op ⟨[704], [704]⟩ (.op ⟨[704], []⟩ (.op ⟨[], []⟩ (.op ⟨[], []⟩ .done))))) (.op ⟨[], []⟩ (.split 48 [(66, .bool)] (.op ⟨[], []⟩ (.op ⟨[], []⟩ (.op ⟨[], []⟩ (.split 51 [(54, .bool)] (.op ⟨[128], []⟩ (.op ⟨[848], []⟩ (.op ⟨[], []⟩ .done))) (.op ⟨[], []⟩ (.split 55 [(65, .bool)] (.op ⟨[], []⟩ (.op ⟨[], []⟩ (.split 57 [(64, .bool)] (.op ⟨[128], []⟩ (.op ⟨[944], [944]⟩ (.op ⟨[944], []⟩ (.op ⟨[], []⟩ (.op ⟨[], []⟩ (.op ⟨[], []⟩ (.op ⟨[], []⟩ .done))))))) (.op ⟨[], []⟩ .done)))) (.op ⟨[], []⟩ .done))))))) (.op ⟨[], []⟩ .done))))))))))
.leaf)))))))
theorem reticulelaw04_SenseBack_Eok : EnvOk Try.prog reticulelaw04_SenseBack_E := env_ok tab_ok (by intro t h; simp only [List.mem_cons, List.mem_nil_iff, or_false, List.not_mem_nil] at h; rcases h with rfl <;> exact ⟨by kernel_rfl, by kernel_rfl, by kernel_rfl⟩) (allFn_mem (show AllFn Try.prog reticulelaw04_SenseBack_fns from ⟨reticulelaw04_alive_ok, reticuleref04_Of_ok, sense_Bytes_ok, sense_Parse_ok, sense_Good_ok, trivial⟩)) mixed (by kernel_rfl) (by kernel_rfl) (by kernel_rfl) (by kernel_rfl)
theorem reticulelaw04_SenseBack_eq (x : (List (BitVec 8)) × (List (BitVec 8))) : evF reticulelaw04_SenseBack_E 67 (bd Try.f4) [.val (.arr 3 (.int .u8)), .val (.sl (.int .u8))] [.tmp 4 (.bool, .view)] reticulelaw04_SenseBack_an x = reticulelaw04_SenseBack x := by kernel_rfl
theorem reticulelaw04_SenseBack_ok : FnOk Try.prog 4 { args := [.val (.arr 3 (.int .u8)), .val (.sl (.int .u8))], res := [(.bool, .view)], f := reticulelaw04_SenseBack } :=
  fn_ok reticulelaw04_SenseBack_Eok Try.func4 rfl (by kernel_rfl) (by kernel_rfl) (by kernel_rfl) (rs := [.tmp 4 (.bool, .view)]) (c := bd Try.f4) (an := reticulelaw04_SenseBack_an) (ob_flat _ _ _ _ _ _ _ (by kernel_rfl)) reticulelaw04_SenseBack_eq
/-! reticuleref04_Has: function 24 -/
noncomputable def reticuleref04_Has_fns : List (Nat × Fun) := []
noncomputable def reticuleref04_Has_E : Env := { ty := Re.look tyTab, eq := fun n => memB n [23], fn := Re.look reticuleref04_Has_fns, cut := fun n => memB n [], win := fun n => memB n [], one := fun n => memB n [], onc := fun n => memB n [], pre := fun n => memB n [], ptr := fun n => memB n [], psl := fun n => memB n [], parr := Re.look [], mpt := Re.look [] }
noncomputable def reticuleref04_Has_an : An (Ds ((([.tmp 4 (.bool, .view)] : List RV).map RV.pm).map (·.1) ++ ioTys [.val (.sl T22), .val T22])) :=
(.seq (.rg [] none)
(.seq (.seq (.rg [] none)
(.loop [.val 0 (.sl T22), .box 3 T22, .val 5 (.int .i64)] [] reticuleref04_Has_L0
(.seq (.seq (.rg [] none)
(.cond .leaf .leaf))
(.seq (.block (.seq (.rg [] (some (.op ⟨[], []⟩ (.op ⟨[], []⟩ (.op ⟨[], []⟩ (.op ⟨[], []⟩ (.op ⟨[48], []⟩ (.op ⟨[], []⟩ .done))))))))
(.cond (.seq (.rg [] none)
.leaf) .leaf)))
(.rg [] none)))))
(.seq (.rg [] none)
.leaf)))
theorem reticuleref04_Has_Eok : EnvOk Try.prog reticuleref04_Has_E := env_ok tab_ok (by intro t h; simp only [List.mem_cons, List.mem_nil_iff, or_false, List.not_mem_nil] at h; rcases h with rfl <;> exact ⟨by kernel_rfl, by kernel_rfl, by kernel_rfl⟩) (allFn_mem (show AllFn Try.prog reticuleref04_Has_fns from trivial)) mixed (by kernel_rfl) (by kernel_rfl) (by kernel_rfl) (by kernel_rfl)
theorem reticuleref04_Has_eq (x : (List (Int × (Int × (Int × Unit)))) × (Int × (Int × (Int × Unit)))) : evF reticuleref04_Has_E 18 (bd Try.f24) [.val (.sl T22), .val T22] [.tmp 4 (.bool, .view)] reticuleref04_Has_an x = reticuleref04_Has x := by kernel_rfl
theorem reticuleref04_Has_ok : FnOk Try.prog 24 { args := [.val (.sl T22), .val T22], res := [(.bool, .view)], f := reticuleref04_Has } :=
  fn_ok reticuleref04_Has_Eok Try.func24 rfl (by kernel_rfl) (by kernel_rfl) (by kernel_rfl) (rs := [.tmp 4 (.bool, .view)]) (c := bd Try.f24) (an := reticuleref04_Has_an) (show obF reticuleref04_Has_E 18 (bd Try.f24) [.val (.sl T22), .val T22] [.tmp 4 (.bool, .view)] reticuleref04_Has_an from (And.intro trivial (And.intro (And.intro trivial (And.intro (fun _ => rfl) (And.intro (fun n j => by kernel_rfl) (fun n => (And.intro (And.intro trivial (And.intro trivial trivial)) (And.intro (And.intro trivial (And.intro (And.intro trivial trivial) trivial)) trivial)))))) (And.intro trivial trivial)))) reticuleref04_Has_eq
/-! reticuleref04_Add: function 15 -/
noncomputable def reticuleref04_Add_fns : List (Nat × Fun) := [(24, { args := [.val (.sl T22), .val T22], res := [(.bool, .view)], f := reticuleref04_Has }), (13, { args := [.val (.int .i64), .val (.int .i64), .val (.int .i64)], res := [(T22, .view)], f := reticuleref04_Of })]
noncomputable def reticuleref04_Add_E : Env := { ty := Re.look tyTab, eq := fun n => memB n [23], fn := Re.look reticuleref04_Add_fns, cut := fun n => memB n [], win := fun n => memB n [], one := fun n => memB n [], onc := fun n => memB n [], pre := fun n => memB n [], ptr := fun n => memB n [], psl := fun n => memB n [], parr := Re.look [], mpt := Re.look [] }
noncomputable def reticuleref04_Add_an : An (Ds ((([.tmp 4 ((.sl T22), .full)] : List RV).map RV.pm).map (·.1) ++ ioTys [.val (.sl T22), .val T22])) :=
(.seq (.rg [] none)
(.seq (.rg [] none)
(.seq (.seq (.rg [] none)
(.cond (.seq (.rg [] none)
.leaf) .leaf))
(.seq (.seq (.rg [] (some (.op ⟨[48], []⟩ (.op ⟨[224], []⟩ (.op ⟨[], []⟩ .done)))))
(.cond (.seq (.rg [] none)
.leaf) .leaf))
(.seq (.seq (.rg [] none)
(.cond (.seq (.rg [] none)
.leaf) .leaf))
(.seq (.rg [] none)
.leaf))))))
theorem reticuleref04_Add_Eok : EnvOk Try.prog reticuleref04_Add_E := env_ok tab_ok (by intro t h; simp only [List.mem_cons, List.mem_nil_iff, or_false, List.not_mem_nil] at h; rcases h with rfl <;> exact ⟨by kernel_rfl, by kernel_rfl, by kernel_rfl⟩) (allFn_mem (show AllFn Try.prog reticuleref04_Add_fns from ⟨reticuleref04_Has_ok, reticuleref04_Of_ok, trivial⟩)) mixed (by kernel_rfl) (by kernel_rfl) (by kernel_rfl) (by kernel_rfl)
theorem reticuleref04_Add_eq (x : (List (Int × (Int × (Int × Unit)))) × (Int × (Int × (Int × Unit)))) : evF reticuleref04_Add_E 26 (bd Try.f15) [.val (.sl T22), .val T22] [.tmp 4 ((.sl T22), .full)] reticuleref04_Add_an x = reticuleref04_Add x := by kernel_rfl
theorem reticuleref04_Add_ok : FnOk Try.prog 15 { args := [.val (.sl T22), .val T22], res := [((.sl T22), .full)], f := reticuleref04_Add } :=
  fn_ok reticuleref04_Add_Eok Try.func15 rfl (by kernel_rfl) (by kernel_rfl) (by kernel_rfl) (rs := [.tmp 4 ((.sl T22), .full)]) (c := bd Try.f15) (an := reticuleref04_Add_an) (ob_flat _ _ _ _ _ _ _ (by kernel_rfl)) reticuleref04_Add_eq
/-! reticuleref04_First: function 17 -/
noncomputable def reticuleref04_First_fns : List (Nat × Fun) := []
noncomputable def reticuleref04_First_E : Env := { ty := Re.look tyTab, eq := fun n => memB n [], fn := Re.look reticuleref04_First_fns, cut := fun n => memB n [], win := fun n => memB n [], one := fun n => memB n [], onc := fun n => memB n [], pre := fun n => memB n [], ptr := fun n => memB n [], psl := fun n => memB n [], parr := Re.look [], mpt := Re.look [] }
noncomputable def reticuleref04_First_an : An (Ds ((([.cell 2 T22, .tmp 3 ((.sl T22), .full)] : List RV).map RV.pm).map (·.1) ++ ioTys [.val (.sl T22)])) :=
(.seq (.rg [] none)
(.seq (.seq (.rg [] none)
(.cond (.seq (.rg [] none)
.leaf) .leaf))
(.seq (.rg [] (some (.op ⟨[], []⟩ (.op ⟨[], []⟩ (.op ⟨[], []⟩ (.op ⟨[176], [176]⟩ (.op ⟨[], []⟩ (.op ⟨[], []⟩ (.op ⟨[176, 224], [176, 224]⟩ (.op ⟨[32], [32]⟩ (.op ⟨[], []⟩ .done)))))))))))
.leaf)))
theorem reticuleref04_First_Eok : EnvOk Try.prog reticuleref04_First_E := env_ok tab_ok (by simp) (allFn_mem (show AllFn Try.prog reticuleref04_First_fns from trivial)) mixed (by kernel_rfl) (by kernel_rfl) (by kernel_rfl) (by kernel_rfl)
theorem reticuleref04_First_eq (x : (List (Int × (Int × (Int × Unit))))) : evF reticuleref04_First_E 15 (bd Try.f17) [.val (.sl T22)] [.cell 2 T22, .tmp 3 ((.sl T22), .full)] reticuleref04_First_an x = reticuleref04_First x := by kernel_rfl
theorem reticuleref04_First_ok : FnOk Try.prog 17 { args := [.val (.sl T22)], res := [(T22, .view), ((.sl T22), .full)], f := reticuleref04_First } :=
  fn_ok reticuleref04_First_Eok Try.func17 rfl (by kernel_rfl) (by kernel_rfl) (by kernel_rfl) (rs := [.cell 2 T22, .tmp 3 ((.sl T22), .full)]) (c := bd Try.f17) (an := reticuleref04_First_an) (ob_flat _ _ _ _ _ _ _ (by kernel_rfl)) reticuleref04_First_eq
/-! reticuleref04_Same: function 18 -/
noncomputable def reticuleref04_Same_fns : List (Nat × Fun) := []
noncomputable def reticuleref04_Same_E : Env := { ty := Re.look tyTab, eq := fun n => memB n [23], fn := Re.look reticuleref04_Same_fns, cut := fun n => memB n [], win := fun n => memB n [], one := fun n => memB n [], onc := fun n => memB n [], pre := fun n => memB n [], ptr := fun n => memB n [], psl := fun n => memB n [], parr := Re.look [], mpt := Re.look [] }
noncomputable def reticuleref04_Same_an : An (Ds ((([.tmp 4 (.bool, .view)] : List RV).map RV.pm).map (·.1) ++ ioTys [.val (.sl T22), .val (.sl T22)])) :=
(.seq (.rg [] none)
(.seq (.seq (.rg [] none)
(.cond (.seq (.rg [] none)
.leaf) .leaf))
(.seq (.seq (.rg [] none)
(.loop [.val 0 (.sl T22), .val 1 (.sl T22), .val 5 (.int .i64)] [] reticuleref04_Same_L0
(.seq (.seq (.rg [] none)
(.cond .leaf .leaf))
(.seq (.block (.seq (.rg [] (some (.op ⟨[], []⟩ (.op ⟨[], []⟩ (.op ⟨[], []⟩ (.op ⟨[], []⟩ (.op ⟨[], []⟩ (.op ⟨[], []⟩ (.op ⟨[], []⟩ (.op ⟨[], []⟩ (.op ⟨[], []⟩ .done)))))))))))
(.cond (.seq (.rg [] none)
.leaf) .leaf)))
(.rg [] none)))))
(.seq (.rg [] none)
.leaf))))
theorem reticuleref04_Same_Eok : EnvOk Try.prog reticuleref04_Same_E := env_ok tab_ok (by intro t h; simp only [List.mem_cons, List.mem_nil_iff, or_false, List.not_mem_nil] at h; rcases h with rfl <;> exact ⟨by kernel_rfl, by kernel_rfl, by kernel_rfl⟩) (allFn_mem (show AllFn Try.prog reticuleref04_Same_fns from trivial)) mixed (by kernel_rfl) (by kernel_rfl) (by kernel_rfl) (by kernel_rfl)
theorem reticuleref04_Same_eq (x : (List (Int × (Int × (Int × Unit)))) × (List (Int × (Int × (Int × Unit))))) : evF reticuleref04_Same_E 26 (bd Try.f18) [.val (.sl T22), .val (.sl T22)] [.tmp 4 (.bool, .view)] reticuleref04_Same_an x = reticuleref04_Same x := by kernel_rfl
theorem reticuleref04_Same_ok : FnOk Try.prog 18 { args := [.val (.sl T22), .val (.sl T22)], res := [(.bool, .view)], f := reticuleref04_Same } :=
  fn_ok reticuleref04_Same_Eok Try.func18 rfl (by kernel_rfl) (by kernel_rfl) (by kernel_rfl) (rs := [.tmp 4 (.bool, .view)]) (c := bd Try.f18) (an := reticuleref04_Same_an) (show obF reticuleref04_Same_E 26 (bd Try.f18) [.val (.sl T22), .val (.sl T22)] [.tmp 4 (.bool, .view)] reticuleref04_Same_an from (And.intro trivial (And.intro (And.intro trivial (And.intro (And.intro trivial trivial) trivial)) (And.intro (And.intro trivial (And.intro (fun _ => rfl) (And.intro (fun n j => by kernel_rfl) (fun n => (And.intro (And.intro trivial (And.intro trivial trivial)) (And.intro (And.intro trivial (And.intro (And.intro trivial trivial) trivial)) trivial)))))) (And.intro trivial trivial))))) reticuleref04_Same_eq
/-! reticulelaw04_SenseAdds: function 5 -/
noncomputable def reticulelaw04_SenseAdds_fns : List (Nat × Fun) := [(7, { args := [], res := [(.bool, .view)], f := reticulelaw04_alive }), (14, { args := [.val (.sl T22), .val T22], res := [((.sl T22), .view)], f := sense_Add }), (15, { args := [.val (.sl T22), .val T22], res := [((.sl T22), .full)], f := reticuleref04_Add }), (16, { args := [.val (.sl T22)], res := [(T22, .view), ((.sl T22), .view)], f := sense_First }), (17, { args := [.val (.sl T22)], res := [(T22, .view), ((.sl T22), .full)], f := reticuleref04_First }), (18, { args := [.val (.sl T22), .val (.sl T22)], res := [(.bool, .view)], f := reticuleref04_Same })]
noncomputable def reticulelaw04_SenseAdds_E : Env := { ty := Re.look tyTab, eq := fun n => memB n [23], fn := Re.look reticulelaw04_SenseAdds_fns, cut := fun n => memB n [], win := fun n => memB n [], one := fun n => memB n [], onc := fun n => memB n [], pre := fun n => memB n [], ptr := fun n => memB n [], psl := fun n => memB n [], parr := Re.look [], mpt := Re.look [] }
noncomputable def reticulelaw04_SenseAdds_an : An (Ds ((([.tmp 4 (.bool, .view)] : List RV).map RV.pm).map (·.1) ++ ioTys [.val (.sl T22), .val T22])) :=
(.seq (.rg [] none)
(.seq (.seq (.rg [] none)
(.cond (.seq (.rg [] none)
.leaf) .leaf))
(.seq (.seq (.rg [] none)
(.cond (.seq (.rg [] none)
.leaf) .leaf))
(.seq (.rg [] none)
(.seq (.rg [] none)
(.seq (.rg [] none)
(.seq (.rg [] none)
(.seq (.rg [] none)
(.seq (.rg [529] (some (.op ⟨[], []⟩ (.op ⟨[], []⟩ (.op ⟨[400, 608], [400]⟩ (.op ⟨[], []⟩ (.split 39 [(43, .bool)] (.op ⟨[128], []⟩ (.op ⟨[160], []⟩ (.op ⟨[], []⟩ (.op ⟨[], []⟩ .done)))) (.op ⟨[], []⟩ (.split 44 [(48, .bool)] (.op ⟨[], []⟩ (.op ⟨[], []⟩ (.op ⟨[529, 752], []⟩ (.op ⟨[], []⟩ .done)))) (.op ⟨[], []⟩ (.split 49 [(53, .bool)] (.op ⟨[], []⟩ (.op ⟨[], []⟩ (.op ⟨[304, 832], []⟩ (.op ⟨[], []⟩ .done)))) (.op ⟨[], []⟩ .done))))))))))))
.leaf)))))))))
theorem reticulelaw04_SenseAdds_Eok : EnvOk Try.prog reticulelaw04_SenseAdds_E := env_ok tab_ok (by intro t h; simp only [List.mem_cons, List.mem_nil_iff, or_false, List.not_mem_nil] at h; rcases h with rfl <;> exact ⟨by kernel_rfl, by kernel_rfl, by kernel_rfl⟩) (allFn_mem (show AllFn Try.prog reticulelaw04_SenseAdds_fns from ⟨reticulelaw04_alive_ok, sense_Add_ok, reticuleref04_Add_ok, sense_First_ok, reticuleref04_First_ok, reticuleref04_Same_ok, trivial⟩)) mixed (by kernel_rfl) (by kernel_rfl) (by kernel_rfl) (by kernel_rfl)
theorem reticulelaw04_SenseAdds_eq (x : (List (Int × (Int × (Int × Unit)))) × (Int × (Int × (Int × Unit)))) : evF reticulelaw04_SenseAdds_E 54 (bd Try.f5) [.val (.sl T22), .val T22] [.tmp 4 (.bool, .view)] reticulelaw04_SenseAdds_an x = reticulelaw04_SenseAdds x := by kernel_rfl
theorem reticulelaw04_SenseAdds_ok : FnOk Try.prog 5 { args := [.val (.sl T22), .val T22], res := [(.bool, .view)], f := reticulelaw04_SenseAdds } :=
  fn_ok reticulelaw04_SenseAdds_Eok Try.func5 rfl (by kernel_rfl) (by kernel_rfl) (by kernel_rfl) (rs := [.tmp 4 (.bool, .view)]) (c := bd Try.f5) (an := reticulelaw04_SenseAdds_an) (ob_flat _ _ _ _ _ _ _ (by kernel_rfl)) reticulelaw04_SenseAdds_eq
/-! reticulelaw04_SenseTurns: function 6 -/
noncomputable def reticulelaw04_SenseTurns_fns : List (Nat × Fun) := [(7, { args := [], res := [(.bool, .view)], f := reticulelaw04_alive }), (19, { args := [], res := [(T22, .view)], f := sense_PowerOn }), (20, { args := [], res := [(T22, .view)], f := sense_BusReset }), (21, { args := [], res := [(T22, .view)], f := sense_UnitReset }), (22, { args := [], res := [(T22, .view)], f := sense_NexusLoss }), (23, { args := [], res := [(T22, .view)], f := sense_NewMedium }), (16, { args := [.val (.sl T22)], res := [(T22, .view), ((.sl T22), .view)], f := sense_First }), (12, { args := [.val T22], res := [(.bool, .view)], f := sense_Good }), (14, { args := [.val (.sl T22), .val T22], res := [((.sl T22), .view)], f := sense_Add }), (24, { args := [.val (.sl T22), .val T22], res := [(.bool, .view)], f := reticuleref04_Has }), (18, { args := [.val (.sl T22), .val (.sl T22)], res := [(.bool, .view)], f := reticuleref04_Same })]
noncomputable def reticulelaw04_SenseTurns_E : Env := { ty := Re.look tyTab, eq := fun n => memB n [23], fn := Re.look reticulelaw04_SenseTurns_fns, cut := fun n => memB n [], win := fun n => memB n [], one := fun n => memB n [], onc := fun n => memB n [], pre := fun n => memB n [], ptr := fun n => memB n [], psl := fun n => memB n [], parr := Re.look [], mpt := Re.look [] }
noncomputable def reticulelaw04_SenseTurns_an : An (Ds ((([.tmp 2 (.bool, .view)] : List RV).map RV.pm).map (·.1) ++ ioTys [.val (.sl (.int .u8))])) :=
(.seq (.rg [] none)
(.seq (.seq (.rg [] none)
(.cond (.seq (.rg [] none)
.leaf) .leaf))
(.seq (.seq (.rg [] none)
(.cond (.seq (.rg [] none)
.leaf) .leaf))
(.seq (.rg [] none)
(.seq (.rg [] none)
(.seq (.seq (.rg [] none)
(.loop [.val 0 (.sl (.int .u8)), .box 3 (.arr 5 T22), .val 4 (.sl T22), .row 5 T22 .tail, .val 6 (.int .i64)] [.val 4 (.sl T22), .row 5 T22 .tail] reticulelaw04_SenseTurns_L0
(.seq (.seq (.rg [] none)
(.cond .leaf .leaf))
(.join [.val 0 (.sl (.int .u8)), .box 3 (.arr 5 T22), .val 4 (.sl T22), .row 5 T22 .tail, .val 6 (.int .i64)]
(.block (.seq (.rg [] none)
(.seq (.seq (.rg [] none)
(.cond (.seq (.rg [] none)
(.seq (.seq (.rg [] (some (.op ⟨[], []⟩ (.op ⟨[80], []⟩ (.op ⟨[], []⟩ (.op ⟨[], []⟩ (.split 43 [(52, .bool)] (.op ⟨[128], []⟩ (.op ⟨[720], []⟩ (.op ⟨[], []⟩ (.op ⟨[], []⟩ (.split 47 [(51, .bool)] (.op ⟨[], []⟩ (.op ⟨[], []⟩ (.op ⟨[], []⟩ (.op ⟨[], []⟩ .done)))) (.op ⟨[], []⟩ .done)))))) (.op ⟨[], []⟩ (.split 53 [(64, .bool)] (.op ⟨[], []⟩ (.op ⟨[80], []⟩ (.op ⟨[], []⟩ (.op ⟨[], []⟩ (.split 57 [(63, .bool)] (.op ⟨[128], []⟩ (.op ⟨[], []⟩ (.op ⟨[80], []⟩ (.op ⟨[], []⟩ (.op ⟨[], []⟩ (.op ⟨[], []⟩ .done)))))) (.op ⟨[], []⟩ .done)))))) .done)))))))))
(.cond (.seq (.rg [] none)
.leaf) .leaf))
(.join [.val 0 (.sl (.int .u8)), .box 3 (.arr 5 T22), .row 5 T22 .tail, .val 6 (.int .i64), .val 9 (.sl T22)]
(.seq (.rg [] none)
(.cond (.rg [] none) .leaf))
(.seq (.rg [] none)
.leaf)))) .leaf))
(.seq (.rg [] none)
(.join [.val 0 (.sl (.int .u8)), .box 3 (.arr 5 T22), .val 4 (.sl T22), .row 5 T22 .tail, .val 6 (.int .i64)]
(.seq (.rg [] (some (.op ⟨[], []⟩ (.op ⟨[], []⟩ (.op ⟨[], []⟩ (.split 80 [(86, .bool)] (.op ⟨[], []⟩ (.op ⟨[48], []⟩ (.op ⟨[48], []⟩ (.op ⟨[80, 1344], []⟩ (.op ⟨[], []⟩ (.op ⟨[], []⟩ .done)))))) .done))))))
(.cond (.rg [] none) (.seq (.rg [] (some (.op ⟨[], []⟩ (.op ⟨[], []⟩ (.op ⟨[48], []⟩ (.op ⟨[48], []⟩ (.op ⟨[80, 1504], []⟩ (.op ⟨[], []⟩ (.op ⟨[], []⟩ (.split 96 [(100, .bool)] (.op ⟨[], []⟩ (.op ⟨[80], []⟩ (.op ⟨[], []⟩ (.op ⟨[], []⟩ .done)))) .done))))))))))
(.cond (.rg [] none) .leaf))))
(.seq (.rg [] (some (.op ⟨[], []⟩ (.op ⟨[], []⟩ (.op ⟨[80, 1744], []⟩ (.op ⟨[], []⟩ (.op ⟨[], []⟩ (.split 111 [(115, .bool)] (.op ⟨[], []⟩ (.op ⟨[], []⟩ (.op ⟨[], []⟩ (.op ⟨[], []⟩ .done)))) .done))))))))
(.cond (.seq (.rg [] none)
.leaf) .leaf)))))))
(.rg [] none)))))
(.seq (.rg [] none)
.leaf)))))))
theorem reticulelaw04_SenseTurns_Eok : EnvOk Try.prog reticulelaw04_SenseTurns_E := env_ok tab_ok (by intro t h; simp only [List.mem_cons, List.mem_nil_iff, or_false, List.not_mem_nil] at h; rcases h with rfl <;> exact ⟨by kernel_rfl, by kernel_rfl, by kernel_rfl⟩) (allFn_mem (show AllFn Try.prog reticulelaw04_SenseTurns_fns from ⟨reticulelaw04_alive_ok, sense_PowerOn_ok, sense_BusReset_ok, sense_UnitReset_ok, sense_NexusLoss_ok, sense_NewMedium_ok, sense_First_ok, sense_Good_ok, sense_Add_ok, reticuleref04_Has_ok, reticuleref04_Same_ok, trivial⟩)) mixed (by kernel_rfl) (by kernel_rfl) (by kernel_rfl) (by kernel_rfl)
theorem reticulelaw04_SenseTurns_eq (x : (List (BitVec 8))) : evF reticulelaw04_SenseTurns_E 119 (bd Try.f6) [.val (.sl (.int .u8))] [.tmp 2 (.bool, .view)] reticulelaw04_SenseTurns_an x = reticulelaw04_SenseTurns x := by kernel_rfl
theorem reticulelaw04_SenseTurns_ok : FnOk Try.prog 6 { args := [.val (.sl (.int .u8))], res := [(.bool, .view)], f := reticulelaw04_SenseTurns } :=
  fn_ok reticulelaw04_SenseTurns_Eok Try.func6 rfl (by kernel_rfl) (by kernel_rfl) (by kernel_rfl) (rs := [.tmp 2 (.bool, .view)]) (c := bd Try.f6) (an := reticulelaw04_SenseTurns_an) (show obF reticulelaw04_SenseTurns_E 119 (bd Try.f6) [.val (.sl (.int .u8))] [.tmp 2 (.bool, .view)] reticulelaw04_SenseTurns_an from (And.intro trivial (And.intro (And.intro trivial (And.intro (And.intro trivial trivial) trivial)) (And.intro (And.intro trivial (And.intro (And.intro trivial trivial) trivial)) (And.intro trivial (And.intro trivial (And.intro (And.intro trivial (And.intro (fun _ => rfl) (And.intro (fun n j => by kernel_rfl) (fun n => (And.intro (And.intro trivial (And.intro trivial trivial)) (And.intro (And.intro trivial (And.intro (And.intro trivial (And.intro (And.intro trivial (And.intro (And.intro trivial (And.intro (And.intro trivial trivial) trivial)) (And.intro (And.intro trivial (And.intro trivial trivial)) (And.intro trivial trivial)))) trivial)) (And.intro trivial (And.intro (And.intro trivial (And.intro trivial (And.intro trivial (And.intro trivial trivial)))) (And.intro trivial (And.intro (And.intro trivial trivial) trivial)))))) trivial)))))) (And.intro trivial trivial)))))))) reticulelaw04_SenseTurns_eq
end Go.Proofs.Ytmkffbacmjgbcaa
