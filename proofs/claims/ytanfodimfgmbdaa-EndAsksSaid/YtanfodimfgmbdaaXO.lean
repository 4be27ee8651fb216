/- Each function does what its plain one tells. Printed by the session's own program. -/
import Derived.Test.YtanfodimfgmbdaaXT
import Derived.Test.YtanfodimfgmbdaaXF
namespace Go.Proofs.Ytanfodimfgmbdaa
open Go Go.Re
set_option linter.unusedVariables false
set_option linter.unusedSimpArgs false
set_option maxRecDepth 100000
/-! endpoint_Flush: function 25 -/
noncomputable def endpoint_Flush_fns : List (Nat × Fun) := []
noncomputable def endpoint_Flush_E : Env := { ty := Re.look tyTab, eq := fun n => memB n [], fn := Re.look endpoint_Flush_fns }
noncomputable def endpoint_Flush_an : An (Ds ((([.cell 2 T23] : List RV).map RV.pm).map (·.1) ++ ioTys [.val T23])) :=
(.seq (.rg [] none)
(.seq (.rg [] none)
(.seq (.rg [] none)
.leaf)))
theorem endpoint_Flush_Eok : EnvOk Try.prog endpoint_Flush_E := env_ok tab_ok (by simp) (allFn_mem (show AllFn Try.prog endpoint_Flush_fns from trivial)) mixed
theorem endpoint_Flush_eq (x : (Bool × (Int × (Bool × (Int × (List (BitVec 8) × Unit)))))) : evF endpoint_Flush_E 7 (bd Try.f25) [.val T23] [.cell 2 T23] endpoint_Flush_an x = endpoint_Flush x := by kernel_rfl
theorem endpoint_Flush_ok : FnOk Try.prog 25 { args := [.val T23], res := [(T23, .view)], f := endpoint_Flush } :=
  fn_ok endpoint_Flush_Eok Try.func25 rfl (by kernel_rfl) rfl (by kernel_rfl) (by kernel_rfl) (rs := [.cell 2 T23]) (c := bd Try.f25) (an := endpoint_Flush_an) (ob_flat _ _ _ _ _ _ _ (by kernel_rfl)) endpoint_Flush_eq
/-! bytes_Equal: function 33 -/
noncomputable def bytes_Equal_fns : List (Nat × Fun) := []
noncomputable def bytes_Equal_E : Env := { ty := Re.look tyTab, eq := fun n => memB n [], fn := Re.look bytes_Equal_fns }
noncomputable def bytes_Equal_an : An (Ds ((([.tmp 4 (.bool, .view)] : List RV).map RV.pm).map (·.1) ++ ioTys [.val (.sl (.int .u8)), .val (.sl (.int .u8))])) :=
(.seq (.rg [] none)
(.seq (.rg [] none)
.leaf))
theorem bytes_Equal_Eok : EnvOk Try.prog bytes_Equal_E := env_ok tab_ok (by simp) (allFn_mem (show AllFn Try.prog bytes_Equal_fns from trivial)) mixed
theorem bytes_Equal_eq (x : (List (BitVec 8)) × (List (BitVec 8))) : evF bytes_Equal_E 10 (bd Try.f33) [.val (.sl (.int .u8)), .val (.sl (.int .u8))] [.tmp 4 (.bool, .view)] bytes_Equal_an x = bytes_Equal x := by kernel_rfl
theorem bytes_Equal_ok : FnOk Try.prog 33 { args := [.val (.sl (.int .u8)), .val (.sl (.int .u8))], res := [(.bool, .view)], f := bytes_Equal } :=
  fn_ok bytes_Equal_Eok Try.func33 rfl (by kernel_rfl) rfl (by kernel_rfl) (by kernel_rfl) (rs := [.tmp 4 (.bool, .view)]) (c := bd Try.f33) (an := bytes_Equal_an) (ob_flat _ _ _ _ _ _ _ (by kernel_rfl)) bytes_Equal_eq
/-! endpoint_Same: function 29 -/
noncomputable def endpoint_Same_fns : List (Nat × Fun) := [(33, { args := [.val (.sl (.int .u8)), .val (.sl (.int .u8))], res := [(.bool, .view)], f := bytes_Equal })]
noncomputable def endpoint_Same_E : Env := { ty := Re.look tyTab, eq := fun n => memB n [], fn := Re.look endpoint_Same_fns }
noncomputable def endpoint_Same_an : An (Ds ((([.tmp 4 (.bool, .view)] : List RV).map RV.pm).map (·.1) ++ ioTys [.val T23, .val T23])) :=
(.seq (.rg [] none)
(.seq (.rg [] (some (.op ⟨[32], []⟩ (.op ⟨[32], []⟩ (.op ⟨[48], []⟩ (.op ⟨[48], []⟩ (.op ⟨[], []⟩ (.op ⟨[], []⟩ (.split 10 [(16, .bool)] (.op ⟨[32], []⟩ (.op ⟨[32], []⟩ (.op ⟨[48], []⟩ (.op ⟨[48], []⟩ (.op ⟨[], []⟩ (.op ⟨[], []⟩ .done)))))) (.op ⟨[], []⟩ (.split 17 [(23, .bool)] (.op ⟨[32], []⟩ (.op ⟨[32], []⟩ (.op ⟨[48], []⟩ (.op ⟨[48], []⟩ (.op ⟨[], []⟩ (.op ⟨[], []⟩ .done)))))) (.op ⟨[], []⟩ (.split 24 [(30, .bool)] (.op ⟨[32], []⟩ (.op ⟨[32], []⟩ (.op ⟨[48], []⟩ (.op ⟨[48], []⟩ (.op ⟨[], []⟩ (.op ⟨[], []⟩ .done)))))) (.op ⟨[], []⟩ (.split 31 [(37, .bool)] (.op ⟨[32], []⟩ (.op ⟨[32], []⟩ (.op ⟨[48], []⟩ (.op ⟨[48], []⟩ (.op ⟨[576], []⟩ (.op ⟨[], []⟩ .done)))))) (.op ⟨[], []⟩ .done))))))))))))))))
.leaf))
theorem endpoint_Same_Eok : EnvOk Try.prog endpoint_Same_E := env_ok tab_ok (by simp) (allFn_mem (show AllFn Try.prog endpoint_Same_fns from ⟨bytes_Equal_ok, trivial⟩)) mixed
theorem endpoint_Same_eq (x : (Bool × (Int × (Bool × (Int × (List (BitVec 8) × Unit))))) × (Bool × (Int × (Bool × (Int × (List (BitVec 8) × Unit)))))) : evF endpoint_Same_E 38 (bd Try.f29) [.val T23, .val T23] [.tmp 4 (.bool, .view)] endpoint_Same_an x = endpoint_Same x := by kernel_rfl
theorem endpoint_Same_ok : FnOk Try.prog 29 { args := [.val T23, .val T23], res := [(.bool, .view)], f := endpoint_Same } :=
  fn_ok endpoint_Same_Eok Try.func29 rfl (by kernel_rfl) rfl (by kernel_rfl) (by kernel_rfl) (rs := [.tmp 4 (.bool, .view)]) (c := bd Try.f29) (an := endpoint_Same_an) (ob_flat _ _ _ _ _ _ _ (by kernel_rfl)) endpoint_Same_eq
/-! endpoint_Right: function 27 -/
noncomputable def endpoint_Right_fns : List (Nat × Fun) := [(25, { args := [.val T23], res := [(T23, .view)], f := endpoint_Flush }), (29, { args := [.val T23, .val T23], res := [(.bool, .view)], f := endpoint_Same })]
noncomputable def endpoint_Right_E : Env := { ty := Re.look tyTab, eq := fun n => memB n [], fn := Re.look endpoint_Right_fns }
noncomputable def endpoint_Right_an : An (Ds ((([.tmp 2 (.bool, .view)] : List RV).map RV.pm).map (·.1) ++ ioTys [.val T23])) :=
(.seq (.rg [] none)
(.seq (.rg [] (some (.op ⟨[16], []⟩ (.op ⟨[16], []⟩ (.op ⟨[16], []⟩ (.op ⟨[16], []⟩ (.op ⟨[], []⟩ (.op ⟨[], []⟩ (.op ⟨[], []⟩ (.split 9 [(14, .bool)] (.op ⟨[16], []⟩ (.op ⟨[16], []⟩ (.op ⟨[], []⟩ (.op ⟨[], []⟩ (.op ⟨[], []⟩ .done))))) (.op ⟨[], []⟩ (.split 15 [(24, .bool)] (.op ⟨[16], []⟩ (.op ⟨[16], []⟩ (.op ⟨[], []⟩ (.split 18 [(23, .bool)] (.op ⟨[16], []⟩ (.op ⟨[16], []⟩ (.op ⟨[336], []⟩ (.op ⟨[352], []⟩ (.op ⟨[], []⟩ .done))))) (.op ⟨[], []⟩ .done))))) (.op ⟨[], []⟩ .done)))))))))))))
.leaf))
theorem endpoint_Right_Eok : EnvOk Try.prog endpoint_Right_E := env_ok tab_ok (by simp) (allFn_mem (show AllFn Try.prog endpoint_Right_fns from ⟨endpoint_Flush_ok, endpoint_Same_ok, trivial⟩)) mixed
theorem endpoint_Right_eq (x : (Bool × (Int × (Bool × (Int × (List (BitVec 8) × Unit)))))) : evF endpoint_Right_E 25 (bd Try.f27) [.val T23] [.tmp 2 (.bool, .view)] endpoint_Right_an x = endpoint_Right x := by kernel_rfl
theorem endpoint_Right_ok : FnOk Try.prog 27 { args := [.val T23], res := [(.bool, .view)], f := endpoint_Right } :=
  fn_ok endpoint_Right_Eok Try.func27 rfl (by kernel_rfl) rfl (by kernel_rfl) (by kernel_rfl) (rs := [.tmp 2 (.bool, .view)]) (c := bd Try.f27) (an := endpoint_Right_an) (ob_flat _ _ _ _ _ _ _ (by kernel_rfl)) endpoint_Right_eq
/-! endpoint_told: function 30 -/
noncomputable def endpoint_told_fns : List (Nat × Fun) := []
noncomputable def endpoint_told_E : Env := { ty := Re.look tyTab, eq := fun n => memB n [], fn := Re.look endpoint_told_fns }
noncomputable def endpoint_told_an : An (Ds ((([.cell 2 T30] : List RV).map RV.pm).map (·.1) ++ ioTys [.val (.int .i64)])) :=
(.seq (.rg [] none)
(.seq (.rg [] none)
.leaf))
theorem endpoint_told_Eok : EnvOk Try.prog endpoint_told_E := env_ok tab_ok (by simp) (allFn_mem (show AllFn Try.prog endpoint_told_fns from trivial)) mixed
theorem endpoint_told_eq (x : Int) : evF endpoint_told_E 5 (bd Try.f30) [.val (.int .i64)] [.cell 2 T30] endpoint_told_an x = endpoint_told x := by kernel_rfl
theorem endpoint_told_ok : FnOk Try.prog 30 { args := [.val (.int .i64)], res := [(T30, .view)], f := endpoint_told } :=
  fn_ok endpoint_told_Eok Try.func30 rfl (by kernel_rfl) rfl (by kernel_rfl) (by kernel_rfl) (rs := [.cell 2 T30]) (c := bd Try.f30) (an := endpoint_told_an) (ob_flat _ _ _ _ _ _ _ (by kernel_rfl)) endpoint_told_eq
/-! bytes_Clone: function 32 -/
noncomputable def bytes_Clone_fns : List (Nat × Fun) := []
noncomputable def bytes_Clone_E : Env := { ty := Re.look tyTab, eq := fun n => memB n [], fn := Re.look bytes_Clone_fns }
noncomputable def bytes_Clone_an : An (Ds ((([.tmp 2 ((.sl (.int .u8)), .full)] : List RV).map RV.pm).map (·.1) ++ ioTys [.val (.sl (.int .u8))])) :=
(.seq (.rg [] none)
(.seq (.seq (.rg [] none)
(.cond (.seq (.rg [] none)
.leaf) .leaf))
(.seq (.rg [] none)
.leaf)))
theorem bytes_Clone_Eok : EnvOk Try.prog bytes_Clone_E := env_ok tab_ok (by simp) (allFn_mem (show AllFn Try.prog bytes_Clone_fns from trivial)) mixed
theorem bytes_Clone_eq (x : (List (BitVec 8))) : evF bytes_Clone_E 8 (bd Try.f32) [.val (.sl (.int .u8))] [.tmp 2 ((.sl (.int .u8)), .full)] bytes_Clone_an x = bytes_Clone x := by kernel_rfl
theorem bytes_Clone_ok : FnOk Try.prog 32 { args := [.val (.sl (.int .u8))], res := [((.sl (.int .u8)), .full)], f := bytes_Clone } :=
  fn_ok bytes_Clone_Eok Try.func32 rfl (by kernel_rfl) rfl (by kernel_rfl) (by kernel_rfl) (rs := [.tmp 2 ((.sl (.int .u8)), .full)]) (c := bd Try.f32) (an := bytes_Clone_an) (ob_flat _ _ _ _ _ _ _ (by kernel_rfl)) bytes_Clone_eq
/-! endpoint_send: function 31 -/
noncomputable def endpoint_send_fns : List (Nat × Fun) := [(32, { args := [.val (.sl (.int .u8))], res := [((.sl (.int .u8)), .full)], f := bytes_Clone }), (25, { args := [.val T23], res := [(T23, .view)], f := endpoint_Flush })]
noncomputable def endpoint_send_E : Env := { ty := Re.look tyTab, eq := fun n => memB n [], fn := Re.look endpoint_send_fns }
noncomputable def endpoint_send_an : An (Ds ((([.cell 4 T23, .cell 5 T30] : List RV).map RV.pm).map (·.1) ++ ioTys [.val T23, .val .bool])) :=
(.seq (.rg [] none)
(.seq (.rg [176] (some (.op ⟨[32], []⟩ (.op ⟨[32], []⟩ (.op ⟨[32], []⟩ (.op ⟨[32], []⟩ (.op ⟨[176], [176]⟩ (.op ⟨[176], [176]⟩ (.op ⟨[96], [96]⟩ (.op ⟨[96], [96]⟩ .done))))))))))
(.join [.box 2 T23, .box 4 T23, .box 5 T30, .box 6 T30]
(.seq (.rg [] none)
(.cond (.seq (.rg [] none)
(.rg [] none)) .leaf))
(.seq (.rg [] (some (.op ⟨[32], []⟩ (.op ⟨[96], []⟩ (.op ⟨[64], [64]⟩ (.op ⟨[80], [80]⟩ .done))))))
.leaf))))
theorem endpoint_send_Eok : EnvOk Try.prog endpoint_send_E := env_ok tab_ok (by simp) (allFn_mem (show AllFn Try.prog endpoint_send_fns from ⟨bytes_Clone_ok, endpoint_Flush_ok, trivial⟩)) mixed
theorem endpoint_send_eq (x : (Bool × (Int × (Bool × (Int × (List (BitVec 8) × Unit))))) × Bool) : evF endpoint_send_E 22 (bd Try.f31) [.val T23, .val .bool] [.cell 4 T23, .cell 5 T30] endpoint_send_an x = endpoint_send x := by kernel_rfl
theorem endpoint_send_ok : FnOk Try.prog 31 { args := [.val T23, .val .bool], res := [(T23, .view), (T30, .view)], f := endpoint_send } :=
  fn_ok endpoint_send_Eok Try.func31 rfl (by kernel_rfl) rfl (by kernel_rfl) (by kernel_rfl) (rs := [.cell 4 T23, .cell 5 T30]) (c := bd Try.f31) (an := endpoint_send_an) (ob_flat _ _ _ _ _ _ _ (by kernel_rfl)) endpoint_send_eq
/-! endpoint_In: function 11 -/
noncomputable def endpoint_In_fns : List (Nat × Fun) := [(27, { args := [.val T23], res := [(.bool, .view)], f := endpoint_Right }), (30, { args := [.val (.int .i64)], res := [(T30, .view)], f := endpoint_told }), (31, { args := [.val T23, .val .bool], res := [(T23, .view), (T30, .view)], f := endpoint_send }), (32, { args := [.val (.sl (.int .u8))], res := [((.sl (.int .u8)), .full)], f := bytes_Clone })]
noncomputable def endpoint_In_E : Env := { ty := Re.look tyTab, eq := fun n => memB n [], fn := Re.look endpoint_In_fns }
noncomputable def endpoint_In_an : An (Ds ((([.cell 8 T23, .cell 9 T30, .tmp 10 (.bool, .view)] : List RV).map RV.pm).map (·.1) ++ ioTys [.val T23, .val T26, .val (.sl (.int .u8)), .val .bool])) :=
(.seq (.rg [] none)
(.seq (.block (.seq (.rg [] none)
(.cond (.seq (.rg [] (some (.op ⟨[64], []⟩ (.op ⟨[320], []⟩ (.op ⟨[128], [128]⟩ (.op ⟨[144], [144]⟩ (.op ⟨[], []⟩ .done)))))))
.leaf) (.seq (.rg [] (some (.op ⟨[64], []⟩ (.op ⟨[64], []⟩ (.op ⟨[], []⟩ (.split 24 [(30, .bool)] (.op ⟨[64], []⟩ (.op ⟨[64], []⟩ (.op ⟨[80], []⟩ (.op ⟨[80], []⟩ (.op ⟨[], []⟩ (.op ⟨[], []⟩ .done)))))) (.op ⟨[], []⟩ .done)))))))
(.cond (.seq (.rg [] (some (.op ⟨[64], []⟩ (.op ⟨[512], []⟩ (.op ⟨[128], [128]⟩ (.op ⟨[144], [144]⟩ (.op ⟨[], []⟩ .done)))))))
.leaf) (.seq (.rg [] none)
(.cond (.seq (.rg [] none)
(.seq (.rg [] (some (.op ⟨[176], []⟩ (.op ⟨[192], []⟩ (.op ⟨[128], [128]⟩ (.op ⟨[144], [144]⟩ (.op ⟨[], []⟩ .done)))))))
.leaf)) (.seq (.rg [] none)
(.cond (.seq (.rg [] (some (.op ⟨[64], []⟩ (.op ⟨[784], []⟩ (.op ⟨[128], [128]⟩ (.op ⟨[144], [144]⟩ (.op ⟨[], []⟩ .done)))))))
.leaf) (.seq (.rg [] none)
(.cond (.seq (.rg [] (some (.op ⟨[64], []⟩ (.op ⟨[864], []⟩ (.op ⟨[128], [128]⟩ (.op ⟨[144], [144]⟩ (.op ⟨[], []⟩ .done)))))))
.leaf) .leaf)))))))))))
(.seq (.rg [992] (some (.op ⟨[80], []⟩ (.op ⟨[80], []⟩ (.op ⟨[], []⟩ (.op ⟨[], []⟩ (.op ⟨[], []⟩ (.op ⟨[], []⟩ (.op ⟨[], []⟩ (.op ⟨[992], [992]⟩ (.op ⟨[64], []⟩ (.op ⟨[64], [64]⟩ (.op ⟨[64], []⟩ (.op ⟨[64], [64]⟩ (.op ⟨[64], []⟩ (.op ⟨[64, 992], [64, 992]⟩ .done))))))))))))))))
(.seq (.rg [] none)
(.seq (.rg [] (some (.op ⟨[208], []⟩ (.op ⟨[224], []⟩ (.op ⟨[128], [128]⟩ (.op ⟨[144], [144]⟩ (.op ⟨[], []⟩ .done)))))))
.leaf)))))
theorem endpoint_In_Eok : EnvOk Try.prog endpoint_In_E := env_ok tab_ok (by simp) (allFn_mem (show AllFn Try.prog endpoint_In_fns from ⟨endpoint_Right_ok, endpoint_told_ok, endpoint_send_ok, bytes_Clone_ok, trivial⟩)) mixed
theorem endpoint_In_eq (x : (Bool × (Int × (Bool × (Int × (List (BitVec 8) × Unit))))) × (Int × (Int × (Int × (Int × (Int × (Bool × (Int × (BitVec 64 × (List (BitVec 8) × Unit))))))))) × (List (BitVec 8)) × Bool) : evF endpoint_In_E 75 (bd Try.f11) [.val T23, .val T26, .val (.sl (.int .u8)), .val .bool] [.cell 8 T23, .cell 9 T30, .tmp 10 (.bool, .view)] endpoint_In_an x = endpoint_In x := by kernel_rfl
theorem endpoint_In_ok : FnOk Try.prog 11 { args := [.val T23, .val T26, .val (.sl (.int .u8)), .val .bool], res := [(T23, .view), (T30, .view), (.bool, .view)], f := endpoint_In } :=
  fn_ok endpoint_In_Eok Try.func11 rfl (by kernel_rfl) rfl (by kernel_rfl) (by kernel_rfl) (rs := [.cell 8 T23, .cell 9 T30, .tmp 10 (.bool, .view)]) (c := bd Try.f11) (an := endpoint_In_an) (ob_flat _ _ _ _ _ _ _ (by kernel_rfl)) endpoint_In_eq
/-! reticuleref16_Replies: function 14 -/
noncomputable def reticuleref16_Replies_fns : List (Nat × Fun) := []
noncomputable def reticuleref16_Replies_E : Env := { ty := Re.look tyTab, eq := fun n => memB n [], fn := Re.look reticuleref16_Replies_fns }
noncomputable def reticuleref16_Replies_an : An (Ds ((([.tmp 4 (.bool, .view)] : List RV).map RV.pm).map (·.1) ++ ioTys [.val T30, .val T30])) :=
(.seq (.rg [] none)
(.seq (.rg [] (some (.op ⟨[32], []⟩ (.op ⟨[32], []⟩ (.op ⟨[48], []⟩ (.op ⟨[48], []⟩ (.op ⟨[], []⟩ (.op ⟨[], []⟩ (.split 10 [(16, .bool)] (.op ⟨[32], []⟩ (.op ⟨[32], []⟩ (.op ⟨[48], []⟩ (.op ⟨[48], []⟩ (.op ⟨[], []⟩ (.op ⟨[], []⟩ .done)))))) (.op ⟨[], []⟩ (.split 17 [(25, .bool)] (.op ⟨[32], []⟩ (.op ⟨[32], []⟩ (.op ⟨[], []⟩ (.op ⟨[48], []⟩ (.op ⟨[48], []⟩ (.op ⟨[], []⟩ (.op ⟨[], []⟩ (.op ⟨[], []⟩ .done)))))))) (.op ⟨[], []⟩ .done))))))))))))
.leaf))
theorem reticuleref16_Replies_Eok : EnvOk Try.prog reticuleref16_Replies_E := env_ok tab_ok (by simp) (allFn_mem (show AllFn Try.prog reticuleref16_Replies_fns from trivial)) mixed
theorem reticuleref16_Replies_eq (x : (Int × (Int × (List (BitVec 8) × Unit))) × (Int × (Int × (List (BitVec 8) × Unit)))) : evF reticuleref16_Replies_E 26 (bd Try.f14) [.val T30, .val T30] [.tmp 4 (.bool, .view)] reticuleref16_Replies_an x = reticuleref16_Replies x := by kernel_rfl
theorem reticuleref16_Replies_ok : FnOk Try.prog 14 { args := [.val T30, .val T30], res := [(.bool, .view)], f := reticuleref16_Replies } :=
  fn_ok reticuleref16_Replies_Eok Try.func14 rfl (by kernel_rfl) rfl (by kernel_rfl) (by kernel_rfl) (rs := [.tmp 4 (.bool, .view)]) (c := bd Try.f14) (an := reticuleref16_Replies_an) (ob_flat _ _ _ _ _ _ _ (by kernel_rfl)) reticuleref16_Replies_eq
/-! endpoint_Out: function 15 -/
noncomputable def endpoint_Out_fns : List (Nat × Fun) := [(27, { args := [.val T23], res := [(.bool, .view)], f := endpoint_Right }), (30, { args := [.val (.int .i64)], res := [(T30, .view)], f := endpoint_told })]
noncomputable def endpoint_Out_E : Env := { ty := Re.look tyTab, eq := fun n => memB n [], fn := Re.look endpoint_Out_fns }
noncomputable def endpoint_Out_an : An (Ds ((([.cell 6 T23, .cell 7 T30, .tmp 8 (.bool, .view)] : List RV).map RV.pm).map (·.1) ++ ioTys [.val T23, .val T26, .val .bool])) :=
(.seq (.rg [] none)
(.seq (.block (.seq (.rg [] (some (.op ⟨[48], []⟩ (.op ⟨[176], []⟩ (.op ⟨[], []⟩ (.op ⟨[], []⟩ (.split 13 [(18, .bool)] (.op ⟨[64], []⟩ (.op ⟨[64], []⟩ (.op ⟨[], []⟩ (.op ⟨[], []⟩ (.op ⟨[], []⟩ .done))))) (.op ⟨[], []⟩ .done))))))))
(.cond (.seq (.rg [] (some (.op ⟨[48], []⟩ (.op ⟨[320], []⟩ (.op ⟨[96], [96]⟩ (.op ⟨[112], [112]⟩ (.op ⟨[], []⟩ .done)))))))
.leaf) (.seq (.rg [] none)
(.cond (.seq (.rg [] (some (.op ⟨[48], []⟩ (.op ⟨[400], []⟩ (.op ⟨[96], [96]⟩ (.op ⟨[112], [112]⟩ (.op ⟨[], []⟩ .done)))))))
.leaf) (.seq (.rg [] none)
(.cond (.seq (.rg [] (some (.op ⟨[48], []⟩ (.op ⟨[528], []⟩ (.op ⟨[96], [96]⟩ (.op ⟨[112], [112]⟩ (.op ⟨[], []⟩ .done)))))))
.leaf) (.seq (.rg [] none)
(.cond (.seq (.rg [] (some (.op ⟨[48], []⟩ (.op ⟨[608], []⟩ (.op ⟨[96], [96]⟩ (.op ⟨[112], [112]⟩ (.op ⟨[], []⟩ .done)))))))
.leaf) .leaf)))))))))
(.seq (.rg [] none)
(.seq (.rg [] (some (.op ⟨[48], []⟩ (.op ⟨[704], []⟩ (.op ⟨[96], [96]⟩ (.op ⟨[112], [112]⟩ (.op ⟨[], []⟩ .done)))))))
.leaf))))
theorem endpoint_Out_Eok : EnvOk Try.prog endpoint_Out_E := env_ok tab_ok (by simp) (allFn_mem (show AllFn Try.prog endpoint_Out_fns from ⟨endpoint_Right_ok, endpoint_told_ok, trivial⟩)) mixed
theorem endpoint_Out_eq (x : (Bool × (Int × (Bool × (Int × (List (BitVec 8) × Unit))))) × (Int × (Int × (Int × (Int × (Int × (Bool × (Int × (BitVec 64 × (List (BitVec 8) × Unit))))))))) × Bool) : evF endpoint_Out_E 45 (bd Try.f15) [.val T23, .val T26, .val .bool] [.cell 6 T23, .cell 7 T30, .tmp 8 (.bool, .view)] endpoint_Out_an x = endpoint_Out x := by kernel_rfl
theorem endpoint_Out_ok : FnOk Try.prog 15 { args := [.val T23, .val T26, .val .bool], res := [(T23, .view), (T30, .view), (.bool, .view)], f := endpoint_Out } :=
  fn_ok endpoint_Out_Eok Try.func15 rfl (by kernel_rfl) rfl (by kernel_rfl) (by kernel_rfl) (rs := [.cell 6 T23, .cell 7 T30, .tmp 8 (.bool, .view)]) (c := bd Try.f15) (an := endpoint_Out_an) (ob_flat _ _ _ _ _ _ _ (by kernel_rfl)) endpoint_Out_eq
/-! endpoint_Stall: function 23 -/
noncomputable def endpoint_Stall_fns : List (Nat × Fun) := []
noncomputable def endpoint_Stall_E : Env := { ty := Re.look tyTab, eq := fun n => memB n [], fn := Re.look endpoint_Stall_fns }
noncomputable def endpoint_Stall_an : An (Ds ((([.cell 2 T23] : List RV).map RV.pm).map (·.1) ++ ioTys [.val T23])) :=
(.seq (.rg [] none)
(.seq (.rg [] none)
(.seq (.rg [] none)
.leaf)))
theorem endpoint_Stall_Eok : EnvOk Try.prog endpoint_Stall_E := env_ok tab_ok (by simp) (allFn_mem (show AllFn Try.prog endpoint_Stall_fns from trivial)) mixed
theorem endpoint_Stall_eq (x : (Bool × (Int × (Bool × (Int × (List (BitVec 8) × Unit)))))) : evF endpoint_Stall_E 5 (bd Try.f23) [.val T23] [.cell 2 T23] endpoint_Stall_an x = endpoint_Stall x := by kernel_rfl
theorem endpoint_Stall_ok : FnOk Try.prog 23 { args := [.val T23], res := [(T23, .view)], f := endpoint_Stall } :=
  fn_ok endpoint_Stall_Eok Try.func23 rfl (by kernel_rfl) rfl (by kernel_rfl) (by kernel_rfl) (rs := [.cell 2 T23]) (c := bd Try.f23) (an := endpoint_Stall_an) (ob_flat _ _ _ _ _ _ _ (by kernel_rfl)) endpoint_Stall_eq
/-! endpoint_Halt: function 21 -/
noncomputable def endpoint_Halt_fns : List (Nat × Fun) := [(25, { args := [.val T23], res := [(T23, .view)], f := endpoint_Flush }), (23, { args := [.val T23], res := [(T23, .view)], f := endpoint_Stall })]
noncomputable def endpoint_Halt_E : Env := { ty := Re.look tyTab, eq := fun n => memB n [], fn := Re.look endpoint_Halt_fns }
noncomputable def endpoint_Halt_an : An (Ds ((([.cell 2 T23] : List RV).map RV.pm).map (·.1) ++ ioTys [.val T23])) :=
(.seq (.rg [] none)
(.seq (.rg [] none)
.leaf))
theorem endpoint_Halt_Eok : EnvOk Try.prog endpoint_Halt_E := env_ok tab_ok (by simp) (allFn_mem (show AllFn Try.prog endpoint_Halt_fns from ⟨endpoint_Flush_ok, endpoint_Stall_ok, trivial⟩)) mixed
theorem endpoint_Halt_eq (x : (Bool × (Int × (Bool × (Int × (List (BitVec 8) × Unit)))))) : evF endpoint_Halt_E 6 (bd Try.f21) [.val T23] [.cell 2 T23] endpoint_Halt_an x = endpoint_Halt x := by kernel_rfl
theorem endpoint_Halt_ok : FnOk Try.prog 21 { args := [.val T23], res := [(T23, .view)], f := endpoint_Halt } :=
  fn_ok endpoint_Halt_Eok Try.func21 rfl (by kernel_rfl) rfl (by kernel_rfl) (by kernel_rfl) (rs := [.cell 2 T23]) (c := bd Try.f21) (an := endpoint_Halt_an) (ob_flat _ _ _ _ _ _ _ (by kernel_rfl)) endpoint_Halt_eq
/-! reticulelaw16_alive: function 9 -/
noncomputable def reticulelaw16_alive_fns : List (Nat × Fun) := [(11, { args := [.val T23, .val T26, .val (.sl (.int .u8)), .val .bool], res := [(T23, .view), (T30, .view), (.bool, .view)], f := endpoint_In }), (14, { args := [.val T30, .val T30], res := [(.bool, .view)], f := reticuleref16_Replies }), (29, { args := [.val T23, .val T23], res := [(.bool, .view)], f := endpoint_Same }), (15, { args := [.val T23, .val T26, .val .bool], res := [(T23, .view), (T30, .view), (.bool, .view)], f := endpoint_Out }), (21, { args := [.val T23], res := [(T23, .view)], f := endpoint_Halt }), (27, { args := [.val T23], res := [(.bool, .view)], f := endpoint_Right })]
noncomputable def reticulelaw16_alive_E : Env := { ty := Re.look tyTab, eq := fun n => memB n [], fn := Re.look reticulelaw16_alive_fns }
noncomputable def reticulelaw16_alive_an : An (Ds ((([.tmp 0 (.bool, .view)] : List RV).map RV.pm).map (·.1) ++ ioTys [])) :=
(.seq (.rg [] none)
(.seq (.rg [] none)
(.seq (.rg [] none)
(.seq (.seq (.rg [] (some (.op ⟨[], []⟩ (.op ⟨[], []⟩ (.op ⟨[], []⟩ (.split 34 [(36, .bool)] (.op ⟨[], []⟩ (.op ⟨[], []⟩ .done)) (.op ⟨[], []⟩ (.split 37 [(41, .bool)] (.op ⟨[32], []⟩ (.op ⟨[32], []⟩ (.op ⟨[], []⟩ (.op ⟨[], []⟩ .done)))) (.op ⟨[], []⟩ (.split 42 [(46, .bool)] (.op ⟨[32], []⟩ (.op ⟨[32], []⟩ (.op ⟨[], []⟩ (.op ⟨[], []⟩ .done)))) (.op ⟨[], []⟩ (.split 47 [(52, .bool)] (.op ⟨[32], []⟩ (.op ⟨[32], []⟩ (.op ⟨[], []⟩ (.op ⟨[], []⟩ (.op ⟨[], []⟩ .done))))) (.op ⟨[], []⟩ (.split 53 [(58, .bool)] (.op ⟨[32], []⟩ (.op ⟨[64], []⟩ (.op ⟨[896], []⟩ (.op ⟨[], []⟩ (.op ⟨[], []⟩ .done))))) (.op ⟨[], []⟩ (.split 59 [(64, .bool)] (.op ⟨[16], []⟩ (.op ⟨[], []⟩ (.op ⟨[992], []⟩ (.op ⟨[], []⟩ (.op ⟨[], []⟩ .done))))) .done))))))))))))))))
(.cond (.seq (.rg [] none)
.leaf) .leaf))
(.seq (.rg [] none)
(.seq (.rg [] none)
(.seq (.rg [] none)
(.seq (.rg [] (some (.op ⟨[], []⟩ (.op ⟨[], []⟩ (.split 88 [(91, .bool)] (.op ⟨[], []⟩ (.op ⟨[], []⟩ (.op ⟨[], []⟩ .done))) (.op ⟨[], []⟩ (.split 92 [(96, .bool)] (.op ⟨[112], []⟩ (.op ⟨[112], []⟩ (.op ⟨[], []⟩ (.op ⟨[], []⟩ .done)))) (.op ⟨[], []⟩ (.split 97 [(101, .bool)] (.op ⟨[144], []⟩ (.op ⟨[144], []⟩ (.op ⟨[], []⟩ (.op ⟨[], []⟩ .done)))) (.op ⟨[], []⟩ (.split 102 [(106, .bool)] (.op ⟨[96], []⟩ (.op ⟨[96], []⟩ (.op ⟨[], []⟩ (.op ⟨[], []⟩ .done)))) (.op ⟨[], []⟩ (.split 107 [(111, .bool)] (.op ⟨[192], []⟩ (.op ⟨[192], []⟩ (.op ⟨[], []⟩ (.op ⟨[], []⟩ .done)))) (.op ⟨[], []⟩ (.split 112 [(115, .bool)] (.op ⟨[96], []⟩ (.op ⟨[1824], []⟩ (.op ⟨[], []⟩ .done))) (.op ⟨[], []⟩ (.split 116 [(120, .bool)] (.op ⟨[], []⟩ (.op ⟨[1888], []⟩ (.op ⟨[], []⟩ (.op ⟨[], []⟩ .done)))) (.op ⟨[], []⟩ .done))))))))))))))))))
.leaf))))))))
theorem reticulelaw16_alive_Eok : EnvOk Try.prog reticulelaw16_alive_E := env_ok tab_ok (by simp) (allFn_mem (show AllFn Try.prog reticulelaw16_alive_fns from ⟨endpoint_In_ok, reticuleref16_Replies_ok, endpoint_Same_ok, endpoint_Out_ok, endpoint_Halt_ok, endpoint_Right_ok, trivial⟩)) mixed
theorem reticulelaw16_alive_eq (x : Unit) : evF reticulelaw16_alive_E 121 (bd Try.f9) [] [.tmp 0 (.bool, .view)] reticulelaw16_alive_an x = reticulelaw16_alive x := by kernel_rfl
theorem reticulelaw16_alive_ok : FnOk Try.prog 9 { args := [], res := [(.bool, .view)], f := reticulelaw16_alive } :=
  fn_ok reticulelaw16_alive_Eok Try.func9 rfl (by kernel_rfl) rfl (by kernel_rfl) (by kernel_rfl) (rs := [.tmp 0 (.bool, .view)]) (c := bd Try.f9) (an := reticulelaw16_alive_an) (ob_flat _ _ _ _ _ _ _ (by kernel_rfl)) reticulelaw16_alive_eq
/-! reticuleref16_Copy: function 10 -/
noncomputable def reticuleref16_Copy_fns : List (Nat × Fun) := []
noncomputable def reticuleref16_Copy_E : Env := { ty := Re.look tyTab, eq := fun n => memB n [], fn := Re.look reticuleref16_Copy_fns }
noncomputable def reticuleref16_Copy_an : An (Ds ((([.cell 2 T23] : List RV).map RV.pm).map (·.1) ++ ioTys [.val T23])) :=
(.seq (.rg [] none)
(.seq (.rg [] none)
(.seq (.rg [] none)
.leaf)))
theorem reticuleref16_Copy_Eok : EnvOk Try.prog reticuleref16_Copy_E := env_ok tab_ok (by simp) (allFn_mem (show AllFn Try.prog reticuleref16_Copy_fns from trivial)) mixed
theorem reticuleref16_Copy_eq (x : (Bool × (Int × (Bool × (Int × (List (BitVec 8) × Unit)))))) : evF reticuleref16_Copy_E 9 (bd Try.f10) [.val T23] [.cell 2 T23] reticuleref16_Copy_an x = reticuleref16_Copy x := by kernel_rfl
theorem reticuleref16_Copy_ok : FnOk Try.prog 10 { args := [.val T23], res := [(T23, .view)], f := reticuleref16_Copy } :=
  fn_ok reticuleref16_Copy_Eok Try.func10 rfl (by kernel_rfl) rfl (by kernel_rfl) (by kernel_rfl) (rs := [.cell 2 T23]) (c := bd Try.f10) (an := reticuleref16_Copy_an) (ob_flat _ _ _ _ _ _ _ (by kernel_rfl)) reticuleref16_Copy_eq
/-! reticuleref16_Right: function 28 -/
noncomputable def reticuleref16_Right_fns : List (Nat × Fun) := []
noncomputable def reticuleref16_Right_E : Env := { ty := Re.look tyTab, eq := fun n => memB n [], fn := Re.look reticuleref16_Right_fns }
noncomputable def reticuleref16_Right_an : An (Ds ((([.tmp 2 (.bool, .view)] : List RV).map RV.pm).map (·.1) ++ ioTys [.val T23])) :=
(.seq (.rg [] none)
(.seq (.rg [] (some (.op ⟨[16], []⟩ (.op ⟨[16], []⟩ (.op ⟨[], []⟩ (.op ⟨[], []⟩ (.split 6 [(10, .bool)] (.op ⟨[16], []⟩ (.op ⟨[16], []⟩ (.op ⟨[], []⟩ (.op ⟨[], []⟩ .done)))) (.op ⟨[], []⟩ (.split 11 [(16, .bool)] (.op ⟨[16], []⟩ (.op ⟨[16], []⟩ (.op ⟨[], []⟩ (.op ⟨[], []⟩ (.op ⟨[], []⟩ .done))))) (.op ⟨[], []⟩ (.split 17 [(31, .bool)] (.op ⟨[16], []⟩ (.op ⟨[16], []⟩ (.op ⟨[], []⟩ (.split 20 [(30, .bool)] (.op ⟨[16], []⟩ (.op ⟨[16], []⟩ (.op ⟨[], []⟩ (.op ⟨[], []⟩ (.op ⟨[], []⟩ (.split 25 [(29, .bool)] (.op ⟨[16], []⟩ (.op ⟨[16], []⟩ (.op ⟨[], []⟩ (.op ⟨[], []⟩ .done)))) (.op ⟨[], []⟩ .done))))))) (.op ⟨[], []⟩ .done))))) (.op ⟨[], []⟩ .done))))))))))))
.leaf))
theorem reticuleref16_Right_Eok : EnvOk Try.prog reticuleref16_Right_E := env_ok tab_ok (by simp) (allFn_mem (show AllFn Try.prog reticuleref16_Right_fns from trivial)) mixed
theorem reticuleref16_Right_eq (x : (Bool × (Int × (Bool × (Int × (List (BitVec 8) × Unit)))))) : evF reticuleref16_Right_E 32 (bd Try.f28) [.val T23] [.tmp 2 (.bool, .view)] reticuleref16_Right_an x = reticuleref16_Right x := by kernel_rfl
theorem reticuleref16_Right_ok : FnOk Try.prog 28 { args := [.val T23], res := [(.bool, .view)], f := reticuleref16_Right } :=
  fn_ok reticuleref16_Right_Eok Try.func28 rfl (by kernel_rfl) rfl (by kernel_rfl) (by kernel_rfl) (rs := [.tmp 2 (.bool, .view)]) (c := bd Try.f28) (an := reticuleref16_Right_an) (ob_flat _ _ _ _ _ _ _ (by kernel_rfl)) reticuleref16_Right_eq
/-! reticuleref16_Cut: function 19 -/
noncomputable def reticuleref16_Cut_fns : List (Nat × Fun) := []
noncomputable def reticuleref16_Cut_E : Env := { ty := Re.look tyTab, eq := fun n => memB n [], fn := Re.look reticuleref16_Cut_fns }
noncomputable def reticuleref16_Cut_an : An (Ds ((([.tmp 2 ((.sl (.int .u8)), .view)] : List RV).map RV.pm).map (·.1) ++ ioTys [.val (.sl (.int .u8))])) :=
(.seq (.rg [] none)
(.seq (.seq (.rg [] none)
(.cond (.seq (.rg [] none)
.leaf) .leaf))
(.seq (.rg [] none)
.leaf)))
theorem reticuleref16_Cut_Eok : EnvOk Try.prog reticuleref16_Cut_E := env_ok tab_ok (by simp) (allFn_mem (show AllFn Try.prog reticuleref16_Cut_fns from trivial)) mixed
theorem reticuleref16_Cut_eq (x : (List (BitVec 8))) : evF reticuleref16_Cut_E 9 (bd Try.f19) [.val (.sl (.int .u8))] [.tmp 2 ((.sl (.int .u8)), .view)] reticuleref16_Cut_an x = reticuleref16_Cut x := by kernel_rfl
theorem reticuleref16_Cut_ok : FnOk Try.prog 19 { args := [.val (.sl (.int .u8))], res := [((.sl (.int .u8)), .view)], f := reticuleref16_Cut } :=
  fn_ok reticuleref16_Cut_Eok Try.func19 rfl (by kernel_rfl) rfl (by kernel_rfl) (by kernel_rfl) (rs := [.tmp 2 ((.sl (.int .u8)), .view)]) (c := bd Try.f19) (an := reticuleref16_Cut_an) (ob_flat _ _ _ _ _ _ _ (by kernel_rfl)) reticuleref16_Cut_eq
/-! reticuleref16_In: function 12 -/
noncomputable def reticuleref16_In_fns : List (Nat × Fun) := [(28, { args := [.val T23], res := [(.bool, .view)], f := reticuleref16_Right }), (19, { args := [.val (.sl (.int .u8))], res := [((.sl (.int .u8)), .view)], f := reticuleref16_Cut })]
noncomputable def reticuleref16_In_E : Env := { ty := Re.look tyTab, eq := fun n => memB n [], fn := Re.look reticuleref16_In_fns }
noncomputable def reticuleref16_In_an : An (Ds ((([.cell 8 T23, .cell 9 T30, .tmp 10 (.bool, .view)] : List RV).map RV.pm).map (·.1) ++ ioTys [.val T23, .val T26, .val (.sl (.int .u8)), .val .bool])) :=
(.seq (.rg [] none)
(.seq (.seq (.rg [] none)
(.cond (.seq (.rg [] none)
.leaf) .leaf))
(.seq (.block (.seq (.rg [] (some (.op ⟨[64], []⟩ (.op ⟨[64], []⟩ (.op ⟨[], []⟩ (.split 21 [(27, .bool)] (.op ⟨[64], []⟩ (.op ⟨[64], []⟩ (.op ⟨[80], []⟩ (.op ⟨[80], []⟩ (.op ⟨[], []⟩ (.op ⟨[], []⟩ .done)))))) (.op ⟨[], []⟩ .done)))))))
(.cond (.seq (.rg [] none)
.leaf) (.seq (.rg [] (some (.op ⟨[64], []⟩ (.op ⟨[64], []⟩ (.op ⟨[], []⟩ (.op ⟨[], []⟩ (.split 34 [(37, .bool)] (.op ⟨[64], []⟩ (.op ⟨[64], []⟩ (.op ⟨[], []⟩ .done))) (.op ⟨[], []⟩ .done))))))))
(.cond (.seq (.rg [] none)
.leaf) (.seq (.rg [] (some (.op ⟨[64], []⟩ (.op ⟨[64], []⟩ (.op ⟨[], []⟩ (.op ⟨[], []⟩ (.split 44 [(47, .bool)] (.op ⟨[], []⟩ (.op ⟨[], []⟩ (.op ⟨[], []⟩ .done))) (.op ⟨[], []⟩ .done))))))))
(.cond (.seq (.rg [] none)
.leaf) .leaf)))))))
(.seq (.rg [] none)
(.seq (.rg [] none)
(.join [.box 4 T23, .box 5 T26, .box 8 T23, .box 9 T30, .val 11 .bool, .box 12 T30]
(.seq (.rg [] none)
(.cond (.rg [] none) .leaf))
(.seq (.seq (.rg [] none)
(.cond (.seq (.rg [] (some (.op ⟨[64], []⟩ (.op ⟨[64], []⟩ (.op ⟨[64], []⟩ (.op ⟨[64], []⟩ (.op ⟨[], []⟩ (.op ⟨[], []⟩ (.op ⟨[192], []⟩ (.op ⟨[], []⟩ (.op ⟨[128], [128]⟩ (.op ⟨[144], [144]⟩ (.op ⟨[], []⟩ .done)))))))))))))
.leaf) .leaf))
(.seq (.rg [] (some (.op ⟨[64], []⟩ (.op ⟨[64], []⟩ (.op ⟨[64], []⟩ (.op ⟨[64], []⟩ (.op ⟨[80], []⟩ (.op ⟨[80], []⟩ (.op ⟨[192], []⟩ (.op ⟨[192], []⟩ (.op ⟨[], []⟩ (.op ⟨[192], []⟩ (.op ⟨[], []⟩ (.op ⟨[128], [128]⟩ (.op ⟨[144], [144]⟩ (.op ⟨[], []⟩ .done))))))))))))))))
.leaf))))))))
theorem reticuleref16_In_Eok : EnvOk Try.prog reticuleref16_In_E := env_ok tab_ok (by simp) (allFn_mem (show AllFn Try.prog reticuleref16_In_fns from ⟨reticuleref16_Right_ok, reticuleref16_Cut_ok, trivial⟩)) mixed
theorem reticuleref16_In_eq (x : (Bool × (Int × (Bool × (Int × (List (BitVec 8) × Unit))))) × (Int × (Int × (Int × (Int × (Int × (Bool × (Int × (BitVec 64 × (List (BitVec 8) × Unit))))))))) × (List (BitVec 8)) × Bool) : evF reticuleref16_In_E 83 (bd Try.f12) [.val T23, .val T26, .val (.sl (.int .u8)), .val .bool] [.cell 8 T23, .cell 9 T30, .tmp 10 (.bool, .view)] reticuleref16_In_an x = reticuleref16_In x := by kernel_rfl
theorem reticuleref16_In_ok : FnOk Try.prog 12 { args := [.val T23, .val T26, .val (.sl (.int .u8)), .val .bool], res := [(T23, .view), (T30, .view), (.bool, .view)], f := reticuleref16_In } :=
  fn_ok reticuleref16_In_Eok Try.func12 rfl (by kernel_rfl) rfl (by kernel_rfl) (by kernel_rfl) (rs := [.cell 8 T23, .cell 9 T30, .tmp 10 (.bool, .view)]) (c := bd Try.f12) (an := reticuleref16_In_an) (ob_flat _ _ _ _ _ _ _ (by kernel_rfl)) reticuleref16_In_eq
/-! reticuleref16_Same: function 13 -/
noncomputable def reticuleref16_Same_fns : List (Nat × Fun) := []
noncomputable def reticuleref16_Same_E : Env := { ty := Re.look tyTab, eq := fun n => memB n [], fn := Re.look reticuleref16_Same_fns }
noncomputable def reticuleref16_Same_an : An (Ds ((([.tmp 4 (.bool, .view)] : List RV).map RV.pm).map (·.1) ++ ioTys [.val T23, .val T23])) :=
(.seq (.rg [] none)
(.seq (.rg [] (some (.op ⟨[32], []⟩ (.op ⟨[32], []⟩ (.op ⟨[48], []⟩ (.op ⟨[48], []⟩ (.op ⟨[], []⟩ (.op ⟨[], []⟩ (.split 10 [(16, .bool)] (.op ⟨[32], []⟩ (.op ⟨[32], []⟩ (.op ⟨[48], []⟩ (.op ⟨[48], []⟩ (.op ⟨[], []⟩ (.op ⟨[], []⟩ .done)))))) (.op ⟨[], []⟩ (.split 17 [(23, .bool)] (.op ⟨[32], []⟩ (.op ⟨[32], []⟩ (.op ⟨[48], []⟩ (.op ⟨[48], []⟩ (.op ⟨[], []⟩ (.op ⟨[], []⟩ .done)))))) (.op ⟨[], []⟩ (.split 24 [(30, .bool)] (.op ⟨[32], []⟩ (.op ⟨[32], []⟩ (.op ⟨[48], []⟩ (.op ⟨[48], []⟩ (.op ⟨[], []⟩ (.op ⟨[], []⟩ .done)))))) (.op ⟨[], []⟩ (.split 31 [(39, .bool)] (.op ⟨[32], []⟩ (.op ⟨[32], []⟩ (.op ⟨[], []⟩ (.op ⟨[48], []⟩ (.op ⟨[48], []⟩ (.op ⟨[], []⟩ (.op ⟨[], []⟩ (.op ⟨[], []⟩ .done)))))))) (.op ⟨[], []⟩ .done))))))))))))))))
.leaf))
theorem reticuleref16_Same_Eok : EnvOk Try.prog reticuleref16_Same_E := env_ok tab_ok (by simp) (allFn_mem (show AllFn Try.prog reticuleref16_Same_fns from trivial)) mixed
theorem reticuleref16_Same_eq (x : (Bool × (Int × (Bool × (Int × (List (BitVec 8) × Unit))))) × (Bool × (Int × (Bool × (Int × (List (BitVec 8) × Unit)))))) : evF reticuleref16_Same_E 40 (bd Try.f13) [.val T23, .val T23] [.tmp 4 (.bool, .view)] reticuleref16_Same_an x = reticuleref16_Same x := by kernel_rfl
theorem reticuleref16_Same_ok : FnOk Try.prog 13 { args := [.val T23, .val T23], res := [(.bool, .view)], f := reticuleref16_Same } :=
  fn_ok reticuleref16_Same_Eok Try.func13 rfl (by kernel_rfl) rfl (by kernel_rfl) (by kernel_rfl) (rs := [.tmp 4 (.bool, .view)]) (c := bd Try.f13) (an := reticuleref16_Same_an) (ob_flat _ _ _ _ _ _ _ (by kernel_rfl)) reticuleref16_Same_eq
/-! reticulelaw16_EndAsks: function 3 -/
noncomputable def reticulelaw16_EndAsks_fns : List (Nat × Fun) := [(9, { args := [], res := [(.bool, .view)], f := reticulelaw16_alive }), (10, { args := [.val T23], res := [(T23, .view)], f := reticuleref16_Copy }), (11, { args := [.val T23, .val T26, .val (.sl (.int .u8)), .val .bool], res := [(T23, .view), (T30, .view), (.bool, .view)], f := endpoint_In }), (12, { args := [.val T23, .val T26, .val (.sl (.int .u8)), .val .bool], res := [(T23, .view), (T30, .view), (.bool, .view)], f := reticuleref16_In }), (13, { args := [.val T23, .val T23], res := [(.bool, .view)], f := reticuleref16_Same }), (14, { args := [.val T30, .val T30], res := [(.bool, .view)], f := reticuleref16_Replies })]
noncomputable def reticulelaw16_EndAsks_E : Env := { ty := Re.look tyTab, eq := fun n => memB n [], fn := Re.look reticulelaw16_EndAsks_fns }
noncomputable def reticulelaw16_EndAsks_an : An (Ds ((([.tmp 6 (.bool, .view)] : List RV).map RV.pm).map (·.1) ++ ioTys [.val T23, .val T26, .val (.sl (.int .u8))])) :=
(.seq (.rg [] none)
(.seq (.seq (.rg [] none)
(.cond (.seq (.rg [] none)
.leaf) .leaf))
(.seq (.seq (.rg [] (some (.op ⟨[48], []⟩ (.op ⟨[48], []⟩ (.op ⟨[], []⟩ (.op ⟨[], []⟩ (.op ⟨[], []⟩ (.split 21 [(26, .bool)] (.op ⟨[64], []⟩ (.op ⟨[64], []⟩ (.op ⟨[], []⟩ (.op ⟨[], []⟩ (.op ⟨[], []⟩ .done))))) (.op ⟨[], []⟩ (.split 27 [(31, .bool)] (.op ⟨[], []⟩ (.op ⟨[], []⟩ (.op ⟨[], []⟩ (.op ⟨[], []⟩ .done)))) .done))))))))))
(.cond (.seq (.rg [] none)
.leaf) .leaf))
(.seq (.rg [] none)
(.seq (.seq (.rg [] none)
(.loop [.val 2 (.sl (.int .u8)), .box 3 T23, .box 4 T26, .box 7 T23, .val 8 (.int .i64)] [.box 3 T23, .box 7 T23] reticulelaw16_EndAsks_L0
(.seq (.seq (.rg [] none)
(.cond .leaf .leaf))
(.seq (.block (.seq (.rg [] none)
(.seq (.rg [] none)
(.seq (.rg [] (some (.op ⟨[144], []⟩ (.op ⟨[192], []⟩ (.op ⟨[960], []⟩ (.op ⟨[], []⟩ (.op ⟨[], []⟩ (.split 62 [(67, .bool)] (.op ⟨[160], []⟩ (.op ⟨[208], []⟩ (.op ⟨[1040], []⟩ (.op ⟨[], []⟩ (.op ⟨[], []⟩ .done))))) (.op ⟨[], []⟩ (.split 68 [(72, .bool)] (.op ⟨[], []⟩ (.op ⟨[], []⟩ (.op ⟨[], []⟩ (.op ⟨[], []⟩ .done)))) .done))))))))))
(.cond (.seq (.rg [] none)
.leaf) .leaf)))))
(.rg [] none)))))
(.seq (.rg [] none)
.leaf))))))
theorem reticulelaw16_EndAsks_Eok : EnvOk Try.prog reticulelaw16_EndAsks_E := env_ok tab_ok (by simp) (allFn_mem (show AllFn Try.prog reticulelaw16_EndAsks_fns from ⟨reticulelaw16_alive_ok, reticuleref16_Copy_ok, endpoint_In_ok, reticuleref16_In_ok, reticuleref16_Same_ok, reticuleref16_Replies_ok, trivial⟩)) mixed
theorem reticulelaw16_EndAsks_eq (x : (Bool × (Int × (Bool × (Int × (List (BitVec 8) × Unit))))) × (Int × (Int × (Int × (Int × (Int × (Bool × (Int × (BitVec 64 × (List (BitVec 8) × Unit))))))))) × (List (BitVec 8))) : evF reticulelaw16_EndAsks_E 76 (bd Try.f3) [.val T23, .val T26, .val (.sl (.int .u8))] [.tmp 6 (.bool, .view)] reticulelaw16_EndAsks_an x = reticulelaw16_EndAsks x := by kernel_rfl
theorem reticulelaw16_EndAsks_ok : FnOk Try.prog 3 { args := [.val T23, .val T26, .val (.sl (.int .u8))], res := [(.bool, .view)], f := reticulelaw16_EndAsks } :=
  fn_ok reticulelaw16_EndAsks_Eok Try.func3 rfl (by kernel_rfl) rfl (by kernel_rfl) (by kernel_rfl) (rs := [.tmp 6 (.bool, .view)]) (c := bd Try.f3) (an := reticulelaw16_EndAsks_an) (show obF reticulelaw16_EndAsks_E 76 (bd Try.f3) [.val T23, .val T26, .val (.sl (.int .u8))] [.tmp 6 (.bool, .view)] reticulelaw16_EndAsks_an from (And.intro trivial (And.intro (And.intro trivial (And.intro (And.intro trivial trivial) trivial)) (And.intro (And.intro trivial (And.intro (And.intro trivial trivial) trivial)) (And.intro trivial (And.intro (And.intro trivial (And.intro (fun _ => rfl) (And.intro (fun n j => by kernel_rfl) (fun n => (And.intro (And.intro trivial (And.intro trivial trivial)) (And.intro (And.intro trivial (And.intro trivial (And.intro trivial (And.intro (And.intro trivial trivial) trivial)))) trivial)))))) (And.intro trivial trivial))))))) reticulelaw16_EndAsks_eq
/-! reticuleref16_Out: function 16 -/
noncomputable def reticuleref16_Out_fns : List (Nat × Fun) := [(28, { args := [.val T23], res := [(.bool, .view)], f := reticuleref16_Right })]
noncomputable def reticuleref16_Out_E : Env := { ty := Re.look tyTab, eq := fun n => memB n [], fn := Re.look reticuleref16_Out_fns }
noncomputable def reticuleref16_Out_an : An (Ds ((([.cell 6 T23, .cell 7 T30, .tmp 8 (.bool, .view)] : List RV).map RV.pm).map (·.1) ++ ioTys [.val T23, .val T26, .val .bool])) :=
(.seq (.rg [] none)
(.seq (.block (.seq (.rg [] (some (.op ⟨[48], []⟩ (.op ⟨[176], []⟩ (.op ⟨[], []⟩ (.op ⟨[], []⟩ (.split 13 [(18, .bool)] (.op ⟨[64], []⟩ (.op ⟨[64], []⟩ (.op ⟨[], []⟩ (.op ⟨[], []⟩ (.op ⟨[], []⟩ .done))))) (.op ⟨[], []⟩ .done))))))))
(.cond (.seq (.rg [] none)
.leaf) (.seq (.rg [] none)
(.cond (.seq (.rg [] none)
.leaf) (.seq (.rg [] none)
(.cond (.seq (.rg [] none)
.leaf) (.seq (.rg [] none)
(.cond (.seq (.rg [] none)
.leaf) .leaf)))))))))
(.seq (.rg [] none)
(.seq (.rg [] none)
.leaf))))
theorem reticuleref16_Out_Eok : EnvOk Try.prog reticuleref16_Out_E := env_ok tab_ok (by simp) (allFn_mem (show AllFn Try.prog reticuleref16_Out_fns from ⟨reticuleref16_Right_ok, trivial⟩)) mixed
theorem reticuleref16_Out_eq (x : (Bool × (Int × (Bool × (Int × (List (BitVec 8) × Unit))))) × (Int × (Int × (Int × (Int × (Int × (Bool × (Int × (BitVec 64 × (List (BitVec 8) × Unit))))))))) × Bool) : evF reticuleref16_Out_E 45 (bd Try.f16) [.val T23, .val T26, .val .bool] [.cell 6 T23, .cell 7 T30, .tmp 8 (.bool, .view)] reticuleref16_Out_an x = reticuleref16_Out x := by kernel_rfl
theorem reticuleref16_Out_ok : FnOk Try.prog 16 { args := [.val T23, .val T26, .val .bool], res := [(T23, .view), (T30, .view), (.bool, .view)], f := reticuleref16_Out } :=
  fn_ok reticuleref16_Out_Eok Try.func16 rfl (by kernel_rfl) rfl (by kernel_rfl) (by kernel_rfl) (rs := [.cell 6 T23, .cell 7 T30, .tmp 8 (.bool, .view)]) (c := bd Try.f16) (an := reticuleref16_Out_an) (ob_flat _ _ _ _ _ _ _ (by kernel_rfl)) reticuleref16_Out_eq
/-! reticulelaw16_EndTakes: function 4 -/
noncomputable def reticulelaw16_EndTakes_fns : List (Nat × Fun) := [(9, { args := [], res := [(.bool, .view)], f := reticulelaw16_alive }), (10, { args := [.val T23], res := [(T23, .view)], f := reticuleref16_Copy }), (15, { args := [.val T23, .val T26, .val .bool], res := [(T23, .view), (T30, .view), (.bool, .view)], f := endpoint_Out }), (16, { args := [.val T23, .val T26, .val .bool], res := [(T23, .view), (T30, .view), (.bool, .view)], f := reticuleref16_Out }), (13, { args := [.val T23, .val T23], res := [(.bool, .view)], f := reticuleref16_Same }), (14, { args := [.val T30, .val T30], res := [(.bool, .view)], f := reticuleref16_Replies })]
noncomputable def reticulelaw16_EndTakes_E : Env := { ty := Re.look tyTab, eq := fun n => memB n [], fn := Re.look reticulelaw16_EndTakes_fns }
noncomputable def reticulelaw16_EndTakes_an : An (Ds ((([.tmp 4 (.bool, .view)] : List RV).map RV.pm).map (·.1) ++ ioTys [.val T23, .val T26])) :=
(.seq (.rg [] none)
(.seq (.seq (.rg [] none)
(.cond (.seq (.rg [] none)
.leaf) .leaf))
(.seq (.seq (.rg [] (some (.op ⟨[32], []⟩ (.op ⟨[32], []⟩ (.op ⟨[], []⟩ (.op ⟨[], []⟩ (.op ⟨[], []⟩ (.split 19 [(24, .bool)] (.op ⟨[48], []⟩ (.op ⟨[48], []⟩ (.op ⟨[], []⟩ (.op ⟨[], []⟩ (.op ⟨[], []⟩ .done))))) .done))))))))
(.cond (.seq (.rg [] none)
.leaf) .leaf))
(.seq (.rg [] none)
(.seq (.seq (.rg [] none)
(.loop [.box 2 T23, .box 3 T26, .box 5 T23, .val 6 (.int .i64)] [.box 2 T23, .box 5 T23] reticulelaw16_EndTakes_L0
(.seq (.seq (.rg [] none)
(.cond .leaf .leaf))
(.seq (.block (.seq (.rg [] none)
(.seq (.rg [] none)
(.seq (.rg [] (some (.op ⟨[112], []⟩ (.op ⟨[160], []⟩ (.op ⟨[816], []⟩ (.op ⟨[], []⟩ (.op ⟨[], []⟩ (.split 53 [(58, .bool)] (.op ⟨[128], []⟩ (.op ⟨[176], []⟩ (.op ⟨[896], []⟩ (.op ⟨[], []⟩ (.op ⟨[], []⟩ .done))))) (.op ⟨[], []⟩ (.split 59 [(63, .bool)] (.op ⟨[], []⟩ (.op ⟨[], []⟩ (.op ⟨[], []⟩ (.op ⟨[], []⟩ .done)))) .done))))))))))
(.cond (.seq (.rg [] none)
.leaf) .leaf)))))
(.rg [] none)))))
(.seq (.rg [] none)
.leaf))))))
theorem reticulelaw16_EndTakes_Eok : EnvOk Try.prog reticulelaw16_EndTakes_E := env_ok tab_ok (by simp) (allFn_mem (show AllFn Try.prog reticulelaw16_EndTakes_fns from ⟨reticulelaw16_alive_ok, reticuleref16_Copy_ok, endpoint_Out_ok, reticuleref16_Out_ok, reticuleref16_Same_ok, reticuleref16_Replies_ok, trivial⟩)) mixed
theorem reticulelaw16_EndTakes_eq (x : (Bool × (Int × (Bool × (Int × (List (BitVec 8) × Unit))))) × (Int × (Int × (Int × (Int × (Int × (Bool × (Int × (BitVec 64 × (List (BitVec 8) × Unit)))))))))) : evF reticulelaw16_EndTakes_E 67 (bd Try.f4) [.val T23, .val T26] [.tmp 4 (.bool, .view)] reticulelaw16_EndTakes_an x = reticulelaw16_EndTakes x := by kernel_rfl
theorem reticulelaw16_EndTakes_ok : FnOk Try.prog 4 { args := [.val T23, .val T26], res := [(.bool, .view)], f := reticulelaw16_EndTakes } :=
  fn_ok reticulelaw16_EndTakes_Eok Try.func4 rfl (by kernel_rfl) rfl (by kernel_rfl) (by kernel_rfl) (rs := [.tmp 4 (.bool, .view)]) (c := bd Try.f4) (an := reticulelaw16_EndTakes_an) (show obF reticulelaw16_EndTakes_E 67 (bd Try.f4) [.val T23, .val T26] [.tmp 4 (.bool, .view)] reticulelaw16_EndTakes_an from (And.intro trivial (And.intro (And.intro trivial (And.intro (And.intro trivial trivial) trivial)) (And.intro (And.intro trivial (And.intro (And.intro trivial trivial) trivial)) (And.intro trivial (And.intro (And.intro trivial (And.intro (fun _ => rfl) (And.intro (fun n j => by kernel_rfl) (fun n => (And.intro (And.intro trivial (And.intro trivial trivial)) (And.intro (And.intro trivial (And.intro trivial (And.intro trivial (And.intro (And.intro trivial trivial) trivial)))) trivial)))))) (And.intro trivial trivial))))))) reticulelaw16_EndTakes_eq
/-! reticulelaw16_great: function 17 -/
noncomputable def reticulelaw16_great_fns : List (Nat × Fun) := []
noncomputable def reticulelaw16_great_E : Env := { ty := Re.look tyTab, eq := fun n => memB n [], fn := Re.look reticulelaw16_great_fns }
noncomputable def reticulelaw16_great_an : An (Ds ((([.tmp 4 (.bool, .view)] : List RV).map RV.pm).map (·.1) ++ ioTys [.val (.sl (.sl (.int .u8))), .val (.sl T42)])) :=
(.seq (.rg [] none)
(.seq (.seq (.rg [] (some (.op ⟨[], []⟩ (.op ⟨[], []⟩ (.op ⟨[], []⟩ (.op ⟨[], []⟩ (.split 9 [(13, .bool)] (.op ⟨[], []⟩ (.op ⟨[], []⟩ (.op ⟨[], []⟩ (.op ⟨[], []⟩ .done)))) .done)))))))
(.cond (.seq (.rg [] none)
.leaf) .leaf))
(.seq (.seq (.rg [] none)
(.loop [.val 0 (.sl (.sl (.int .u8))), .val 5 (.int .i64)] [] reticulelaw16_great_L0
(.seq (.seq (.rg [] none)
(.cond .leaf .leaf))
(.seq (.block (.seq (.rg [] none)
(.cond (.seq (.rg [] none)
.leaf) .leaf)))
(.rg [] none)))))
(.seq (.rg [] none)
.leaf))))
theorem reticulelaw16_great_Eok : EnvOk Try.prog reticulelaw16_great_E := env_ok tab_ok (by simp) (allFn_mem (show AllFn Try.prog reticulelaw16_great_fns from trivial)) mixed
theorem reticulelaw16_great_eq (x : (List (List (BitVec 8))) × (List (Bool × (Bool × (Bool × Unit))))) : evF reticulelaw16_great_E 26 (bd Try.f17) [.val (.sl (.sl (.int .u8))), .val (.sl T42)] [.tmp 4 (.bool, .view)] reticulelaw16_great_an x = reticulelaw16_great x := by kernel_rfl
theorem reticulelaw16_great_ok : FnOk Try.prog 17 { args := [.val (.sl (.sl (.int .u8))), .val (.sl T42)], res := [(.bool, .view)], f := reticulelaw16_great } :=
  fn_ok reticulelaw16_great_Eok Try.func17 rfl (by kernel_rfl) rfl (by kernel_rfl) (by kernel_rfl) (rs := [.tmp 4 (.bool, .view)]) (c := bd Try.f17) (an := reticulelaw16_great_an) (show obF reticulelaw16_great_E 26 (bd Try.f17) [.val (.sl (.sl (.int .u8))), .val (.sl T42)] [.tmp 4 (.bool, .view)] reticulelaw16_great_an from (And.intro trivial (And.intro (And.intro trivial (And.intro (And.intro trivial trivial) trivial)) (And.intro (And.intro trivial (And.intro (fun _ => rfl) (And.intro (fun n j => by kernel_rfl) (fun n => (And.intro (And.intro trivial (And.intro trivial trivial)) (And.intro (And.intro trivial (And.intro (And.intro trivial trivial) trivial)) trivial)))))) (And.intro trivial trivial))))) reticulelaw16_great_eq
/-! reticulelaw16_begins: function 18 -/
noncomputable def reticulelaw16_begins_fns : List (Nat × Fun) := [(19, { args := [.val (.sl (.int .u8))], res := [((.sl (.int .u8)), .view)], f := reticuleref16_Cut })]
noncomputable def reticulelaw16_begins_E : Env := { ty := Re.look tyTab, eq := fun n => memB n [], fn := Re.look reticulelaw16_begins_fns }
noncomputable def reticulelaw16_begins_an : An (Ds ((([.tmp 4 (.bool, .view)] : List RV).map RV.pm).map (·.1) ++ ioTys [.val (.sl (.sl (.int .u8))), .val (.sl (.sl (.int .u8)))])) :=
(.seq (.rg [] none)
(.seq (.seq (.rg [] none)
(.cond (.seq (.rg [] none)
.leaf) .leaf))
(.seq (.seq (.rg [] none)
(.loop [.val 0 (.sl (.sl (.int .u8))), .val 1 (.sl (.sl (.int .u8))), .val 5 (.int .i64)] [] reticulelaw16_begins_L0
(.seq (.seq (.rg [] none)
(.cond .leaf .leaf))
(.seq (.block (.seq (.rg [] (some (.op ⟨[], []⟩ (.op ⟨[], []⟩ (.op ⟨[], []⟩ (.op ⟨[], []⟩ (.op ⟨[], []⟩ (.op ⟨[], []⟩ (.op ⟨[], []⟩ (.op ⟨[], []⟩ (.op ⟨[], []⟩ (.op ⟨[416], []⟩ (.op ⟨[], []⟩ (.op ⟨[], []⟩ .done))))))))))))))
(.cond (.seq (.rg [] none)
.leaf) .leaf)))
(.rg [] none)))))
(.seq (.rg [] none)
.leaf))))
theorem reticulelaw16_begins_Eok : EnvOk Try.prog reticulelaw16_begins_E := env_ok tab_ok (by simp) (allFn_mem (show AllFn Try.prog reticulelaw16_begins_fns from ⟨reticuleref16_Cut_ok, trivial⟩)) mixed
theorem reticulelaw16_begins_eq (x : (List (List (BitVec 8))) × (List (List (BitVec 8)))) : evF reticulelaw16_begins_E 29 (bd Try.f18) [.val (.sl (.sl (.int .u8))), .val (.sl (.sl (.int .u8)))] [.tmp 4 (.bool, .view)] reticulelaw16_begins_an x = reticulelaw16_begins x := by kernel_rfl
theorem reticulelaw16_begins_ok : FnOk Try.prog 18 { args := [.val (.sl (.sl (.int .u8))), .val (.sl (.sl (.int .u8)))], res := [(.bool, .view)], f := reticulelaw16_begins } :=
  fn_ok reticulelaw16_begins_Eok Try.func18 rfl (by kernel_rfl) rfl (by kernel_rfl) (by kernel_rfl) (rs := [.tmp 4 (.bool, .view)]) (c := bd Try.f18) (an := reticulelaw16_begins_an) (show obF reticulelaw16_begins_E 29 (bd Try.f18) [.val (.sl (.sl (.int .u8))), .val (.sl (.sl (.int .u8)))] [.tmp 4 (.bool, .view)] reticulelaw16_begins_an from (And.intro trivial (And.intro (And.intro trivial (And.intro (And.intro trivial trivial) trivial)) (And.intro (And.intro trivial (And.intro (fun _ => rfl) (And.intro (fun n j => by kernel_rfl) (fun n => (And.intro (And.intro trivial (And.intro trivial trivial)) (And.intro (And.intro trivial (And.intro (And.intro trivial trivial) trivial)) trivial)))))) (And.intro trivial trivial))))) reticulelaw16_begins_eq
/-! reticulelaw16_EndSends: function 5 -/
noncomputable def reticulelaw16_EndSends_fns : List (Nat × Fun) := [(9, { args := [], res := [(.bool, .view)], f := reticulelaw16_alive }), (17, { args := [.val (.sl (.sl (.int .u8))), .val (.sl T42)], res := [(.bool, .view)], f := reticulelaw16_great }), (11, { args := [.val T23, .val T26, .val (.sl (.int .u8)), .val .bool], res := [(T23, .view), (T30, .view), (.bool, .view)], f := endpoint_In }), (18, { args := [.val (.sl (.sl (.int .u8))), .val (.sl (.sl (.int .u8)))], res := [(.bool, .view)], f := reticulelaw16_begins })]
noncomputable def reticulelaw16_EndSends_E : Env := { ty := Re.look tyTab, eq := fun n => memB n [], fn := Re.look reticulelaw16_EndSends_fns }
noncomputable def reticulelaw16_EndSends_an : An (Ds ((([.tmp 4 (.bool, .view)] : List RV).map RV.pm).map (·.1) ++ ioTys [.val (.sl (.sl (.int .u8))), .val (.sl T42)])) :=
(.seq (.rg [] none)
(.seq (.seq (.rg [] none)
(.cond (.seq (.rg [] none)
.leaf) .leaf))
(.seq (.seq (.rg [] none)
(.cond (.seq (.rg [] none)
.leaf) .leaf))
(.seq (.rg [] none)
(.seq (.rg [] none)
(.seq (.rg [] none)
(.seq (.seq (.rg [] none)
(.loop [.val 0 (.sl (.sl (.int .u8))), .val 1 (.sl T42), .box 5 T23, .row 6 (.sl (.int .u8)) .tail, .val 7 (.int .i64), .val 8 (.int .i64), .val 9 (.int .i64)] [] reticulelaw16_EndSends_L0
(.seq (.seq (.rg [] none)
(.cond .leaf .leaf))
(.seq (.block (.seq (.rg [] none)
(.join [.val 0 (.sl (.sl (.int .u8))), .val 1 (.sl T42), .box 5 T23, .row 6 (.sl (.int .u8)) .tail, .val 7 (.int .i64), .val 8 (.int .i64), .val 9 (.int .i64), .val 10 (.sl (.int .u8))]
(.seq (.rg [] none)
(.cond (.rg [] none) .leaf))
(.seq (.rg [] (some (.op ⟨[80], []⟩ (.op ⟨[], []⟩ (.op ⟨[], []⟩ (.op ⟨[], []⟩ (.op ⟨[], []⟩ (.op ⟨[], []⟩ (.op ⟨[], []⟩ (.split 40 [(46, .bool)] (.op ⟨[], []⟩ (.op ⟨[], []⟩ (.op ⟨[], []⟩ (.op ⟨[], []⟩ (.op ⟨[], []⟩ (.op ⟨[], []⟩ .done)))))) (.op ⟨[], []⟩ (.op ⟨[], []⟩ (.op ⟨[], []⟩ (.op ⟨[], []⟩ (.op ⟨[], []⟩ (.op ⟨[], []⟩ (.op ⟨[848, 849, 850], []⟩ (.op ⟨[], []⟩ (.op ⟨[], []⟩ (.op ⟨[], []⟩ (.op ⟨[], []⟩ (.op ⟨[176], [176]⟩ (.op ⟨[192], [192]⟩ (.op ⟨[176], [176]⟩ (.op ⟨[192], [192]⟩ (.op ⟨[], []⟩ .done))))))))))))))))))))))))))
(.seq (.rg [] none)
(.join [.val 0 (.sl (.sl (.int .u8))), .val 1 (.sl T42), .box 5 T23, .row 6 (.sl (.int .u8)) .tail, .val 7 (.int .i64), .val 8 (.int .i64), .val 9 (.int .i64), .box 12 T30]
(.seq (.rg [] none)
(.cond (.rg [] none) .leaf))
(.seq (.seq (.rg [] (some (.op ⟨[], []⟩ (.op ⟨[], []⟩ (.op ⟨[], []⟩ (.op ⟨[], []⟩ (.op ⟨[], []⟩ (.split 65 [(74, .bool)] (.op ⟨[192], []⟩ (.op ⟨[192], []⟩ (.op ⟨[], []⟩ (.op ⟨[], []⟩ (.split 69 [(73, .bool)] (.op ⟨[192], []⟩ (.op ⟨[192], []⟩ (.op ⟨[], []⟩ (.op ⟨[], []⟩ .done)))) (.op ⟨[], []⟩ .done)))))) .done))))))))
(.cond (.seq (.rg [] none)
.leaf) .leaf))
(.join [.val 0 (.sl (.sl (.int .u8))), .val 1 (.sl T42), .box 5 T23, .row 6 (.sl (.int .u8)) .tail, .val 7 (.int .i64), .val 8 (.int .i64), .val 9 (.int .i64)]
(.seq (.rg [] (some (.op ⟨[192], []⟩ (.op ⟨[192], []⟩ (.op ⟨[], []⟩ (.op ⟨[], []⟩ (.split 78 [(84, .bool)] (.op ⟨[], []⟩ (.op ⟨[], []⟩ (.op ⟨[], []⟩ (.op ⟨[], []⟩ (.op ⟨[], []⟩ (.op ⟨[], []⟩ .done)))))) (.op ⟨[], []⟩ (.split 85 [(90, .bool)] (.op ⟨[192], []⟩ (.op ⟨[192], []⟩ (.op ⟨[], []⟩ (.op ⟨[], []⟩ (.op ⟨[], []⟩ .done))))) .done)))))))))
(.cond (.rg [] none) .leaf))
(.seq (.rg [] (some (.op ⟨[], []⟩ (.op ⟨[], []⟩ (.op ⟨[96, 1600], []⟩ (.op ⟨[], []⟩ (.op ⟨[], []⟩ (.split 102 [(107, .bool)] (.op ⟨[], []⟩ (.op ⟨[96], []⟩ (.op ⟨[], []⟩ (.op ⟨[], []⟩ (.op ⟨[], []⟩ .done))))) (.op ⟨[], []⟩ (.split 108 [(114, .bool)] (.op ⟨[], []⟩ (.op ⟨[96], []⟩ (.op ⟨[], []⟩ (.op ⟨[], []⟩ (.op ⟨[], []⟩ (.op ⟨[], []⟩ .done)))))) .done))))))))))
(.cond (.seq (.rg [] none)
.leaf) .leaf))))))))))
(.rg [] none)))))
(.seq (.rg [] none)
.leaf))))))))
theorem reticulelaw16_EndSends_Eok : EnvOk Try.prog reticulelaw16_EndSends_E := env_ok tab_ok (by simp) (allFn_mem (show AllFn Try.prog reticulelaw16_EndSends_fns from ⟨reticulelaw16_alive_ok, reticulelaw16_great_ok, endpoint_In_ok, reticulelaw16_begins_ok, trivial⟩)) mixed
theorem reticulelaw16_EndSends_eq (x : (List (List (BitVec 8))) × (List (Bool × (Bool × (Bool × Unit))))) : evF reticulelaw16_EndSends_E 115 (bd Try.f5) [.val (.sl (.sl (.int .u8))), .val (.sl T42)] [.tmp 4 (.bool, .view)] reticulelaw16_EndSends_an x = reticulelaw16_EndSends x := by kernel_rfl
theorem reticulelaw16_EndSends_ok : FnOk Try.prog 5 { args := [.val (.sl (.sl (.int .u8))), .val (.sl T42)], res := [(.bool, .view)], f := reticulelaw16_EndSends } :=
  fn_ok reticulelaw16_EndSends_Eok Try.func5 rfl (by kernel_rfl) rfl (by kernel_rfl) (by kernel_rfl) (rs := [.tmp 4 (.bool, .view)]) (c := bd Try.f5) (an := reticulelaw16_EndSends_an) (show obF reticulelaw16_EndSends_E 115 (bd Try.f5) [.val (.sl (.sl (.int .u8))), .val (.sl T42)] [.tmp 4 (.bool, .view)] reticulelaw16_EndSends_an from (And.intro trivial (And.intro (And.intro trivial (And.intro (And.intro trivial trivial) trivial)) (And.intro (And.intro trivial (And.intro (And.intro trivial trivial) trivial)) (And.intro trivial (And.intro trivial (And.intro trivial (And.intro (And.intro trivial (And.intro (fun _ => rfl) (And.intro (fun n j => by kernel_rfl) (fun n => (And.intro (And.intro trivial (And.intro trivial trivial)) (And.intro (And.intro trivial (And.intro (And.intro trivial (And.intro trivial trivial)) (And.intro trivial (And.intro trivial (And.intro (And.intro trivial (And.intro trivial trivial)) (And.intro (And.intro trivial (And.intro (And.intro trivial trivial) trivial)) (And.intro (And.intro trivial (And.intro trivial trivial)) (And.intro trivial (And.intro (And.intro trivial trivial) trivial))))))))) trivial)))))) (And.intro trivial trivial))))))))) reticulelaw16_EndSends_eq
/-! reticulelaw16_EndHears: function 6 -/
noncomputable def reticulelaw16_EndHears_fns : List (Nat × Fun) := [(9, { args := [], res := [(.bool, .view)], f := reticulelaw16_alive }), (17, { args := [.val (.sl (.sl (.int .u8))), .val (.sl T42)], res := [(.bool, .view)], f := reticulelaw16_great }), (19, { args := [.val (.sl (.int .u8))], res := [((.sl (.int .u8)), .view)], f := reticuleref16_Cut }), (15, { args := [.val T23, .val T26, .val .bool], res := [(T23, .view), (T30, .view), (.bool, .view)], f := endpoint_Out }), (18, { args := [.val (.sl (.sl (.int .u8))), .val (.sl (.sl (.int .u8)))], res := [(.bool, .view)], f := reticulelaw16_begins })]
noncomputable def reticulelaw16_EndHears_E : Env := { ty := Re.look tyTab, eq := fun n => memB n [], fn := Re.look reticulelaw16_EndHears_fns }
noncomputable def reticulelaw16_EndHears_an : An (Ds ((([.tmp 4 (.bool, .view)] : List RV).map RV.pm).map (·.1) ++ ioTys [.val (.sl (.sl (.int .u8))), .val (.sl T42)])) :=
(.seq (.rg [] none)
(.seq (.seq (.rg [] none)
(.cond (.seq (.rg [] none)
.leaf) .leaf))
(.seq (.seq (.rg [] none)
(.cond (.seq (.rg [] none)
.leaf) .leaf))
(.seq (.rg [] none)
(.seq (.rg [] none)
(.seq (.rg [] none)
(.seq (.seq (.rg [] none)
(.loop [.val 0 (.sl (.sl (.int .u8))), .val 1 (.sl T42), .box 5 T23, .row 6 (.sl (.int .u8)) .tail, .val 7 (.int .i64), .val 8 (.int .i64)] [] reticulelaw16_EndHears_L0
(.seq (.seq (.rg [] (some (.op ⟨[], []⟩ (.op ⟨[], []⟩ (.op ⟨[], []⟩ (.op ⟨[], []⟩ (.op ⟨[], []⟩ (.split 22 [(27, .bool)] (.op ⟨[], []⟩ (.op ⟨[], []⟩ (.op ⟨[], []⟩ (.op ⟨[], []⟩ (.op ⟨[], []⟩ .done))))) .done))))))))
(.cond .leaf .leaf))
(.join [.val 0 (.sl (.sl (.int .u8))), .val 1 (.sl T42), .box 5 T23, .row 6 (.sl (.int .u8)) .tail, .val 7 (.int .i64), .val 8 (.int .i64)]
(.block (.seq (.seq (.rg [] none)
(.cond .leaf .leaf))
(.seq (.rg [] none)
(.seq (.rg [] (some (.op ⟨[80], []⟩ (.op ⟨[], []⟩ (.op ⟨[], []⟩ (.op ⟨[], []⟩ (.op ⟨[], []⟩ (.op ⟨[], []⟩ (.op ⟨[], []⟩ (.op ⟨[], []⟩ (.op ⟨[], []⟩ (.op ⟨[], []⟩ (.op ⟨[832, 833, 834], []⟩ (.op ⟨[], []⟩ (.op ⟨[], []⟩ (.op ⟨[], []⟩ (.op ⟨[], []⟩ (.op ⟨[160], [160]⟩ (.op ⟨[176], [176]⟩ (.op ⟨[160], [160]⟩ (.op ⟨[176], [176]⟩ (.op ⟨[], []⟩ .done))))))))))))))))))))))
(.seq (.rg [] none)
(.join [.val 0 (.sl (.sl (.int .u8))), .val 1 (.sl T42), .box 5 T23, .row 6 (.sl (.int .u8)) .tail, .val 7 (.int .i64), .val 8 (.int .i64), .box 11 T30]
(.seq (.rg [] none)
(.cond (.rg [] none) .leaf))
(.join [.val 0 (.sl (.sl (.int .u8))), .val 1 (.sl T42), .box 5 T23, .row 6 (.sl (.int .u8)) .tail, .val 7 (.int .i64), .val 8 (.int .i64), .box 11 T30]
(.seq (.rg [] (some (.op ⟨[176], []⟩ (.op ⟨[176], []⟩ (.op ⟨[], []⟩ (.op ⟨[], []⟩ (.split 65 [(71, .bool)] (.op ⟨[], []⟩ (.op ⟨[], []⟩ (.op ⟨[], []⟩ (.op ⟨[], []⟩ (.op ⟨[], []⟩ (.op ⟨[], []⟩ .done)))))) .done)))))))
(.cond (.rg [] none) .leaf))
(.seq (.rg [] (some (.op ⟨[], []⟩ (.op ⟨[], []⟩ (.op ⟨[96, 1216], []⟩ (.op ⟨[], []⟩ (.op ⟨[], []⟩ (.split 78 [(83, .bool)] (.op ⟨[], []⟩ (.op ⟨[96], []⟩ (.op ⟨[], []⟩ (.op ⟨[], []⟩ (.op ⟨[], []⟩ .done))))) (.op ⟨[], []⟩ (.split 84 [(90, .bool)] (.op ⟨[], []⟩ (.op ⟨[96], []⟩ (.op ⟨[], []⟩ (.op ⟨[], []⟩ (.op ⟨[], []⟩ (.op ⟨[], []⟩ .done)))))) (.op ⟨[], []⟩ (.split 91 [(100, .bool)] (.op ⟨[176], []⟩ (.op ⟨[176], []⟩ (.op ⟨[], []⟩ (.op ⟨[], []⟩ (.split 95 [(99, .bool)] (.op ⟨[176], []⟩ (.op ⟨[176], []⟩ (.op ⟨[], []⟩ (.op ⟨[], []⟩ .done)))) (.op ⟨[], []⟩ .done)))))) .done))))))))))))
(.cond (.seq (.rg [] none)
.leaf) .leaf)))))))))
(.rg [] none)))))
(.seq (.rg [] none)
.leaf))))))))
theorem reticulelaw16_EndHears_Eok : EnvOk Try.prog reticulelaw16_EndHears_E := env_ok tab_ok (by simp) (allFn_mem (show AllFn Try.prog reticulelaw16_EndHears_fns from ⟨reticulelaw16_alive_ok, reticulelaw16_great_ok, reticuleref16_Cut_ok, endpoint_Out_ok, reticulelaw16_begins_ok, trivial⟩)) mixed
theorem reticulelaw16_EndHears_eq (x : (List (List (BitVec 8))) × (List (Bool × (Bool × (Bool × Unit))))) : evF reticulelaw16_EndHears_E 101 (bd Try.f6) [.val (.sl (.sl (.int .u8))), .val (.sl T42)] [.tmp 4 (.bool, .view)] reticulelaw16_EndHears_an x = reticulelaw16_EndHears x := by kernel_rfl
theorem reticulelaw16_EndHears_ok : FnOk Try.prog 6 { args := [.val (.sl (.sl (.int .u8))), .val (.sl T42)], res := [(.bool, .view)], f := reticulelaw16_EndHears } :=
  fn_ok reticulelaw16_EndHears_Eok Try.func6 rfl (by kernel_rfl) rfl (by kernel_rfl) (by kernel_rfl) (rs := [.tmp 4 (.bool, .view)]) (c := bd Try.f6) (an := reticulelaw16_EndHears_an) (show obF reticulelaw16_EndHears_E 101 (bd Try.f6) [.val (.sl (.sl (.int .u8))), .val (.sl T42)] [.tmp 4 (.bool, .view)] reticulelaw16_EndHears_an from (And.intro trivial (And.intro (And.intro trivial (And.intro (And.intro trivial trivial) trivial)) (And.intro (And.intro trivial (And.intro (And.intro trivial trivial) trivial)) (And.intro trivial (And.intro trivial (And.intro trivial (And.intro (And.intro trivial (And.intro (fun _ => rfl) (And.intro (fun n j => by kernel_rfl) (fun n => (And.intro (And.intro trivial (And.intro trivial trivial)) (And.intro (And.intro (And.intro trivial (And.intro trivial trivial)) (And.intro trivial (And.intro trivial (And.intro trivial (And.intro (And.intro trivial (And.intro trivial trivial)) (And.intro (And.intro trivial (And.intro trivial trivial)) (And.intro trivial (And.intro (And.intro trivial trivial) trivial)))))))) trivial)))))) (And.intro trivial trivial))))))))) reticulelaw16_EndHears_eq
/-! endpoint_Clear: function 20 -/
noncomputable def endpoint_Clear_fns : List (Nat × Fun) := []
noncomputable def endpoint_Clear_E : Env := { ty := Re.look tyTab, eq := fun n => memB n [], fn := Re.look endpoint_Clear_fns }
noncomputable def endpoint_Clear_an : An (Ds ((([.cell 2 T23] : List RV).map RV.pm).map (·.1) ++ ioTys [.val T23])) :=
(.seq (.rg [] none)
(.seq (.rg [] none)
.leaf))
theorem endpoint_Clear_Eok : EnvOk Try.prog endpoint_Clear_E := env_ok tab_ok (by simp) (allFn_mem (show AllFn Try.prog endpoint_Clear_fns from trivial)) mixed
theorem endpoint_Clear_eq (x : (Bool × (Int × (Bool × (Int × (List (BitVec 8) × Unit)))))) : evF endpoint_Clear_E 4 (bd Try.f20) [.val T23] [.cell 2 T23] endpoint_Clear_an x = endpoint_Clear x := by kernel_rfl
theorem endpoint_Clear_ok : FnOk Try.prog 20 { args := [.val T23], res := [(T23, .view)], f := endpoint_Clear } :=
  fn_ok endpoint_Clear_Eok Try.func20 rfl (by kernel_rfl) rfl (by kernel_rfl) (by kernel_rfl) (rs := [.cell 2 T23]) (c := bd Try.f20) (an := endpoint_Clear_an) (ob_flat _ _ _ _ _ _ _ (by kernel_rfl)) endpoint_Clear_eq
/-! reticuleref16_Halt: function 22 -/
noncomputable def reticuleref16_Halt_fns : List (Nat × Fun) := []
noncomputable def reticuleref16_Halt_E : Env := { ty := Re.look tyTab, eq := fun n => memB n [], fn := Re.look reticuleref16_Halt_fns }
noncomputable def reticuleref16_Halt_an : An (Ds ((([.cell 2 T23] : List RV).map RV.pm).map (·.1) ++ ioTys [.val T23])) :=
(.seq (.rg [] none)
(.seq (.rg [] none)
.leaf))
theorem reticuleref16_Halt_Eok : EnvOk Try.prog reticuleref16_Halt_E := env_ok tab_ok (by simp) (allFn_mem (show AllFn Try.prog reticuleref16_Halt_fns from trivial)) mixed
theorem reticuleref16_Halt_eq (x : (Bool × (Int × (Bool × (Int × (List (BitVec 8) × Unit)))))) : evF reticuleref16_Halt_E 6 (bd Try.f22) [.val T23] [.cell 2 T23] reticuleref16_Halt_an x = reticuleref16_Halt x := by kernel_rfl
theorem reticuleref16_Halt_ok : FnOk Try.prog 22 { args := [.val T23], res := [(T23, .view)], f := reticuleref16_Halt } :=
  fn_ok reticuleref16_Halt_Eok Try.func22 rfl (by kernel_rfl) rfl (by kernel_rfl) (by kernel_rfl) (rs := [.cell 2 T23]) (c := bd Try.f22) (an := reticuleref16_Halt_an) (ob_flat _ _ _ _ _ _ _ (by kernel_rfl)) reticuleref16_Halt_eq
/-! reticuleref16_Stall: function 24 -/
noncomputable def reticuleref16_Stall_fns : List (Nat × Fun) := []
noncomputable def reticuleref16_Stall_E : Env := { ty := Re.look tyTab, eq := fun n => memB n [], fn := Re.look reticuleref16_Stall_fns }
noncomputable def reticuleref16_Stall_an : An (Ds ((([.cell 2 T23] : List RV).map RV.pm).map (·.1) ++ ioTys [.val T23])) :=
(.seq (.rg [] none)
(.seq (.rg [] none)
(.seq (.rg [] none)
.leaf)))
theorem reticuleref16_Stall_Eok : EnvOk Try.prog reticuleref16_Stall_E := env_ok tab_ok (by simp) (allFn_mem (show AllFn Try.prog reticuleref16_Stall_fns from trivial)) mixed
theorem reticuleref16_Stall_eq (x : (Bool × (Int × (Bool × (Int × (List (BitVec 8) × Unit)))))) : evF reticuleref16_Stall_E 5 (bd Try.f24) [.val T23] [.cell 2 T23] reticuleref16_Stall_an x = reticuleref16_Stall x := by kernel_rfl
theorem reticuleref16_Stall_ok : FnOk Try.prog 24 { args := [.val T23], res := [(T23, .view)], f := reticuleref16_Stall } :=
  fn_ok reticuleref16_Stall_Eok Try.func24 rfl (by kernel_rfl) rfl (by kernel_rfl) (by kernel_rfl) (rs := [.cell 2 T23]) (c := bd Try.f24) (an := reticuleref16_Stall_an) (ob_flat _ _ _ _ _ _ _ (by kernel_rfl)) reticuleref16_Stall_eq
/-! reticuleref16_Flush: function 26 -/
noncomputable def reticuleref16_Flush_fns : List (Nat × Fun) := []
noncomputable def reticuleref16_Flush_E : Env := { ty := Re.look tyTab, eq := fun n => memB n [], fn := Re.look reticuleref16_Flush_fns }
noncomputable def reticuleref16_Flush_an : An (Ds ((([.cell 2 T23] : List RV).map RV.pm).map (·.1) ++ ioTys [.val T23])) :=
(.seq (.rg [] none)
(.seq (.rg [] none)
.leaf))
theorem reticuleref16_Flush_Eok : EnvOk Try.prog reticuleref16_Flush_E := env_ok tab_ok (by simp) (allFn_mem (show AllFn Try.prog reticuleref16_Flush_fns from trivial)) mixed
theorem reticuleref16_Flush_eq (x : (Bool × (Int × (Bool × (Int × (List (BitVec 8) × Unit)))))) : evF reticuleref16_Flush_E 8 (bd Try.f26) [.val T23] [.cell 2 T23] reticuleref16_Flush_an x = reticuleref16_Flush x := by kernel_rfl
theorem reticuleref16_Flush_ok : FnOk Try.prog 26 { args := [.val T23], res := [(T23, .view)], f := reticuleref16_Flush } :=
  fn_ok reticuleref16_Flush_Eok Try.func26 rfl (by kernel_rfl) rfl (by kernel_rfl) (by kernel_rfl) (rs := [.cell 2 T23]) (c := bd Try.f26) (an := reticuleref16_Flush_an) (ob_flat _ _ _ _ _ _ _ (by kernel_rfl)) reticuleref16_Flush_eq
/-! reticulelaw16_EndTurns: function 7 -/
noncomputable def reticulelaw16_EndTurns_fns : List (Nat × Fun) := [(9, { args := [], res := [(.bool, .view)], f := reticulelaw16_alive }), (20, { args := [.val T23], res := [(T23, .view)], f := endpoint_Clear }), (13, { args := [.val T23, .val T23], res := [(.bool, .view)], f := reticuleref16_Same }), (21, { args := [.val T23], res := [(T23, .view)], f := endpoint_Halt }), (22, { args := [.val T23], res := [(T23, .view)], f := reticuleref16_Halt }), (23, { args := [.val T23], res := [(T23, .view)], f := endpoint_Stall }), (24, { args := [.val T23], res := [(T23, .view)], f := reticuleref16_Stall }), (25, { args := [.val T23], res := [(T23, .view)], f := endpoint_Flush }), (26, { args := [.val T23], res := [(T23, .view)], f := reticuleref16_Flush }), (27, { args := [.val T23], res := [(.bool, .view)], f := endpoint_Right }), (28, { args := [.val T23], res := [(.bool, .view)], f := reticuleref16_Right }), (29, { args := [.val T23, .val T23], res := [(.bool, .view)], f := endpoint_Same })]
noncomputable def reticulelaw16_EndTurns_E : Env := { ty := Re.look tyTab, eq := fun n => memB n [], fn := Re.look reticulelaw16_EndTurns_fns }
noncomputable def reticulelaw16_EndTurns_an : An (Ds ((([.tmp 4 (.bool, .view)] : List RV).map RV.pm).map (·.1) ++ ioTys [.val T23, .val T23])) :=
(.seq (.rg [] none)
(.seq (.seq (.rg [] none)
(.cond (.seq (.rg [] none)
.leaf) .leaf))
(.seq (.seq (.rg [] (some (.op ⟨[32], []⟩ (.op ⟨[32], []⟩ (.op ⟨[], []⟩ (.op ⟨[], []⟩ (.op ⟨[], []⟩ (.split 11 [(16, .bool)] (.op ⟨[48], []⟩ (.op ⟨[48], []⟩ (.op ⟨[], []⟩ (.op ⟨[], []⟩ (.op ⟨[], []⟩ .done))))) .done))))))))
(.cond (.seq (.rg [] none)
.leaf) .leaf))
(.seq (.rg [] (some (.op ⟨[32], []⟩ (.op ⟨[288], []⟩ (.op ⟨[], []⟩ (.op ⟨[320], []⟩ (.op ⟨[], []⟩ (.split 21 [(27, .bool)] (.op ⟨[32], []⟩ (.op ⟨[368], []⟩ (.op ⟨[32], []⟩ (.op ⟨[400], []⟩ (.op ⟨[416], []⟩ (.op ⟨[], []⟩ .done)))))) (.op ⟨[], []⟩ (.split 28 [(34, .bool)] (.op ⟨[32], []⟩ (.op ⟨[480], []⟩ (.op ⟨[32], []⟩ (.op ⟨[512], []⟩ (.op ⟨[528], []⟩ (.op ⟨[], []⟩ .done)))))) (.op ⟨[], []⟩ (.split 35 [(41, .bool)] (.op ⟨[32], []⟩ (.op ⟨[592], []⟩ (.op ⟨[32], []⟩ (.op ⟨[624], []⟩ (.op ⟨[640], []⟩ (.op ⟨[], []⟩ .done)))))) (.op ⟨[], []⟩ (.split 42 [(48, .bool)] (.op ⟨[32], []⟩ (.op ⟨[704], []⟩ (.op ⟨[32], []⟩ (.op ⟨[736], []⟩ (.op ⟨[], []⟩ (.op ⟨[], []⟩ .done)))))) (.op ⟨[], []⟩ (.split 49 [(57, .bool)] (.op ⟨[32], []⟩ (.op ⟨[48], []⟩ (.op ⟨[832], []⟩ (.op ⟨[32], []⟩ (.op ⟨[48], []⟩ (.op ⟨[880], []⟩ (.op ⟨[], []⟩ (.op ⟨[], []⟩ .done)))))))) (.op ⟨[], []⟩ (.split 58 [(62, .bool)] (.op ⟨[32], []⟩ (.op ⟨[32], []⟩ (.op ⟨[976], []⟩ (.op ⟨[], []⟩ .done)))) (.op ⟨[], []⟩ .done)))))))))))))))))))
.leaf))))
theorem reticulelaw16_EndTurns_Eok : EnvOk Try.prog reticulelaw16_EndTurns_E := env_ok tab_ok (by simp) (allFn_mem (show AllFn Try.prog reticulelaw16_EndTurns_fns from ⟨reticulelaw16_alive_ok, endpoint_Clear_ok, reticuleref16_Same_ok, endpoint_Halt_ok, reticuleref16_Halt_ok, endpoint_Stall_ok, reticuleref16_Stall_ok, endpoint_Flush_ok, reticuleref16_Flush_ok, endpoint_Right_ok, reticuleref16_Right_ok, endpoint_Same_ok, trivial⟩)) mixed
theorem reticulelaw16_EndTurns_eq (x : (Bool × (Int × (Bool × (Int × (List (BitVec 8) × Unit))))) × (Bool × (Int × (Bool × (Int × (List (BitVec 8) × Unit)))))) : evF reticulelaw16_EndTurns_E 63 (bd Try.f7) [.val T23, .val T23] [.tmp 4 (.bool, .view)] reticulelaw16_EndTurns_an x = reticulelaw16_EndTurns x := by kernel_rfl
theorem reticulelaw16_EndTurns_ok : FnOk Try.prog 7 { args := [.val T23, .val T23], res := [(.bool, .view)], f := reticulelaw16_EndTurns } :=
  fn_ok reticulelaw16_EndTurns_Eok Try.func7 rfl (by kernel_rfl) rfl (by kernel_rfl) (by kernel_rfl) (rs := [.tmp 4 (.bool, .view)]) (c := bd Try.f7) (an := reticulelaw16_EndTurns_an) (ob_flat _ _ _ _ _ _ _ (by kernel_rfl)) reticulelaw16_EndTurns_eq
/-! reticulelaw16_EndClears: function 8 -/
noncomputable def reticulelaw16_EndClears_fns : List (Nat × Fun) := [(9, { args := [], res := [(.bool, .view)], f := reticulelaw16_alive }), (23, { args := [.val T23], res := [(T23, .view)], f := endpoint_Stall }), (20, { args := [.val T23], res := [(T23, .view)], f := endpoint_Clear }), (11, { args := [.val T23, .val T26, .val (.sl (.int .u8)), .val .bool], res := [(T23, .view), (T30, .view), (.bool, .view)], f := endpoint_In }), (19, { args := [.val (.sl (.int .u8))], res := [((.sl (.int .u8)), .view)], f := reticuleref16_Cut }), (15, { args := [.val T23, .val T26, .val .bool], res := [(T23, .view), (T30, .view), (.bool, .view)], f := endpoint_Out }), (21, { args := [.val T23], res := [(T23, .view)], f := endpoint_Halt })]
noncomputable def reticulelaw16_EndClears_E : Env := { ty := Re.look tyTab, eq := fun n => memB n [], fn := Re.look reticulelaw16_EndClears_fns }
noncomputable def reticulelaw16_EndClears_an : An (Ds ((([.tmp 6 (.bool, .view)] : List RV).map RV.pm).map (·.1) ++ ioTys [.val T23, .val (.sl (.int .u8)), .val .bool])) :=
(.seq (.rg [] none)
(.seq (.seq (.rg [] none)
(.cond (.seq (.rg [] none)
.leaf) .leaf))
(.seq (.seq (.rg [] (some (.op ⟨[48], []⟩ (.op ⟨[48], []⟩ (.op ⟨[], []⟩ (.op ⟨[], []⟩ (.op ⟨[], []⟩ (.split 23 [(27, .bool)] (.op ⟨[], []⟩ (.op ⟨[], []⟩ (.op ⟨[], []⟩ (.op ⟨[], []⟩ .done)))) .done))))))))
(.cond (.seq (.rg [] none)
.leaf) .leaf))
(.seq (.rg [] none)
(.seq (.rg [] none)
(.seq (.rg [] (some (.op ⟨[112], []⟩ (.op ⟨[], []⟩ (.op ⟨[688], []⟩ (.op ⟨[], []⟩ (.op ⟨[720, 721, 722], []⟩ (.op ⟨[], []⟩ (.op ⟨[], []⟩ (.op ⟨[], []⟩ (.op ⟨[], []⟩ (.op ⟨[176], [176]⟩ (.op ⟨[192], [192]⟩ (.op ⟨[176], [176]⟩ (.op ⟨[192], [192]⟩ (.op ⟨[], []⟩ .done))))))))))))))))
(.seq (.rg [] none)
(.seq (.rg [] (some (.op ⟨[], []⟩ (.op ⟨[], []⟩ (.split 60 [(62, .bool)] (.op ⟨[], []⟩ (.op ⟨[], []⟩ .done)) (.op ⟨[], []⟩ (.split 63 [(66, .bool)] (.op ⟨[], []⟩ (.op ⟨[], []⟩ (.op ⟨[], []⟩ .done))) (.op ⟨[], []⟩ (.split 67 [(71, .bool)] (.op ⟨[144], []⟩ (.op ⟨[144], []⟩ (.op ⟨[], []⟩ (.op ⟨[], []⟩ .done)))) (.op ⟨[], []⟩ (.split 72 [(76, .bool)] (.op ⟨[144], []⟩ (.op ⟨[144], []⟩ (.op ⟨[], []⟩ (.op ⟨[], []⟩ .done)))) (.op ⟨[], []⟩ (.split 77 [(85, .bool)] (.op ⟨[144], []⟩ (.op ⟨[144], []⟩ (.op ⟨[], []⟩ (.op ⟨[], []⟩ (.op ⟨[1312], []⟩ (.op ⟨[], []⟩ (.op ⟨[], []⟩ (.op ⟨[], []⟩ .done)))))))) (.op ⟨[], []⟩ (.split 86 [(90, .bool)] (.op ⟨[192], []⟩ (.op ⟨[192], []⟩ (.op ⟨[], []⟩ (.op ⟨[], []⟩ .done)))) (.op ⟨[], []⟩ (.split 91 [(95, .bool)] (.op ⟨[240], []⟩ (.op ⟨[240], []⟩ (.op ⟨[], []⟩ (.op ⟨[], []⟩ .done)))) (.op ⟨[], []⟩ .done))))))))))))))))))
.leaf))))))))
theorem reticulelaw16_EndClears_Eok : EnvOk Try.prog reticulelaw16_EndClears_E := env_ok tab_ok (by simp) (allFn_mem (show AllFn Try.prog reticulelaw16_EndClears_fns from ⟨reticulelaw16_alive_ok, endpoint_Stall_ok, endpoint_Clear_ok, endpoint_In_ok, reticuleref16_Cut_ok, endpoint_Out_ok, endpoint_Halt_ok, trivial⟩)) mixed
theorem reticulelaw16_EndClears_eq (x : (Bool × (Int × (Bool × (Int × (List (BitVec 8) × Unit))))) × (List (BitVec 8)) × Bool) : evF reticulelaw16_EndClears_E 96 (bd Try.f8) [.val T23, .val (.sl (.int .u8)), .val .bool] [.tmp 6 (.bool, .view)] reticulelaw16_EndClears_an x = reticulelaw16_EndClears x := by kernel_rfl
theorem reticulelaw16_EndClears_ok : FnOk Try.prog 8 { args := [.val T23, .val (.sl (.int .u8)), .val .bool], res := [(.bool, .view)], f := reticulelaw16_EndClears } :=
  fn_ok reticulelaw16_EndClears_Eok Try.func8 rfl (by kernel_rfl) rfl (by kernel_rfl) (by kernel_rfl) (rs := [.tmp 6 (.bool, .view)]) (c := bd Try.f8) (an := reticulelaw16_EndClears_an) (ob_flat _ _ _ _ _ _ _ (by kernel_rfl)) reticulelaw16_EndClears_eq
end Go.Proofs.Ytanfodimfgmbdaa
