/- Each function does what its plain one tells. Printed by the session's own program. -/
import Derived.Test.YtibfmdehmdploaaXT
import Derived.Test.YtibfmdehmdploaaXF
namespace Go.Proofs.Ytibfmdehmdploaa
open Go Go.Re
set_option linter.unusedVariables false
set_option linter.unusedSimpArgs false
set_option maxRecDepth 100000
/-! number_cut: function 24 -/
noncomputable def number_cut_fns : List (Nat × Fun) := []
noncomputable def number_cut_E : Env := { ty := Re.look tyTab, eq := fun n => memB n [], fn := Re.look number_cut_fns }
noncomputable def number_cut_an : An (Ds ((([.tmp 6 ((.sl (.int .u8)), .view), .tmp 7 (.bool, .view)] : List RV).map RV.pm).map (·.1) ++ ioTys [.val (.sl (.int .u8)), .val (.int .i64), .val (.int .i64)])) :=
(.seq (.rg [] none)
(.seq (.seq (.rg [] (some (.op ⟨[], []⟩ (.op ⟨[], []⟩ (.op ⟨[], []⟩ (.split 10 [(13, .bool)] (.op ⟨[], []⟩ (.op ⟨[], []⟩ (.op ⟨[], []⟩ .done))) (.op ⟨[], []⟩ (.split 14 [(17, .bool)] (.op ⟨[], []⟩ (.op ⟨[], []⟩ (.op ⟨[], []⟩ .done))) (.op ⟨[], []⟩ (.split 18 [(25, .bool)] (.op ⟨[], []⟩ (.op ⟨[], []⟩ (.op ⟨[], []⟩ (.op ⟨[], []⟩ (.op ⟨[], []⟩ (.op ⟨[], []⟩ (.op ⟨[], []⟩ .done))))))) .done))))))))))
(.cond (.seq (.rg [] none)
.leaf) .leaf))
(.seq (.rg [] none)
.leaf)))
theorem number_cut_Eok : EnvOk Try.prog number_cut_E := env_ok tab_ok (by simp) (allFn_mem (show AllFn Try.prog number_cut_fns from trivial)) mixed
theorem number_cut_eq (x : (List (BitVec 8)) × Int × Int) : evF number_cut_E 32 (bd Try.f24) [.val (.sl (.int .u8)), .val (.int .i64), .val (.int .i64)] [.tmp 6 ((.sl (.int .u8)), .view), .tmp 7 (.bool, .view)] number_cut_an x = number_cut x := by kernel_rfl
theorem number_cut_ok : FnOk Try.prog 24 { args := [.val (.sl (.int .u8)), .val (.int .i64), .val (.int .i64)], res := [((.sl (.int .u8)), .view), (.bool, .view)], f := number_cut } :=
  fn_ok number_cut_Eok Try.func24 rfl (by kernel_rfl) (by kernel_rfl) (by kernel_rfl) (rs := [.tmp 6 ((.sl (.int .u8)), .view), .tmp 7 (.bool, .view)]) (c := bd Try.f24) (an := number_cut_an) (ob_flat _ _ _ _ _ _ _ (by kernel_rfl)) number_cut_eq
/-! number_Big: function 10 -/
noncomputable def number_Big_fns : List (Nat × Fun) := [(24, { args := [.val (.sl (.int .u8)), .val (.int .i64), .val (.int .i64)], res := [((.sl (.int .u8)), .view), (.bool, .view)], f := number_cut })]
noncomputable def number_Big_E : Env := { ty := Re.look tyTab, eq := fun n => memB n [], fn := Re.look number_Big_fns }
noncomputable def number_Big_an : An (Ds ((([.tmp 6 ((.int .u64), .view), .tmp 7 (.bool, .view)] : List RV).map RV.pm).map (·.1) ++ ioTys [.val (.sl (.int .u8)), .val (.int .i64), .val (.int .i64)])) :=
(.seq (.rg [] none)
(.seq (.rg [] none)
(.seq (.seq (.rg [] none)
(.loop [.val 6 (.int .u64), .val 7 .bool, .val 18 (.sl (.int .u8)), .val 19 (.int .i64), .val 20 (.int .i64)] [.val 6 (.int .u64), .val 7 .bool] number_Big_L0
(.seq (.rg [] none)
(.seq (.cond .leaf .leaf)
(.seq (.block (.seq (.rg [] none)
(.rg [] none)))
(.rg [] none))))))
(.seq (.rg [] none)
.leaf))))
theorem number_Big_Eok : EnvOk Try.prog number_Big_E := env_ok tab_ok (by simp) (allFn_mem (show AllFn Try.prog number_Big_fns from ⟨number_cut_ok, trivial⟩)) mixed
theorem number_Big_eq (x : (List (BitVec 8)) × Int × Int) : evF number_Big_E 32 (bd Try.f10) [.val (.sl (.int .u8)), .val (.int .i64), .val (.int .i64)] [.tmp 6 ((.int .u64), .view), .tmp 7 (.bool, .view)] number_Big_an x = number_Big x := by kernel_rfl
theorem number_Big_ok : FnOk Try.prog 10 { args := [.val (.sl (.int .u8)), .val (.int .i64), .val (.int .i64)], res := [((.int .u64), .view), (.bool, .view)], f := number_Big } :=
  fn_ok number_Big_Eok Try.func10 rfl (by kernel_rfl) (by kernel_rfl) (by kernel_rfl) (rs := [.tmp 6 ((.int .u64), .view), .tmp 7 (.bool, .view)]) (c := bd Try.f10) (an := number_Big_an) (show obF number_Big_E 32 (bd Try.f10) [.val (.sl (.int .u8)), .val (.int .i64), .val (.int .i64)] [.tmp 6 ((.int .u64), .view), .tmp 7 (.bool, .view)] number_Big_an from (And.intro trivial (And.intro trivial (And.intro (And.intro trivial (And.intro (fun _ => rfl) (And.intro (fun n j => by kernel_rfl) (fun n => (And.intro trivial (And.intro (And.intro trivial trivial) (And.intro (And.intro trivial trivial) trivial))))))) (And.intro trivial trivial))))) number_Big_eq
/-! number_Little: function 12 -/
noncomputable def number_Little_fns : List (Nat × Fun) := [(24, { args := [.val (.sl (.int .u8)), .val (.int .i64), .val (.int .i64)], res := [((.sl (.int .u8)), .view), (.bool, .view)], f := number_cut })]
noncomputable def number_Little_E : Env := { ty := Re.look tyTab, eq := fun n => memB n [], fn := Re.look number_Little_fns }
noncomputable def number_Little_an : An (Ds ((([.tmp 6 ((.int .u64), .view), .tmp 7 (.bool, .view)] : List RV).map RV.pm).map (·.1) ++ ioTys [.val (.sl (.int .u8)), .val (.int .i64), .val (.int .i64)])) :=
(.seq (.rg [] none)
(.seq (.rg [] none)
(.seq (.seq (.rg [] none)
(.loop [.val 6 (.int .u64), .val 7 .bool, .val 18 (.sl (.int .u8)), .val 19 (.int .i64), .val 20 (.int .i64)] [.val 6 (.int .u64), .val 7 .bool] number_Little_L0
(.seq (.rg [] none)
(.seq (.cond .leaf .leaf)
(.seq (.block (.seq (.rg [] none)
(.rg [] none)))
(.rg [] none))))))
(.seq (.rg [] none)
.leaf))))
theorem number_Little_Eok : EnvOk Try.prog number_Little_E := env_ok tab_ok (by simp) (allFn_mem (show AllFn Try.prog number_Little_fns from ⟨number_cut_ok, trivial⟩)) mixed
theorem number_Little_eq (x : (List (BitVec 8)) × Int × Int) : evF number_Little_E 35 (bd Try.f12) [.val (.sl (.int .u8)), .val (.int .i64), .val (.int .i64)] [.tmp 6 ((.int .u64), .view), .tmp 7 (.bool, .view)] number_Little_an x = number_Little x := by kernel_rfl
theorem number_Little_ok : FnOk Try.prog 12 { args := [.val (.sl (.int .u8)), .val (.int .i64), .val (.int .i64)], res := [((.int .u64), .view), (.bool, .view)], f := number_Little } :=
  fn_ok number_Little_Eok Try.func12 rfl (by kernel_rfl) (by kernel_rfl) (by kernel_rfl) (rs := [.tmp 6 ((.int .u64), .view), .tmp 7 (.bool, .view)]) (c := bd Try.f12) (an := number_Little_an) (show obF number_Little_E 35 (bd Try.f12) [.val (.sl (.int .u8)), .val (.int .i64), .val (.int .i64)] [.tmp 6 ((.int .u64), .view), .tmp 7 (.bool, .view)] number_Little_an from (And.intro trivial (And.intro trivial (And.intro (And.intro trivial (And.intro (fun _ => rfl) (And.intro (fun n j => by kernel_rfl) (fun n => (And.intro trivial (And.intro (And.intro trivial trivial) (And.intro (And.intro trivial trivial) trivial))))))) (And.intro trivial trivial))))) number_Little_eq
/-! number_PutLittle: function 16 -/
noncomputable def number_PutLittle_fns : List (Nat × Fun) := []
noncomputable def number_PutLittle_E : Env := { ty := Re.look tyTab, eq := fun n => memB n [], fn := Re.look number_PutLittle_fns }
noncomputable def number_PutLittle_an : An (Ds ((([.tmp 4 ((.sl (.int .u8)), .full)] : List RV).map RV.pm).map (·.1) ++ ioTys [.val (.int .u64), .val (.int .i64)])) :=
(.seq (.rg [] none)
(.seq (.seq (.rg [] (some (.op ⟨[], []⟩ (.op ⟨[], []⟩ (.op ⟨[], []⟩ (.split 7 [(10, .bool)] (.op ⟨[], []⟩ (.op ⟨[], []⟩ (.op ⟨[], []⟩ .done))) .done))))))
(.cond (.seq (.rg [] none)
.leaf) .leaf))
(.seq (.seq (.rg [] none)
(.loop [.val 0 (.int .u64), .row 4 (.int .u8) .full, .val 11 (.int .i64), .val 12 (.int .i64)] [.row 4 (.int .u8) .full] number_PutLittle_L0
(.seq (.rg [] none)
(.seq (.cond .leaf .leaf)
(.seq (.block (.seq (.rg [] none)
(.rg [] none)))
(.rg [] none))))))
(.seq (.rg [] none)
.leaf))))
theorem number_PutLittle_Eok : EnvOk Try.prog number_PutLittle_E := env_ok tab_ok (by simp) (allFn_mem (show AllFn Try.prog number_PutLittle_fns from trivial)) mixed
theorem number_PutLittle_eq (x : (BitVec 64) × Int) : evF number_PutLittle_E 23 (bd Try.f16) [.val (.int .u64), .val (.int .i64)] [.tmp 4 ((.sl (.int .u8)), .full)] number_PutLittle_an x = number_PutLittle x := by kernel_rfl
theorem number_PutLittle_ok : FnOk Try.prog 16 { args := [.val (.int .u64), .val (.int .i64)], res := [((.sl (.int .u8)), .full)], f := number_PutLittle } :=
  fn_ok number_PutLittle_Eok Try.func16 rfl (by kernel_rfl) (by kernel_rfl) (by kernel_rfl) (rs := [.tmp 4 ((.sl (.int .u8)), .full)]) (c := bd Try.f16) (an := number_PutLittle_an) (show obF number_PutLittle_E 23 (bd Try.f16) [.val (.int .u64), .val (.int .i64)] [.tmp 4 ((.sl (.int .u8)), .full)] number_PutLittle_an from (And.intro trivial (And.intro (And.intro trivial (And.intro (And.intro trivial trivial) trivial)) (And.intro (And.intro trivial (And.intro (fun _ => rfl) (And.intro (fun n j => by kernel_rfl) (fun n => (And.intro trivial (And.intro (And.intro trivial trivial) (And.intro (And.intro trivial trivial) trivial))))))) (And.intro trivial trivial))))) number_PutLittle_eq
/-! slices_Reverse_byte: function 25 -/
noncomputable def slices_Reverse_byte_fns : List (Nat × Fun) := []
noncomputable def slices_Reverse_byte_E : Env := { ty := Re.look tyTab, eq := fun n => memB n [], fn := Re.look slices_Reverse_byte_fns }
noncomputable def slices_Reverse_byte_an : An (Ds ((([] : List RV).map RV.pm).map (·.1) ++ ioTys [.row (.int .u8)])) :=
(.seq (.rg [] none)
(.loop [.prow 0 (.int .u8), .val 2 (.int .i64), .val 3 (.int .i64)] [.prow 0 (.int .u8)] slices_Reverse_byte_L0
(.seq (.seq (.rg [] none)
(.cond .leaf .leaf))
(.seq (.block (.rg [] (some (.op ⟨[], []⟩ (.op ⟨[], []⟩ (.op ⟨[], []⟩ (.op ⟨[], []⟩ (.op ⟨[], []⟩ (.op ⟨[], []⟩ (.op ⟨[0], []⟩ (.op ⟨[0], []⟩ (.op ⟨[], []⟩ (.op ⟨[], []⟩ (.op ⟨[0], []⟩ (.op ⟨[0], []⟩ (.op ⟨[0], []⟩ (.op ⟨[0], [0]⟩ (.op ⟨[0], []⟩ (.op ⟨[0], [0]⟩ .done)))))))))))))))))))
(.rg [] none)))))
theorem slices_Reverse_byte_Eok : EnvOk Try.prog slices_Reverse_byte_E := env_ok tab_ok (by simp) (allFn_mem (show AllFn Try.prog slices_Reverse_byte_fns from trivial)) mixed
theorem slices_Reverse_byte_eq (x : (List (BitVec 8))) : evF slices_Reverse_byte_E 28 (bd Try.f25) [.row (.int .u8)] [] slices_Reverse_byte_an x = slices_Reverse_byte x := by kernel_rfl
theorem slices_Reverse_byte_ok : FnOk Try.prog 25 { args := [.row (.int .u8)], res := [], f := slices_Reverse_byte } :=
  fn_ok slices_Reverse_byte_Eok Try.func25 rfl (by kernel_rfl) (by kernel_rfl) (by kernel_rfl) (rs := []) (c := bd Try.f25) (an := slices_Reverse_byte_an) (show obF slices_Reverse_byte_E 28 (bd Try.f25) [.row (.int .u8)] [] slices_Reverse_byte_an from (And.intro trivial (And.intro (fun _ => rfl) (And.intro (fun n j => by kernel_rfl) (fun n => (And.intro (And.intro trivial (And.intro trivial trivial)) (And.intro trivial trivial))))))) slices_Reverse_byte_eq
/-! number_PutBig: function 14 -/
noncomputable def number_PutBig_fns : List (Nat × Fun) := [(16, { args := [.val (.int .u64), .val (.int .i64)], res := [((.sl (.int .u8)), .full)], f := number_PutLittle }), (25, { args := [.row (.int .u8)], res := [], f := slices_Reverse_byte })]
noncomputable def number_PutBig_E : Env := { ty := Re.look tyTab, eq := fun n => memB n [], fn := Re.look number_PutBig_fns }
noncomputable def number_PutBig_an : An (Ds ((([.tmp 4 ((.sl (.int .u8)), .full)] : List RV).map RV.pm).map (·.1) ++ ioTys [.val (.int .u64), .val (.int .i64)])) :=
(.seq (.rg [] none)
(.seq (.rg [] none)
(.seq (.rg [] none)
(.seq (.rg [] none)
.leaf))))
theorem number_PutBig_Eok : EnvOk Try.prog number_PutBig_E := env_ok tab_ok (by simp) (allFn_mem (show AllFn Try.prog number_PutBig_fns from ⟨number_PutLittle_ok, slices_Reverse_byte_ok, trivial⟩)) mixed
theorem number_PutBig_eq (x : (BitVec 64) × Int) : evF number_PutBig_E 12 (bd Try.f14) [.val (.int .u64), .val (.int .i64)] [.tmp 4 ((.sl (.int .u8)), .full)] number_PutBig_an x = number_PutBig x := by kernel_rfl
theorem number_PutBig_ok : FnOk Try.prog 14 { args := [.val (.int .u64), .val (.int .i64)], res := [((.sl (.int .u8)), .full)], f := number_PutBig } :=
  fn_ok number_PutBig_Eok Try.func14 rfl (by kernel_rfl) (by kernel_rfl) (by kernel_rfl) (rs := [.tmp 4 ((.sl (.int .u8)), .full)]) (c := bd Try.f14) (an := number_PutBig_an) (ob_flat _ _ _ _ _ _ _ (by kernel_rfl)) number_PutBig_eq
/-! number_mask: function 26 -/
noncomputable def number_mask_fns : List (Nat × Fun) := []
noncomputable def number_mask_E : Env := { ty := Re.look tyTab, eq := fun n => memB n [], fn := Re.look number_mask_fns }
noncomputable def number_mask_an : An (Ds ((([.tmp 4 ((.int .u64), .view)] : List RV).map RV.pm).map (·.1) ++ ioTys [.val (.int .i64), .val (.int .i64)])) :=
(.seq (.rg [] none)
(.seq (.seq (.rg [] (some (.op ⟨[], []⟩ (.op ⟨[], []⟩ (.op ⟨[], []⟩ (.split 7 [(10, .bool)] (.op ⟨[], []⟩ (.op ⟨[], []⟩ (.op ⟨[], []⟩ .done))) (.op ⟨[], []⟩ (.split 11 [(14, .bool)] (.op ⟨[], []⟩ (.op ⟨[], []⟩ (.op ⟨[], []⟩ .done))) (.op ⟨[], []⟩ (.split 15 [(20, .bool)] (.op ⟨[], []⟩ (.op ⟨[], []⟩ (.op ⟨[], []⟩ (.op ⟨[], []⟩ (.op ⟨[], []⟩ .done))))) .done))))))))))
(.cond (.seq (.rg [] none)
.leaf) .leaf))
(.seq (.rg [] none)
.leaf)))
theorem number_mask_Eok : EnvOk Try.prog number_mask_E := env_ok tab_ok (by simp) (allFn_mem (show AllFn Try.prog number_mask_fns from trivial)) mixed
theorem number_mask_eq (x : Int × Int) : evF number_mask_E 26 (bd Try.f26) [.val (.int .i64), .val (.int .i64)] [.tmp 4 ((.int .u64), .view)] number_mask_an x = number_mask x := by kernel_rfl
theorem number_mask_ok : FnOk Try.prog 26 { args := [.val (.int .i64), .val (.int .i64)], res := [((.int .u64), .view)], f := number_mask } :=
  fn_ok number_mask_Eok Try.func26 rfl (by kernel_rfl) (by kernel_rfl) (by kernel_rfl) (rs := [.tmp 4 ((.int .u64), .view)]) (c := bd Try.f26) (an := number_mask_an) (ob_flat _ _ _ _ _ _ _ (by kernel_rfl)) number_mask_eq
/-! number_Bits: function 18 -/
noncomputable def number_Bits_fns : List (Nat × Fun) := [(26, { args := [.val (.int .i64), .val (.int .i64)], res := [((.int .u64), .view)], f := number_mask })]
noncomputable def number_Bits_E : Env := { ty := Re.look tyTab, eq := fun n => memB n [], fn := Re.look number_Bits_fns }
noncomputable def number_Bits_an : An (Ds ((([.tmp 6 ((.int .u64), .view)] : List RV).map RV.pm).map (·.1) ++ ioTys [.val (.int .u64), .val (.int .i64), .val (.int .i64)])) :=
(.seq (.rg [] none)
(.seq (.rg [] none)
(.seq (.seq (.rg [] none)
(.cond (.seq (.rg [] none)
.leaf) .leaf))
(.seq (.rg [] none)
.leaf))))
theorem number_Bits_Eok : EnvOk Try.prog number_Bits_E := env_ok tab_ok (by simp) (allFn_mem (show AllFn Try.prog number_Bits_fns from ⟨number_mask_ok, trivial⟩)) mixed
theorem number_Bits_eq (x : (BitVec 64) × Int × Int) : evF number_Bits_E 18 (bd Try.f18) [.val (.int .u64), .val (.int .i64), .val (.int .i64)] [.tmp 6 ((.int .u64), .view)] number_Bits_an x = number_Bits x := by kernel_rfl
theorem number_Bits_ok : FnOk Try.prog 18 { args := [.val (.int .u64), .val (.int .i64), .val (.int .i64)], res := [((.int .u64), .view)], f := number_Bits } :=
  fn_ok number_Bits_Eok Try.func18 rfl (by kernel_rfl) (by kernel_rfl) (by kernel_rfl) (rs := [.tmp 6 ((.int .u64), .view)]) (c := bd Try.f18) (an := number_Bits_an) (ob_flat _ _ _ _ _ _ _ (by kernel_rfl)) number_Bits_eq
/-! number_Set: function 20 -/
noncomputable def number_Set_fns : List (Nat × Fun) := [(26, { args := [.val (.int .i64), .val (.int .i64)], res := [((.int .u64), .view)], f := number_mask })]
noncomputable def number_Set_E : Env := { ty := Re.look tyTab, eq := fun n => memB n [], fn := Re.look number_Set_fns }
noncomputable def number_Set_an : An (Ds ((([.tmp 8 ((.int .u64), .view)] : List RV).map RV.pm).map (·.1) ++ ioTys [.val (.int .u64), .val (.int .i64), .val (.int .i64), .val (.int .u64)])) :=
(.seq (.rg [] none)
(.seq (.rg [] none)
(.seq (.seq (.rg [] none)
(.cond (.seq (.rg [] none)
.leaf) .leaf))
(.seq (.rg [] none)
.leaf))))
theorem number_Set_Eok : EnvOk Try.prog number_Set_E := env_ok tab_ok (by simp) (allFn_mem (show AllFn Try.prog number_Set_fns from ⟨number_mask_ok, trivial⟩)) mixed
theorem number_Set_eq (x : (BitVec 64) × Int × Int × (BitVec 64)) : evF number_Set_E 25 (bd Try.f20) [.val (.int .u64), .val (.int .i64), .val (.int .i64), .val (.int .u64)] [.tmp 8 ((.int .u64), .view)] number_Set_an x = number_Set x := by kernel_rfl
theorem number_Set_ok : FnOk Try.prog 20 { args := [.val (.int .u64), .val (.int .i64), .val (.int .i64), .val (.int .u64)], res := [((.int .u64), .view)], f := number_Set } :=
  fn_ok number_Set_Eok Try.func20 rfl (by kernel_rfl) (by kernel_rfl) (by kernel_rfl) (rs := [.tmp 8 ((.int .u64), .view)]) (c := bd Try.f20) (an := number_Set_an) (ob_flat _ _ _ _ _ _ _ (by kernel_rfl)) number_Set_eq
/-! number_Text: function 22 -/
noncomputable def number_Text_fns : List (Nat × Fun) := []
noncomputable def number_Text_E : Env := { ty := Re.look tyTab, eq := fun n => memB n [], fn := Re.look number_Text_fns }
noncomputable def number_Text_an : An (Ds ((([.tmp 4 ((.sl (.int .u8)), .full)] : List RV).map RV.pm).map (·.1) ++ ioTys [.val .str, .val (.int .i64)])) :=
(.seq (.rg [] none)
(.seq (.seq (.rg [] (some (.op ⟨[], []⟩ (.op ⟨[], []⟩ (.op ⟨[], []⟩ (.split 9 [(12, .bool)] (.op ⟨[], []⟩ (.op ⟨[], []⟩ (.op ⟨[], []⟩ .done))) .done))))))
(.cond (.seq (.rg [] none)
.leaf) .leaf))
(.seq (.rg [] none)
(.seq (.seq (.rg [] none)
(.loop [.val 1 (.int .i64), .row 5 (.int .u8) .full, .val 6 (.int .i64)] [.row 5 (.int .u8) .full] number_Text_L0
(.seq (.seq (.rg [] none)
(.cond .leaf .leaf))
(.seq (.block (.rg [] none))
(.rg [] none)))))
(.seq (.rg [] none)
.leaf)))))
theorem number_Text_Eok : EnvOk Try.prog number_Text_E := env_ok tab_ok (by simp) (allFn_mem (show AllFn Try.prog number_Text_fns from trivial)) mixed
theorem number_Text_eq (x : (List (BitVec 8)) × Int) : evF number_Text_E 27 (bd Try.f22) [.val .str, .val (.int .i64)] [.tmp 4 ((.sl (.int .u8)), .full)] number_Text_an x = number_Text x := by kernel_rfl
theorem number_Text_ok : FnOk Try.prog 22 { args := [.val .str, .val (.int .i64)], res := [((.sl (.int .u8)), .full)], f := number_Text } :=
  fn_ok number_Text_Eok Try.func22 rfl (by kernel_rfl) (by kernel_rfl) (by kernel_rfl) (rs := [.tmp 4 ((.sl (.int .u8)), .full)]) (c := bd Try.f22) (an := number_Text_an) (show obF number_Text_E 27 (bd Try.f22) [.val .str, .val (.int .i64)] [.tmp 4 ((.sl (.int .u8)), .full)] number_Text_an from (And.intro trivial (And.intro (And.intro trivial (And.intro (And.intro trivial trivial) trivial)) (And.intro trivial (And.intro (And.intro trivial (And.intro (fun _ => rfl) (And.intro (fun n j => by kernel_rfl) (fun n => (And.intro (And.intro trivial (And.intro trivial trivial)) (And.intro trivial trivial)))))) (And.intro trivial trivial)))))) number_Text_eq
/-! reticulelaw01_alive: function 9 -/
noncomputable def reticulelaw01_alive_fns : List (Nat × Fun) := [(10, { args := [.val (.sl (.int .u8)), .val (.int .i64), .val (.int .i64)], res := [((.int .u64), .view), (.bool, .view)], f := number_Big }), (12, { args := [.val (.sl (.int .u8)), .val (.int .i64), .val (.int .i64)], res := [((.int .u64), .view), (.bool, .view)], f := number_Little }), (14, { args := [.val (.int .u64), .val (.int .i64)], res := [((.sl (.int .u8)), .full)], f := number_PutBig }), (16, { args := [.val (.int .u64), .val (.int .i64)], res := [((.sl (.int .u8)), .full)], f := number_PutLittle }), (18, { args := [.val (.int .u64), .val (.int .i64), .val (.int .i64)], res := [((.int .u64), .view)], f := number_Bits }), (20, { args := [.val (.int .u64), .val (.int .i64), .val (.int .i64), .val (.int .u64)], res := [((.int .u64), .view)], f := number_Set }), (22, { args := [.val .str, .val (.int .i64)], res := [((.sl (.int .u8)), .full)], f := number_Text })]
noncomputable def reticulelaw01_alive_E : Env := { ty := Re.look tyTab, eq := fun n => memB n [], fn := Re.look reticulelaw01_alive_fns }
noncomputable def reticulelaw01_alive_an : An (Ds ((([.tmp 0 (.bool, .view)] : List RV).map RV.pm).map (·.1) ++ ioTys [])) :=
(.seq (.rg [] none)
(.seq (.rg [] none)
(.seq (.rg [] none)
(.seq (.rg [] none)
(.seq (.rg [] none)
(.seq (.rg [] (some (.op ⟨[], []⟩ (.op ⟨[], []⟩ (.op ⟨[], []⟩ (.split 26 [(28, .bool)] (.op ⟨[], []⟩ (.op ⟨[], []⟩ .done)) (.op ⟨[], []⟩ (.split 29 [(32, .bool)] (.op ⟨[], []⟩ (.op ⟨[], []⟩ (.op ⟨[], []⟩ .done))) (.op ⟨[], []⟩ (.split 33 [(35, .bool)] (.op ⟨[], []⟩ (.op ⟨[], []⟩ .done)) (.op ⟨[], []⟩ (.split 36 [(39, .bool)] (.op ⟨[], []⟩ (.op ⟨[], []⟩ (.op ⟨[], []⟩ .done))) (.op ⟨[], []⟩ (.split 40 [(44, .bool)] (.op ⟨[656], [656]⟩ (.op ⟨[656], []⟩ (.op ⟨[], []⟩ (.op ⟨[], []⟩ .done)))) (.op ⟨[], []⟩ (.split 45 [(49, .bool)] (.op ⟨[736], [736]⟩ (.op ⟨[736], []⟩ (.op ⟨[], []⟩ (.op ⟨[], []⟩ .done)))) (.op ⟨[], []⟩ (.split 50 [(53, .bool)] (.op ⟨[816], []⟩ (.op ⟨[], []⟩ (.op ⟨[], []⟩ .done))) (.op ⟨[], []⟩ (.split 54 [(57, .bool)] (.op ⟨[880], []⟩ (.op ⟨[], []⟩ (.op ⟨[], []⟩ .done))) (.op ⟨[], []⟩ (.split 58 [(62, .bool)] (.op ⟨[944], [944]⟩ (.op ⟨[944], []⟩ (.op ⟨[], []⟩ (.op ⟨[], []⟩ .done)))) (.op ⟨[], []⟩ .done)))))))))))))))))))))))
.leaf))))))
theorem reticulelaw01_alive_Eok : EnvOk Try.prog reticulelaw01_alive_E := env_ok tab_ok (by simp) (allFn_mem (show AllFn Try.prog reticulelaw01_alive_fns from ⟨number_Big_ok, number_Little_ok, number_PutBig_ok, number_PutLittle_ok, number_Bits_ok, number_Set_ok, number_Text_ok, trivial⟩)) mixed
theorem reticulelaw01_alive_eq (x : Unit) : evF reticulelaw01_alive_E 63 (bd Try.f9) [] [.tmp 0 (.bool, .view)] reticulelaw01_alive_an x = reticulelaw01_alive x := by kernel_rfl
theorem reticulelaw01_alive_ok : FnOk Try.prog 9 { args := [], res := [(.bool, .view)], f := reticulelaw01_alive } :=
  fn_ok reticulelaw01_alive_Eok Try.func9 rfl (by kernel_rfl) (by kernel_rfl) (by kernel_rfl) (rs := [.tmp 0 (.bool, .view)]) (c := bd Try.f9) (an := reticulelaw01_alive_an) (ob_flat _ _ _ _ _ _ _ (by kernel_rfl)) reticulelaw01_alive_eq
/-! reticuleref01_Big: function 11 -/
noncomputable def reticuleref01_Big_fns : List (Nat × Fun) := []
noncomputable def reticuleref01_Big_E : Env := { ty := Re.look tyTab, eq := fun n => memB n [], fn := Re.look reticuleref01_Big_fns }
noncomputable def reticuleref01_Big_an : An (Ds ((([.tmp 6 ((.int .u64), .view), .tmp 7 (.bool, .view)] : List RV).map RV.pm).map (·.1) ++ ioTys [.val (.sl (.int .u8)), .val (.int .i64), .val (.int .i64)])) :=
(.seq (.rg [] none)
(.seq (.seq (.rg [] (some (.op ⟨[], []⟩ (.op ⟨[], []⟩ (.op ⟨[], []⟩ (.split 12 [(15, .bool)] (.op ⟨[], []⟩ (.op ⟨[], []⟩ (.op ⟨[], []⟩ .done))) (.op ⟨[], []⟩ (.split 16 [(19, .bool)] (.op ⟨[], []⟩ (.op ⟨[], []⟩ (.op ⟨[], []⟩ .done))) (.op ⟨[], []⟩ (.split 20 [(25, .bool)] (.op ⟨[], []⟩ (.op ⟨[], []⟩ (.op ⟨[], []⟩ (.op ⟨[], []⟩ (.op ⟨[], []⟩ .done))))) (.op ⟨[], []⟩ (.split 26 [(33, .bool)] (.op ⟨[], []⟩ (.op ⟨[], []⟩ (.op ⟨[], []⟩ (.op ⟨[], []⟩ (.op ⟨[], []⟩ (.op ⟨[], []⟩ (.op ⟨[], []⟩ .done))))))) .done))))))))))))
(.cond (.seq (.rg [] none)
.leaf) .leaf))
(.seq (.rg [] none)
(.seq (.seq (.rg [] none)
(.loop [.val 0 (.sl (.int .u8)), .val 1 (.int .i64), .val 2 (.int .i64), .val 8 (.int .u64), .val 9 (.int .i64)] [.val 8 (.int .u64)] reticuleref01_Big_L0
(.seq (.seq (.rg [] none)
(.cond .leaf .leaf))
(.seq (.block (.rg [] none))
(.rg [] none)))))
(.seq (.rg [] none)
.leaf)))))
theorem reticuleref01_Big_Eok : EnvOk Try.prog reticuleref01_Big_E := env_ok tab_ok (by simp) (allFn_mem (show AllFn Try.prog reticuleref01_Big_fns from trivial)) mixed
theorem reticuleref01_Big_eq (x : (List (BitVec 8)) × Int × Int) : evF reticuleref01_Big_E 50 (bd Try.f11) [.val (.sl (.int .u8)), .val (.int .i64), .val (.int .i64)] [.tmp 6 ((.int .u64), .view), .tmp 7 (.bool, .view)] reticuleref01_Big_an x = reticuleref01_Big x := by kernel_rfl
theorem reticuleref01_Big_ok : FnOk Try.prog 11 { args := [.val (.sl (.int .u8)), .val (.int .i64), .val (.int .i64)], res := [((.int .u64), .view), (.bool, .view)], f := reticuleref01_Big } :=
  fn_ok reticuleref01_Big_Eok Try.func11 rfl (by kernel_rfl) (by kernel_rfl) (by kernel_rfl) (rs := [.tmp 6 ((.int .u64), .view), .tmp 7 (.bool, .view)]) (c := bd Try.f11) (an := reticuleref01_Big_an) (show obF reticuleref01_Big_E 50 (bd Try.f11) [.val (.sl (.int .u8)), .val (.int .i64), .val (.int .i64)] [.tmp 6 ((.int .u64), .view), .tmp 7 (.bool, .view)] reticuleref01_Big_an from (And.intro trivial (And.intro (And.intro trivial (And.intro (And.intro trivial trivial) trivial)) (And.intro trivial (And.intro (And.intro trivial (And.intro (fun _ => rfl) (And.intro (fun n j => by kernel_rfl) (fun n => (And.intro (And.intro trivial (And.intro trivial trivial)) (And.intro trivial trivial)))))) (And.intro trivial trivial)))))) reticuleref01_Big_eq
/-! reticuleref01_Little: function 13 -/
noncomputable def reticuleref01_Little_fns : List (Nat × Fun) := []
noncomputable def reticuleref01_Little_E : Env := { ty := Re.look tyTab, eq := fun n => memB n [], fn := Re.look reticuleref01_Little_fns }
noncomputable def reticuleref01_Little_an : An (Ds ((([.tmp 6 ((.int .u64), .view), .tmp 7 (.bool, .view)] : List RV).map RV.pm).map (·.1) ++ ioTys [.val (.sl (.int .u8)), .val (.int .i64), .val (.int .i64)])) :=
(.seq (.rg [] none)
(.seq (.seq (.rg [] (some (.op ⟨[], []⟩ (.op ⟨[], []⟩ (.op ⟨[], []⟩ (.split 12 [(15, .bool)] (.op ⟨[], []⟩ (.op ⟨[], []⟩ (.op ⟨[], []⟩ .done))) (.op ⟨[], []⟩ (.split 16 [(19, .bool)] (.op ⟨[], []⟩ (.op ⟨[], []⟩ (.op ⟨[], []⟩ .done))) (.op ⟨[], []⟩ (.split 20 [(25, .bool)] (.op ⟨[], []⟩ (.op ⟨[], []⟩ (.op ⟨[], []⟩ (.op ⟨[], []⟩ (.op ⟨[], []⟩ .done))))) (.op ⟨[], []⟩ (.split 26 [(33, .bool)] (.op ⟨[], []⟩ (.op ⟨[], []⟩ (.op ⟨[], []⟩ (.op ⟨[], []⟩ (.op ⟨[], []⟩ (.op ⟨[], []⟩ (.op ⟨[], []⟩ .done))))))) .done))))))))))))
(.cond (.seq (.rg [] none)
.leaf) .leaf))
(.seq (.rg [] none)
(.seq (.seq (.rg [] none)
(.loop [.val 0 (.sl (.int .u8)), .val 1 (.int .i64), .val 8 (.int .u64), .val 9 (.int .i64)] [.val 8 (.int .u64)] reticuleref01_Little_L0
(.seq (.seq (.rg [] none)
(.cond .leaf .leaf))
(.seq (.block (.rg [] none))
(.rg [] none)))))
(.seq (.rg [] none)
.leaf)))))
theorem reticuleref01_Little_Eok : EnvOk Try.prog reticuleref01_Little_E := env_ok tab_ok (by simp) (allFn_mem (show AllFn Try.prog reticuleref01_Little_fns from trivial)) mixed
theorem reticuleref01_Little_eq (x : (List (BitVec 8)) × Int × Int) : evF reticuleref01_Little_E 51 (bd Try.f13) [.val (.sl (.int .u8)), .val (.int .i64), .val (.int .i64)] [.tmp 6 ((.int .u64), .view), .tmp 7 (.bool, .view)] reticuleref01_Little_an x = reticuleref01_Little x := by kernel_rfl
theorem reticuleref01_Little_ok : FnOk Try.prog 13 { args := [.val (.sl (.int .u8)), .val (.int .i64), .val (.int .i64)], res := [((.int .u64), .view), (.bool, .view)], f := reticuleref01_Little } :=
  fn_ok reticuleref01_Little_Eok Try.func13 rfl (by kernel_rfl) (by kernel_rfl) (by kernel_rfl) (rs := [.tmp 6 ((.int .u64), .view), .tmp 7 (.bool, .view)]) (c := bd Try.f13) (an := reticuleref01_Little_an) (show obF reticuleref01_Little_E 51 (bd Try.f13) [.val (.sl (.int .u8)), .val (.int .i64), .val (.int .i64)] [.tmp 6 ((.int .u64), .view), .tmp 7 (.bool, .view)] reticuleref01_Little_an from (And.intro trivial (And.intro (And.intro trivial (And.intro (And.intro trivial trivial) trivial)) (And.intro trivial (And.intro (And.intro trivial (And.intro (fun _ => rfl) (And.intro (fun n j => by kernel_rfl) (fun n => (And.intro (And.intro trivial (And.intro trivial trivial)) (And.intro trivial trivial)))))) (And.intro trivial trivial)))))) reticuleref01_Little_eq
/-! reticulelaw01_NumberReads: function 3 -/
noncomputable def reticulelaw01_NumberReads_fns : List (Nat × Fun) := [(9, { args := [], res := [(.bool, .view)], f := reticulelaw01_alive }), (10, { args := [.val (.sl (.int .u8)), .val (.int .i64), .val (.int .i64)], res := [((.int .u64), .view), (.bool, .view)], f := number_Big }), (11, { args := [.val (.sl (.int .u8)), .val (.int .i64), .val (.int .i64)], res := [((.int .u64), .view), (.bool, .view)], f := reticuleref01_Big }), (12, { args := [.val (.sl (.int .u8)), .val (.int .i64), .val (.int .i64)], res := [((.int .u64), .view), (.bool, .view)], f := number_Little }), (13, { args := [.val (.sl (.int .u8)), .val (.int .i64), .val (.int .i64)], res := [((.int .u64), .view), (.bool, .view)], f := reticuleref01_Little })]
noncomputable def reticulelaw01_NumberReads_E : Env := { ty := Re.look tyTab, eq := fun n => memB n [], fn := Re.look reticulelaw01_NumberReads_fns }
noncomputable def reticulelaw01_NumberReads_an : An (Ds ((([.tmp 6 (.bool, .view)] : List RV).map RV.pm).map (·.1) ++ ioTys [.val (.sl (.int .u8)), .val (.int .i64), .val (.int .i64)])) :=
(.seq (.rg [] none)
(.seq (.seq (.rg [] none)
(.cond (.seq (.rg [] none)
.leaf) .leaf))
(.seq (.seq (.rg [] none)
(.cond (.seq (.rg [] none)
.leaf) .leaf))
(.seq (.rg [] none)
(.seq (.rg [] none)
(.seq (.rg [] none)
(.seq (.rg [] none)
(.seq (.rg [] (some (.op ⟨[], []⟩ (.op ⟨[], []⟩ (.op ⟨[], []⟩ (.op ⟨[], []⟩ (.split 51 [(55, .bool)] (.op ⟨[], []⟩ (.op ⟨[], []⟩ (.op ⟨[], []⟩ (.op ⟨[], []⟩ .done)))) (.op ⟨[], []⟩ (.split 56 [(60, .bool)] (.op ⟨[], []⟩ (.op ⟨[], []⟩ (.op ⟨[], []⟩ (.op ⟨[], []⟩ .done)))) (.op ⟨[], []⟩ (.split 61 [(65, .bool)] (.op ⟨[], []⟩ (.op ⟨[], []⟩ (.op ⟨[], []⟩ (.op ⟨[], []⟩ .done)))) (.op ⟨[], []⟩ .done))))))))))))
.leaf))))))))
theorem reticulelaw01_NumberReads_Eok : EnvOk Try.prog reticulelaw01_NumberReads_E := env_ok tab_ok (by simp) (allFn_mem (show AllFn Try.prog reticulelaw01_NumberReads_fns from ⟨reticulelaw01_alive_ok, number_Big_ok, reticuleref01_Big_ok, number_Little_ok, reticuleref01_Little_ok, trivial⟩)) mixed
theorem reticulelaw01_NumberReads_eq (x : (List (BitVec 8)) × Int × Int) : evF reticulelaw01_NumberReads_E 66 (bd Try.f3) [.val (.sl (.int .u8)), .val (.int .i64), .val (.int .i64)] [.tmp 6 (.bool, .view)] reticulelaw01_NumberReads_an x = reticulelaw01_NumberReads x := by kernel_rfl
theorem reticulelaw01_NumberReads_ok : FnOk Try.prog 3 { args := [.val (.sl (.int .u8)), .val (.int .i64), .val (.int .i64)], res := [(.bool, .view)], f := reticulelaw01_NumberReads } :=
  fn_ok reticulelaw01_NumberReads_Eok Try.func3 rfl (by kernel_rfl) (by kernel_rfl) (by kernel_rfl) (rs := [.tmp 6 (.bool, .view)]) (c := bd Try.f3) (an := reticulelaw01_NumberReads_an) (ob_flat _ _ _ _ _ _ _ (by kernel_rfl)) reticulelaw01_NumberReads_eq
/-! reticuleref01_PutBig: function 15 -/
noncomputable def reticuleref01_PutBig_fns : List (Nat × Fun) := []
noncomputable def reticuleref01_PutBig_E : Env := { ty := Re.look tyTab, eq := fun n => memB n [], fn := Re.look reticuleref01_PutBig_fns }
noncomputable def reticuleref01_PutBig_an : An (Ds ((([.tmp 4 ((.sl (.int .u8)), .full)] : List RV).map RV.pm).map (·.1) ++ ioTys [.val (.int .u64), .val (.int .i64)])) :=
(.seq (.rg [] none)
(.seq (.seq (.rg [] (some (.op ⟨[], []⟩ (.op ⟨[], []⟩ (.op ⟨[], []⟩ (.split 9 [(12, .bool)] (.op ⟨[], []⟩ (.op ⟨[], []⟩ (.op ⟨[], []⟩ .done))) .done))))))
(.cond (.seq (.rg [] none)
.leaf) .leaf))
(.seq (.rg [] none)
(.seq (.seq (.rg [] none)
(.loop [.val 0 (.int .u64), .row 5 (.int .u8) .full, .val 6 (.int .i64)] [.row 5 (.int .u8) .full] reticuleref01_PutBig_L0
(.seq (.seq (.rg [] none)
(.cond .leaf .leaf))
(.seq (.block (.seq (.rg [] none)
(.rg [] none)))
(.rg [] none)))))
(.seq (.rg [] none)
.leaf)))))
theorem reticuleref01_PutBig_Eok : EnvOk Try.prog reticuleref01_PutBig_E := env_ok tab_ok (by simp) (allFn_mem (show AllFn Try.prog reticuleref01_PutBig_fns from trivial)) mixed
theorem reticuleref01_PutBig_eq (x : (BitVec 64) × Int) : evF reticuleref01_PutBig_E 30 (bd Try.f15) [.val (.int .u64), .val (.int .i64)] [.tmp 4 ((.sl (.int .u8)), .full)] reticuleref01_PutBig_an x = reticuleref01_PutBig x := by kernel_rfl
theorem reticuleref01_PutBig_ok : FnOk Try.prog 15 { args := [.val (.int .u64), .val (.int .i64)], res := [((.sl (.int .u8)), .full)], f := reticuleref01_PutBig } :=
  fn_ok reticuleref01_PutBig_Eok Try.func15 rfl (by kernel_rfl) (by kernel_rfl) (by kernel_rfl) (rs := [.tmp 4 ((.sl (.int .u8)), .full)]) (c := bd Try.f15) (an := reticuleref01_PutBig_an) (show obF reticuleref01_PutBig_E 30 (bd Try.f15) [.val (.int .u64), .val (.int .i64)] [.tmp 4 ((.sl (.int .u8)), .full)] reticuleref01_PutBig_an from (And.intro trivial (And.intro (And.intro trivial (And.intro (And.intro trivial trivial) trivial)) (And.intro trivial (And.intro (And.intro trivial (And.intro (fun _ => rfl) (And.intro (fun n j => by kernel_rfl) (fun n => (And.intro (And.intro trivial (And.intro trivial trivial)) (And.intro (And.intro trivial trivial) trivial)))))) (And.intro trivial trivial)))))) reticuleref01_PutBig_eq
/-! reticuleref01_PutLittle: function 17 -/
noncomputable def reticuleref01_PutLittle_fns : List (Nat × Fun) := []
noncomputable def reticuleref01_PutLittle_E : Env := { ty := Re.look tyTab, eq := fun n => memB n [], fn := Re.look reticuleref01_PutLittle_fns }
noncomputable def reticuleref01_PutLittle_an : An (Ds ((([.tmp 4 ((.sl (.int .u8)), .full)] : List RV).map RV.pm).map (·.1) ++ ioTys [.val (.int .u64), .val (.int .i64)])) :=
(.seq (.rg [] none)
(.seq (.seq (.rg [] (some (.op ⟨[], []⟩ (.op ⟨[], []⟩ (.op ⟨[], []⟩ (.split 9 [(12, .bool)] (.op ⟨[], []⟩ (.op ⟨[], []⟩ (.op ⟨[], []⟩ .done))) .done))))))
(.cond (.seq (.rg [] none)
.leaf) .leaf))
(.seq (.rg [] none)
(.seq (.seq (.rg [] none)
(.loop [.val 0 (.int .u64), .val 1 (.int .i64), .row 5 (.int .u8) .full, .val 6 (.int .i64)] [.row 5 (.int .u8) .full] reticuleref01_PutLittle_L0
(.seq (.seq (.rg [] none)
(.cond .leaf .leaf))
(.seq (.block (.seq (.rg [] none)
(.rg [] none)))
(.rg [] none)))))
(.seq (.rg [] none)
.leaf)))))
theorem reticuleref01_PutLittle_Eok : EnvOk Try.prog reticuleref01_PutLittle_E := env_ok tab_ok (by simp) (allFn_mem (show AllFn Try.prog reticuleref01_PutLittle_fns from trivial)) mixed
theorem reticuleref01_PutLittle_eq (x : (BitVec 64) × Int) : evF reticuleref01_PutLittle_E 29 (bd Try.f17) [.val (.int .u64), .val (.int .i64)] [.tmp 4 ((.sl (.int .u8)), .full)] reticuleref01_PutLittle_an x = reticuleref01_PutLittle x := by kernel_rfl
theorem reticuleref01_PutLittle_ok : FnOk Try.prog 17 { args := [.val (.int .u64), .val (.int .i64)], res := [((.sl (.int .u8)), .full)], f := reticuleref01_PutLittle } :=
  fn_ok reticuleref01_PutLittle_Eok Try.func17 rfl (by kernel_rfl) (by kernel_rfl) (by kernel_rfl) (rs := [.tmp 4 ((.sl (.int .u8)), .full)]) (c := bd Try.f17) (an := reticuleref01_PutLittle_an) (show obF reticuleref01_PutLittle_E 29 (bd Try.f17) [.val (.int .u64), .val (.int .i64)] [.tmp 4 ((.sl (.int .u8)), .full)] reticuleref01_PutLittle_an from (And.intro trivial (And.intro (And.intro trivial (And.intro (And.intro trivial trivial) trivial)) (And.intro trivial (And.intro (And.intro trivial (And.intro (fun _ => rfl) (And.intro (fun n j => by kernel_rfl) (fun n => (And.intro (And.intro trivial (And.intro trivial trivial)) (And.intro (And.intro trivial trivial) trivial)))))) (And.intro trivial trivial)))))) reticuleref01_PutLittle_eq
/-! reticulelaw01_NumberPuts: function 4 -/
noncomputable def reticulelaw01_NumberPuts_fns : List (Nat × Fun) := [(9, { args := [], res := [(.bool, .view)], f := reticulelaw01_alive }), (14, { args := [.val (.int .u64), .val (.int .i64)], res := [((.sl (.int .u8)), .full)], f := number_PutBig }), (15, { args := [.val (.int .u64), .val (.int .i64)], res := [((.sl (.int .u8)), .full)], f := reticuleref01_PutBig }), (16, { args := [.val (.int .u64), .val (.int .i64)], res := [((.sl (.int .u8)), .full)], f := number_PutLittle }), (17, { args := [.val (.int .u64), .val (.int .i64)], res := [((.sl (.int .u8)), .full)], f := reticuleref01_PutLittle })]
noncomputable def reticulelaw01_NumberPuts_E : Env := { ty := Re.look tyTab, eq := fun n => memB n [], fn := Re.look reticulelaw01_NumberPuts_fns }
noncomputable def reticulelaw01_NumberPuts_an : An (Ds ((([.tmp 4 (.bool, .view)] : List RV).map RV.pm).map (·.1) ++ ioTys [.val (.int .u64), .val (.int .i64)])) :=
(.seq (.rg [] none)
(.seq (.seq (.rg [] none)
(.cond (.seq (.rg [] none)
.leaf) .leaf))
(.seq (.rg [] (some (.op ⟨[], []⟩ (.op ⟨[], []⟩ (.op ⟨[144], [144]⟩ (.op ⟨[144], []⟩ (.op ⟨[], []⟩ (.op ⟨[], []⟩ (.op ⟨[208], [208]⟩ (.op ⟨[208], []⟩ (.op ⟨[], []⟩ (.op ⟨[], []⟩ (.split 16 [(26, .bool)] (.op ⟨[], []⟩ (.op ⟨[], []⟩ (.op ⟨[304], [304]⟩ (.op ⟨[304], []⟩ (.op ⟨[], []⟩ (.op ⟨[], []⟩ (.op ⟨[368], [368]⟩ (.op ⟨[368], []⟩ (.op ⟨[], []⟩ (.op ⟨[], []⟩ .done)))))))))) (.op ⟨[], []⟩ .done))))))))))))))
.leaf)))
theorem reticulelaw01_NumberPuts_Eok : EnvOk Try.prog reticulelaw01_NumberPuts_E := env_ok tab_ok (by simp) (allFn_mem (show AllFn Try.prog reticulelaw01_NumberPuts_fns from ⟨reticulelaw01_alive_ok, number_PutBig_ok, reticuleref01_PutBig_ok, number_PutLittle_ok, reticuleref01_PutLittle_ok, trivial⟩)) mixed
theorem reticulelaw01_NumberPuts_eq (x : (BitVec 64) × Int) : evF reticulelaw01_NumberPuts_E 27 (bd Try.f4) [.val (.int .u64), .val (.int .i64)] [.tmp 4 (.bool, .view)] reticulelaw01_NumberPuts_an x = reticulelaw01_NumberPuts x := by kernel_rfl
theorem reticulelaw01_NumberPuts_ok : FnOk Try.prog 4 { args := [.val (.int .u64), .val (.int .i64)], res := [(.bool, .view)], f := reticulelaw01_NumberPuts } :=
  fn_ok reticulelaw01_NumberPuts_Eok Try.func4 rfl (by kernel_rfl) (by kernel_rfl) (by kernel_rfl) (rs := [.tmp 4 (.bool, .view)]) (c := bd Try.f4) (an := reticulelaw01_NumberPuts_an) (ob_flat _ _ _ _ _ _ _ (by kernel_rfl)) reticulelaw01_NumberPuts_eq
/-! reticuleref01_Right: function 27 -/
noncomputable def reticuleref01_Right_fns : List (Nat × Fun) := []
noncomputable def reticuleref01_Right_E : Env := { ty := Re.look tyTab, eq := fun n => memB n [], fn := Re.look reticuleref01_Right_fns }
noncomputable def reticuleref01_Right_an : An (Ds ((([.tmp 4 (.bool, .view)] : List RV).map RV.pm).map (·.1) ++ ioTys [.val (.int .i64), .val (.int .i64)])) :=
(.seq (.rg [] none)
(.seq (.rg [] (some (.op ⟨[], []⟩ (.op ⟨[], []⟩ (.op ⟨[], []⟩ (.split 7 [(10, .bool)] (.op ⟨[], []⟩ (.op ⟨[], []⟩ (.op ⟨[], []⟩ .done))) (.op ⟨[], []⟩ (.split 11 [(14, .bool)] (.op ⟨[], []⟩ (.op ⟨[], []⟩ (.op ⟨[], []⟩ .done))) (.op ⟨[], []⟩ (.split 15 [(20, .bool)] (.op ⟨[], []⟩ (.op ⟨[], []⟩ (.op ⟨[], []⟩ (.op ⟨[], []⟩ (.op ⟨[], []⟩ .done))))) (.op ⟨[], []⟩ .done)))))))))))
.leaf))
theorem reticuleref01_Right_Eok : EnvOk Try.prog reticuleref01_Right_E := env_ok tab_ok (by simp) (allFn_mem (show AllFn Try.prog reticuleref01_Right_fns from trivial)) mixed
theorem reticuleref01_Right_eq (x : Int × Int) : evF reticuleref01_Right_E 21 (bd Try.f27) [.val (.int .i64), .val (.int .i64)] [.tmp 4 (.bool, .view)] reticuleref01_Right_an x = reticuleref01_Right x := by kernel_rfl
theorem reticuleref01_Right_ok : FnOk Try.prog 27 { args := [.val (.int .i64), .val (.int .i64)], res := [(.bool, .view)], f := reticuleref01_Right } :=
  fn_ok reticuleref01_Right_Eok Try.func27 rfl (by kernel_rfl) (by kernel_rfl) (by kernel_rfl) (rs := [.tmp 4 (.bool, .view)]) (c := bd Try.f27) (an := reticuleref01_Right_an) (ob_flat _ _ _ _ _ _ _ (by kernel_rfl)) reticuleref01_Right_eq
/-! reticuleref01_Bits: function 19 -/
noncomputable def reticuleref01_Bits_fns : List (Nat × Fun) := [(27, { args := [.val (.int .i64), .val (.int .i64)], res := [(.bool, .view)], f := reticuleref01_Right })]
noncomputable def reticuleref01_Bits_E : Env := { ty := Re.look tyTab, eq := fun n => memB n [], fn := Re.look reticuleref01_Bits_fns }
noncomputable def reticuleref01_Bits_an : An (Ds ((([.tmp 6 ((.int .u64), .view)] : List RV).map RV.pm).map (·.1) ++ ioTys [.val (.int .u64), .val (.int .i64), .val (.int .i64)])) :=
(.seq (.rg [] none)
(.seq (.seq (.rg [] none)
(.cond (.seq (.rg [] none)
.leaf) .leaf))
(.seq (.seq (.rg [] none)
(.loop [.val 0 (.int .u64), .val 1 (.int .i64), .val 2 (.int .i64), .val 7 (.int .i64)] [.val 0 (.int .u64), .val 2 (.int .i64)] reticuleref01_Bits_L0
(.seq (.seq (.rg [] none)
(.cond .leaf .leaf))
(.seq (.block (.rg [] none))
(.rg [] none)))))
(.seq (.rg [] none)
(.seq (.seq (.rg [] none)
(.loop [.val 0 (.int .u64), .val 2 (.int .i64), .val 8 (.int .u64), .val 9 (.int .u64), .val 10 (.int .i64)] [.val 8 (.int .u64)] reticuleref01_Bits_L1
(.seq (.seq (.rg [] none)
(.cond .leaf .leaf))
(.seq (.block (.seq (.rg [] none)
(.rg [] none)))
(.rg [] none)))))
(.seq (.rg [] none)
.leaf))))))
theorem reticuleref01_Bits_Eok : EnvOk Try.prog reticuleref01_Bits_E := env_ok tab_ok (by simp) (allFn_mem (show AllFn Try.prog reticuleref01_Bits_fns from ⟨reticuleref01_Right_ok, trivial⟩)) mixed
theorem reticuleref01_Bits_eq (x : (BitVec 64) × Int × Int) : evF reticuleref01_Bits_E 38 (bd Try.f19) [.val (.int .u64), .val (.int .i64), .val (.int .i64)] [.tmp 6 ((.int .u64), .view)] reticuleref01_Bits_an x = reticuleref01_Bits x := by kernel_rfl
theorem reticuleref01_Bits_ok : FnOk Try.prog 19 { args := [.val (.int .u64), .val (.int .i64), .val (.int .i64)], res := [((.int .u64), .view)], f := reticuleref01_Bits } :=
  fn_ok reticuleref01_Bits_Eok Try.func19 rfl (by kernel_rfl) (by kernel_rfl) (by kernel_rfl) (rs := [.tmp 6 ((.int .u64), .view)]) (c := bd Try.f19) (an := reticuleref01_Bits_an) (show obF reticuleref01_Bits_E 38 (bd Try.f19) [.val (.int .u64), .val (.int .i64), .val (.int .i64)] [.tmp 6 ((.int .u64), .view)] reticuleref01_Bits_an from (And.intro trivial (And.intro (And.intro trivial (And.intro (And.intro trivial trivial) trivial)) (And.intro (And.intro trivial (And.intro (fun _ => rfl) (And.intro (fun n j => by kernel_rfl) (fun n => (And.intro (And.intro trivial (And.intro trivial trivial)) (And.intro trivial trivial)))))) (And.intro trivial (And.intro (And.intro trivial (And.intro (fun _ => rfl) (And.intro (fun n j => by kernel_rfl) (fun n => (And.intro (And.intro trivial (And.intro trivial trivial)) (And.intro (And.intro trivial trivial) trivial)))))) (And.intro trivial trivial))))))) reticuleref01_Bits_eq
/-! reticuleref01_Set: function 21 -/
noncomputable def reticuleref01_Set_fns : List (Nat × Fun) := [(27, { args := [.val (.int .i64), .val (.int .i64)], res := [(.bool, .view)], f := reticuleref01_Right })]
noncomputable def reticuleref01_Set_E : Env := { ty := Re.look tyTab, eq := fun n => memB n [], fn := Re.look reticuleref01_Set_fns }
noncomputable def reticuleref01_Set_an : An (Ds ((([.tmp 8 ((.int .u64), .view)] : List RV).map RV.pm).map (·.1) ++ ioTys [.val (.int .u64), .val (.int .i64), .val (.int .i64), .val (.int .u64)])) :=
(.seq (.rg [] none)
(.seq (.seq (.rg [] none)
(.cond (.seq (.rg [] none)
.leaf) .leaf))
(.seq (.rg [] none)
(.seq (.seq (.rg [] none)
(.loop [.val 0 (.int .u64), .val 1 (.int .i64), .val 2 (.int .i64), .val 3 (.int .u64), .val 9 (.int .u64), .val 10 (.int .u64), .val 11 (.int .i64)] [.val 9 (.int .u64)] reticuleref01_Set_L0
(.seq (.seq (.rg [] none)
(.cond .leaf .leaf))
(.seq (.block (.seq (.rg [] none)
(.join [.val 0 (.int .u64), .val 1 (.int .i64), .val 2 (.int .i64), .val 3 (.int .u64), .val 9 (.int .u64), .val 10 (.int .u64), .val 11 (.int .i64), .val 12 (.int .u64)]
(.seq (.rg [] (some (.op ⟨[], []⟩ (.op ⟨[], []⟩ (.op ⟨[], []⟩ (.op ⟨[], []⟩ (.split 27 [(33, .bool)] (.op ⟨[], []⟩ (.op ⟨[], []⟩ (.op ⟨[], []⟩ (.op ⟨[], []⟩ (.op ⟨[], []⟩ (.op ⟨[], []⟩ .done)))))) .done)))))))
(.cond (.rg [] none) .leaf))
(.seq (.rg [] none)
(.rg [] none)))))
(.rg [] none)))))
(.seq (.rg [] none)
.leaf)))))
theorem reticuleref01_Set_Eok : EnvOk Try.prog reticuleref01_Set_E := env_ok tab_ok (by simp) (allFn_mem (show AllFn Try.prog reticuleref01_Set_fns from ⟨reticuleref01_Right_ok, trivial⟩)) mixed
theorem reticuleref01_Set_eq (x : (BitVec 64) × Int × Int × (BitVec 64)) : evF reticuleref01_Set_E 48 (bd Try.f21) [.val (.int .u64), .val (.int .i64), .val (.int .i64), .val (.int .u64)] [.tmp 8 ((.int .u64), .view)] reticuleref01_Set_an x = reticuleref01_Set x := by kernel_rfl
theorem reticuleref01_Set_ok : FnOk Try.prog 21 { args := [.val (.int .u64), .val (.int .i64), .val (.int .i64), .val (.int .u64)], res := [((.int .u64), .view)], f := reticuleref01_Set } :=
  fn_ok reticuleref01_Set_Eok Try.func21 rfl (by kernel_rfl) (by kernel_rfl) (by kernel_rfl) (rs := [.tmp 8 ((.int .u64), .view)]) (c := bd Try.f21) (an := reticuleref01_Set_an) (show obF reticuleref01_Set_E 48 (bd Try.f21) [.val (.int .u64), .val (.int .i64), .val (.int .i64), .val (.int .u64)] [.tmp 8 ((.int .u64), .view)] reticuleref01_Set_an from (And.intro trivial (And.intro (And.intro trivial (And.intro (And.intro trivial trivial) trivial)) (And.intro trivial (And.intro (And.intro trivial (And.intro (fun _ => rfl) (And.intro (fun n j => by kernel_rfl) (fun n => (And.intro (And.intro trivial (And.intro trivial trivial)) (And.intro (And.intro trivial (And.intro (And.intro trivial (And.intro trivial trivial)) (And.intro trivial trivial))) trivial)))))) (And.intro trivial trivial)))))) reticuleref01_Set_eq
/-! reticulelaw01_NumberBits: function 5 -/
noncomputable def reticulelaw01_NumberBits_fns : List (Nat × Fun) := [(9, { args := [], res := [(.bool, .view)], f := reticulelaw01_alive }), (18, { args := [.val (.int .u64), .val (.int .i64), .val (.int .i64)], res := [((.int .u64), .view)], f := number_Bits }), (19, { args := [.val (.int .u64), .val (.int .i64), .val (.int .i64)], res := [((.int .u64), .view)], f := reticuleref01_Bits }), (20, { args := [.val (.int .u64), .val (.int .i64), .val (.int .i64), .val (.int .u64)], res := [((.int .u64), .view)], f := number_Set }), (21, { args := [.val (.int .u64), .val (.int .i64), .val (.int .i64), .val (.int .u64)], res := [((.int .u64), .view)], f := reticuleref01_Set })]
noncomputable def reticulelaw01_NumberBits_E : Env := { ty := Re.look tyTab, eq := fun n => memB n [], fn := Re.look reticulelaw01_NumberBits_fns }
noncomputable def reticulelaw01_NumberBits_an : An (Ds ((([.tmp 6 (.bool, .view)] : List RV).map RV.pm).map (·.1) ++ ioTys [.val (.int .u64), .val (.int .u64), .val (.arr 2 (.int .i64))])) :=
(.seq (.rg [] none)
(.seq (.seq (.rg [] none)
(.cond (.seq (.rg [] none)
.leaf) .leaf))
(.seq (.rg [] (some (.op ⟨[], []⟩ (.op ⟨[80], []⟩ (.op ⟨[80], []⟩ (.op ⟨[80], []⟩ (.op ⟨[80], []⟩ (.op ⟨[224], []⟩ (.op ⟨[], []⟩ (.op ⟨[80], []⟩ (.op ⟨[80], []⟩ (.op ⟨[80], []⟩ (.op ⟨[80], []⟩ (.op ⟨[320], []⟩ (.op ⟨[], []⟩ (.op ⟨[], []⟩ (.split 22 [(38, .bool)] (.op ⟨[], []⟩ (.op ⟨[80], []⟩ (.op ⟨[80], []⟩ (.op ⟨[80], []⟩ (.op ⟨[80], []⟩ (.op ⟨[], []⟩ (.op ⟨[464], []⟩ (.op ⟨[], []⟩ (.op ⟨[80], []⟩ (.op ⟨[80], []⟩ (.op ⟨[80], []⟩ (.op ⟨[80], []⟩ (.op ⟨[], []⟩ (.op ⟨[576], []⟩ (.op ⟨[], []⟩ (.op ⟨[], []⟩ .done)))))))))))))))) (.op ⟨[], []⟩ .done))))))))))))))))))
.leaf)))
theorem reticulelaw01_NumberBits_Eok : EnvOk Try.prog reticulelaw01_NumberBits_E := env_ok tab_ok (by simp) (allFn_mem (show AllFn Try.prog reticulelaw01_NumberBits_fns from ⟨reticulelaw01_alive_ok, number_Bits_ok, reticuleref01_Bits_ok, number_Set_ok, reticuleref01_Set_ok, trivial⟩)) mixed
theorem reticulelaw01_NumberBits_eq (x : (BitVec 64) × (BitVec 64) × (List Int)) : evF reticulelaw01_NumberBits_E 39 (bd Try.f5) [.val (.int .u64), .val (.int .u64), .val (.arr 2 (.int .i64))] [.tmp 6 (.bool, .view)] reticulelaw01_NumberBits_an x = reticulelaw01_NumberBits x := by kernel_rfl
theorem reticulelaw01_NumberBits_ok : FnOk Try.prog 5 { args := [.val (.int .u64), .val (.int .u64), .val (.arr 2 (.int .i64))], res := [(.bool, .view)], f := reticulelaw01_NumberBits } :=
  fn_ok reticulelaw01_NumberBits_Eok Try.func5 rfl (by kernel_rfl) (by kernel_rfl) (by kernel_rfl) (rs := [.tmp 6 (.bool, .view)]) (c := bd Try.f5) (an := reticulelaw01_NumberBits_an) (ob_flat _ _ _ _ _ _ _ (by kernel_rfl)) reticulelaw01_NumberBits_eq
/-! reticulelaw01_NumberBack: function 6 -/
noncomputable def reticulelaw01_NumberBack_fns : List (Nat × Fun) := [(9, { args := [], res := [(.bool, .view)], f := reticulelaw01_alive }), (14, { args := [.val (.int .u64), .val (.int .i64)], res := [((.sl (.int .u8)), .full)], f := number_PutBig }), (16, { args := [.val (.int .u64), .val (.int .i64)], res := [((.sl (.int .u8)), .full)], f := number_PutLittle }), (10, { args := [.val (.sl (.int .u8)), .val (.int .i64), .val (.int .i64)], res := [((.int .u64), .view), (.bool, .view)], f := number_Big }), (12, { args := [.val (.sl (.int .u8)), .val (.int .i64), .val (.int .i64)], res := [((.int .u64), .view), (.bool, .view)], f := number_Little }), (18, { args := [.val (.int .u64), .val (.int .i64), .val (.int .i64)], res := [((.int .u64), .view)], f := number_Bits })]
noncomputable def reticulelaw01_NumberBack_E : Env := { ty := Re.look tyTab, eq := fun n => memB n [], fn := Re.look reticulelaw01_NumberBack_fns }
noncomputable def reticulelaw01_NumberBack_an : An (Ds ((([.tmp 6 (.bool, .view)] : List RV).map RV.pm).map (·.1) ++ ioTys [.val (.sl (.int .u8)), .val (.sl (.int .u8)), .val (.int .u64)])) :=
(.seq (.rg [] none)
(.seq (.seq (.rg [] none)
(.cond (.seq (.rg [] none)
.leaf) .leaf))
(.seq (.seq (.rg [] (some (.op ⟨[], []⟩ (.op ⟨[], []⟩ (.op ⟨[], []⟩ (.op ⟨[], []⟩ (.split 23 [(27, .bool)] (.op ⟨[], []⟩ (.op ⟨[], []⟩ (.op ⟨[], []⟩ (.op ⟨[], []⟩ .done)))) .done)))))))
(.cond (.seq (.rg [] none)
.leaf) .leaf))
(.seq (.seq (.rg [] none)
(.loop [.val 0 (.sl (.int .u8)), .val 1 (.sl (.int .u8)), .val 2 (.int .u64), .val 7 (.int .i64)] [] reticulelaw01_NumberBack_L0
(.seq (.seq (.rg [] none)
(.cond .leaf .leaf))
(.seq (.block (.seq (.rg [] none)
(.seq (.rg [] none)
(.seq (.rg [] none)
(.seq (.rg [] none)
(.seq (.rg [] none)
(.seq (.rg [] (some (.op ⟨[], []⟩ (.op ⟨[544], []⟩ (.op ⟨[], []⟩ (.op ⟨[], []⟩ (.op ⟨[], []⟩ (.split 82 [(87, .bool)] (.op ⟨[], []⟩ (.op ⟨[592], []⟩ (.op ⟨[], []⟩ (.op ⟨[], []⟩ (.op ⟨[], []⟩ .done))))) (.op ⟨[], []⟩ (.split 88 [(91, .bool)] (.op ⟨[], []⟩ (.op ⟨[], []⟩ (.op ⟨[], []⟩ .done))) (.op ⟨[], []⟩ (.split 92 [(95, .bool)] (.op ⟨[], []⟩ (.op ⟨[], []⟩ (.op ⟨[], []⟩ .done))) (.op ⟨[], []⟩ (.split 96 [(99, .bool)] (.op ⟨[], []⟩ (.op ⟨[], []⟩ (.op ⟨[], []⟩ .done))) (.op ⟨[], []⟩ (.split 100 [(103, .bool)] (.op ⟨[], []⟩ (.op ⟨[], []⟩ (.op ⟨[], []⟩ .done))) (.op ⟨[], []⟩ (.split 104 [(111, .bool)] (.op ⟨[], []⟩ (.op ⟨[], []⟩ (.op ⟨[], []⟩ (.op ⟨[], []⟩ (.op ⟨[1744], []⟩ (.op ⟨[], []⟩ (.op ⟨[], []⟩ .done))))))) (.op ⟨[], []⟩ (.split 112 [(116, .bool)] (.op ⟨[], []⟩ (.op ⟨[], []⟩ (.op ⟨[], []⟩ (.op ⟨[], []⟩ .done)))) (.op ⟨[], []⟩ (.split 117 [(121, .bool)] (.op ⟨[], []⟩ (.op ⟨[], []⟩ (.op ⟨[], []⟩ (.op ⟨[], []⟩ .done)))) .done))))))))))))))))))))))
(.cond (.seq (.rg [] none)
.leaf) .leaf))))))))
(.rg [] none)))))
(.seq (.rg [] none)
.leaf)))))
theorem reticulelaw01_NumberBack_Eok : EnvOk Try.prog reticulelaw01_NumberBack_E := env_ok tab_ok (by simp) (allFn_mem (show AllFn Try.prog reticulelaw01_NumberBack_fns from ⟨reticulelaw01_alive_ok, number_PutBig_ok, number_PutLittle_ok, number_Big_ok, number_Little_ok, number_Bits_ok, trivial⟩)) mixed
theorem reticulelaw01_NumberBack_eq (x : (List (BitVec 8)) × (List (BitVec 8)) × (BitVec 64)) : evF reticulelaw01_NumberBack_E 122 (bd Try.f6) [.val (.sl (.int .u8)), .val (.sl (.int .u8)), .val (.int .u64)] [.tmp 6 (.bool, .view)] reticulelaw01_NumberBack_an x = reticulelaw01_NumberBack x := by kernel_rfl
theorem reticulelaw01_NumberBack_ok : FnOk Try.prog 6 { args := [.val (.sl (.int .u8)), .val (.sl (.int .u8)), .val (.int .u64)], res := [(.bool, .view)], f := reticulelaw01_NumberBack } :=
  fn_ok reticulelaw01_NumberBack_Eok Try.func6 rfl (by kernel_rfl) (by kernel_rfl) (by kernel_rfl) (rs := [.tmp 6 (.bool, .view)]) (c := bd Try.f6) (an := reticulelaw01_NumberBack_an) (show obF reticulelaw01_NumberBack_E 122 (bd Try.f6) [.val (.sl (.int .u8)), .val (.sl (.int .u8)), .val (.int .u64)] [.tmp 6 (.bool, .view)] reticulelaw01_NumberBack_an from (And.intro trivial (And.intro (And.intro trivial (And.intro (And.intro trivial trivial) trivial)) (And.intro (And.intro trivial (And.intro (And.intro trivial trivial) trivial)) (And.intro (And.intro trivial (And.intro (fun _ => rfl) (And.intro (fun n j => by kernel_rfl) (fun n => (And.intro (And.intro trivial (And.intro trivial trivial)) (And.intro (And.intro trivial (And.intro trivial (And.intro trivial (And.intro trivial (And.intro trivial (And.intro trivial (And.intro (And.intro trivial trivial) trivial))))))) trivial)))))) (And.intro trivial trivial)))))) reticulelaw01_NumberBack_eq
/-! reticulelaw01_NumberSets: function 7 -/
noncomputable def reticulelaw01_NumberSets_fns : List (Nat × Fun) := [(9, { args := [], res := [(.bool, .view)], f := reticulelaw01_alive }), (20, { args := [.val (.int .u64), .val (.int .i64), .val (.int .i64), .val (.int .u64)], res := [((.int .u64), .view)], f := number_Set }), (18, { args := [.val (.int .u64), .val (.int .i64), .val (.int .i64)], res := [((.int .u64), .view)], f := number_Bits })]
noncomputable def reticulelaw01_NumberSets_E : Env := { ty := Re.look tyTab, eq := fun n => memB n [], fn := Re.look reticulelaw01_NumberSets_fns }
noncomputable def reticulelaw01_NumberSets_an : An (Ds ((([.tmp 6 (.bool, .view)] : List RV).map RV.pm).map (·.1) ++ ioTys [.val (.int .u64), .val (.int .u64), .val (.arr 2 (.int .u8))])) :=
(.seq (.rg [] none)
(.seq (.seq (.rg [] none)
(.cond (.seq (.rg [] none)
.leaf) .leaf))
(.seq (.rg [] (some (.op ⟨[80], []⟩ (.op ⟨[80], []⟩ (.op ⟨[], []⟩ (.op ⟨[], []⟩ (.op ⟨[80], []⟩ (.op ⟨[80], []⟩ (.op ⟨[], []⟩ (.op ⟨[], []⟩ (.op ⟨[], []⟩ (.op ⟨[], []⟩ (.op ⟨[], []⟩ .done)))))))))))))
(.seq (.seq (.rg [] none)
(.cond (.seq (.rg [] none)
.leaf) .leaf))
(.seq (.rg [] none)
(.seq (.rg [] (some (.op ⟨[], []⟩ (.op ⟨[], []⟩ (.op ⟨[], []⟩ (.split 34 [(42, .bool)] (.op ⟨[], []⟩ (.op ⟨[], []⟩ (.op ⟨[592], []⟩ (.op ⟨[], []⟩ (.op ⟨[], []⟩ (.op ⟨[640], []⟩ (.op ⟨[], []⟩ (.op ⟨[], []⟩ .done)))))))) (.op ⟨[], []⟩ .done)))))))
(.seq (.rg [] (some (.op ⟨[], []⟩ (.op ⟨[], []⟩ (.op ⟨[], []⟩ (.op ⟨[], []⟩ (.op ⟨[], []⟩ (.split 47 [(67, .bool)] (.op ⟨[], []⟩ (.op ⟨[], []⟩ (.op ⟨[], []⟩ (.op ⟨[], []⟩ (.op ⟨[], []⟩ (.op ⟨[], []⟩ (.op ⟨[], []⟩ (.op ⟨[], []⟩ (.op ⟨[896], []⟩ (.op ⟨[], []⟩ (.op ⟨[], []⟩ (.op ⟨[], []⟩ (.op ⟨[], []⟩ (.op ⟨[], []⟩ (.op ⟨[], []⟩ (.op ⟨[], []⟩ (.op ⟨[], []⟩ (.op ⟨[1040], []⟩ (.op ⟨[], []⟩ (.op ⟨[], []⟩ .done)))))))))))))))))))) (.op ⟨[], []⟩ .done)))))))))
(.seq (.rg [] (some (.op ⟨[], []⟩ (.op ⟨[], []⟩ (.op ⟨[], []⟩ (.op ⟨[1136], []⟩ (.op ⟨[], []⟩ (.op ⟨[], []⟩ (.op ⟨[1184], []⟩ (.op ⟨[], []⟩ (.op ⟨[], []⟩ (.split 76 [(78, .bool)] (.op ⟨[], []⟩ (.op ⟨[], []⟩ .done)) (.op ⟨[], []⟩ (.split 79 [(81, .bool)] (.op ⟨[], []⟩ (.op ⟨[], []⟩ .done)) (.op ⟨[], []⟩ (.split 82 [(93, .bool)] (.op ⟨[], []⟩ (.op ⟨[], []⟩ (.op ⟨[], []⟩ (.op ⟨[], []⟩ (.op ⟨[], []⟩ (.op ⟨[], []⟩ (.op ⟨[1424], []⟩ (.op ⟨[1440], []⟩ (.op ⟨[], []⟩ (.op ⟨[], []⟩ (.op ⟨[], []⟩ .done))))))))))) (.op ⟨[], []⟩ .done)))))))))))))))))
.leaf))))))))
theorem reticulelaw01_NumberSets_Eok : EnvOk Try.prog reticulelaw01_NumberSets_E := env_ok tab_ok (by simp) (allFn_mem (show AllFn Try.prog reticulelaw01_NumberSets_fns from ⟨reticulelaw01_alive_ok, number_Set_ok, number_Bits_ok, trivial⟩)) mixed
theorem reticulelaw01_NumberSets_eq (x : (BitVec 64) × (BitVec 64) × (List (BitVec 8))) : evF reticulelaw01_NumberSets_E 94 (bd Try.f7) [.val (.int .u64), .val (.int .u64), .val (.arr 2 (.int .u8))] [.tmp 6 (.bool, .view)] reticulelaw01_NumberSets_an x = reticulelaw01_NumberSets x := by kernel_rfl
theorem reticulelaw01_NumberSets_ok : FnOk Try.prog 7 { args := [.val (.int .u64), .val (.int .u64), .val (.arr 2 (.int .u8))], res := [(.bool, .view)], f := reticulelaw01_NumberSets } :=
  fn_ok reticulelaw01_NumberSets_Eok Try.func7 rfl (by kernel_rfl) (by kernel_rfl) (by kernel_rfl) (rs := [.tmp 6 (.bool, .view)]) (c := bd Try.f7) (an := reticulelaw01_NumberSets_an) (ob_flat _ _ _ _ _ _ _ (by kernel_rfl)) reticulelaw01_NumberSets_eq
/-! reticuleref01_Text: function 23 -/
noncomputable def reticuleref01_Text_fns : List (Nat × Fun) := []
noncomputable def reticuleref01_Text_E : Env := { ty := Re.look tyTab, eq := fun n => memB n [], fn := Re.look reticuleref01_Text_fns }
noncomputable def reticuleref01_Text_an : An (Ds ((([.tmp 4 ((.sl (.int .u8)), .full)] : List RV).map RV.pm).map (·.1) ++ ioTys [.val .str, .val (.int .i64)])) :=
(.seq (.rg [] none)
(.seq (.seq (.rg [] (some (.op ⟨[], []⟩ (.op ⟨[], []⟩ (.op ⟨[], []⟩ (.split 9 [(12, .bool)] (.op ⟨[], []⟩ (.op ⟨[], []⟩ (.op ⟨[], []⟩ .done))) .done))))))
(.cond (.seq (.rg [] none)
.leaf) .leaf))
(.seq (.rg [] none)
(.seq (.seq (.rg [] none)
(.loop [.val 0 .str, .val 1 (.int .i64), .row 5 (.int .u8) .full, .val 6 (.int .i64)] [.row 5 (.int .u8) .full] reticuleref01_Text_L0
(.seq (.seq (.rg [] none)
(.cond .leaf .leaf))
(.join [.val 0 .str, .val 1 (.int .i64), .row 5 (.int .u8) .full, .val 6 (.int .i64)]
(.block (.seq (.rg [] none)
(.cond (.rg [] none) (.rg [] none))))
(.rg [] none)))))
(.seq (.rg [] none)
.leaf)))))
theorem reticuleref01_Text_Eok : EnvOk Try.prog reticuleref01_Text_E := env_ok tab_ok (by simp) (allFn_mem (show AllFn Try.prog reticuleref01_Text_fns from trivial)) mixed
theorem reticuleref01_Text_eq (x : (List (BitVec 8)) × Int) : evF reticuleref01_Text_E 32 (bd Try.f23) [.val .str, .val (.int .i64)] [.tmp 4 ((.sl (.int .u8)), .full)] reticuleref01_Text_an x = reticuleref01_Text x := by kernel_rfl
theorem reticuleref01_Text_ok : FnOk Try.prog 23 { args := [.val .str, .val (.int .i64)], res := [((.sl (.int .u8)), .full)], f := reticuleref01_Text } :=
  fn_ok reticuleref01_Text_Eok Try.func23 rfl (by kernel_rfl) (by kernel_rfl) (by kernel_rfl) (rs := [.tmp 4 ((.sl (.int .u8)), .full)]) (c := bd Try.f23) (an := reticuleref01_Text_an) (show obF reticuleref01_Text_E 32 (bd Try.f23) [.val .str, .val (.int .i64)] [.tmp 4 ((.sl (.int .u8)), .full)] reticuleref01_Text_an from (And.intro trivial (And.intro (And.intro trivial (And.intro (And.intro trivial trivial) trivial)) (And.intro trivial (And.intro (And.intro trivial (And.intro (fun _ => rfl) (And.intro (fun n j => by kernel_rfl) (fun n => (And.intro (And.intro trivial (And.intro trivial trivial)) (And.intro (And.intro trivial (And.intro trivial trivial)) trivial)))))) (And.intro trivial trivial)))))) reticuleref01_Text_eq
/-! reticulelaw01_NumberTexts: function 8 -/
noncomputable def reticulelaw01_NumberTexts_fns : List (Nat × Fun) := [(9, { args := [], res := [(.bool, .view)], f := reticulelaw01_alive }), (22, { args := [.val .str, .val (.int .i64)], res := [((.sl (.int .u8)), .full)], f := number_Text }), (23, { args := [.val .str, .val (.int .i64)], res := [((.sl (.int .u8)), .full)], f := reticuleref01_Text })]
noncomputable def reticulelaw01_NumberTexts_E : Env := { ty := Re.look tyTab, eq := fun n => memB n [], fn := Re.look reticulelaw01_NumberTexts_fns }
noncomputable def reticulelaw01_NumberTexts_an : An (Ds ((([.tmp 4 (.bool, .view)] : List RV).map RV.pm).map (·.1) ++ ioTys [.val .str, .val (.int .i64)])) :=
(.seq (.rg [] none)
(.seq (.seq (.rg [] none)
(.cond (.seq (.rg [] none)
.leaf) .leaf))
(.seq (.seq (.rg [] none)
(.cond (.seq (.rg [] none)
.leaf) .leaf))
(.seq (.rg [] none)
(.seq (.rg [] (some (.op ⟨[], []⟩ (.op ⟨[208], []⟩ (.op ⟨[], []⟩ (.op ⟨[], []⟩ (.op ⟨[288], [288]⟩ (.op ⟨[288], []⟩ (.op ⟨[], []⟩ (.op ⟨[], []⟩ (.split 21 [(34, .bool)] (.op ⟨[], []⟩ (.op ⟨[], []⟩ (.op ⟨[], []⟩ (.split 24 [(27, .bool)] (.op ⟨[], []⟩ (.op ⟨[], []⟩ (.op ⟨[], []⟩ .done))) (.op ⟨[], []⟩ (.split 28 [(33, .bool)] (.op ⟨[], []⟩ (.op ⟨[208], []⟩ (.op ⟨[], []⟩ (.op ⟨[], []⟩ (.op ⟨[], []⟩ .done))))) (.op ⟨[], []⟩ .done))))))) (.op ⟨[], []⟩ .done))))))))))))
.leaf)))))
theorem reticulelaw01_NumberTexts_Eok : EnvOk Try.prog reticulelaw01_NumberTexts_E := env_ok tab_ok (by simp) (allFn_mem (show AllFn Try.prog reticulelaw01_NumberTexts_fns from ⟨reticulelaw01_alive_ok, number_Text_ok, reticuleref01_Text_ok, trivial⟩)) mixed
theorem reticulelaw01_NumberTexts_eq (x : (List (BitVec 8)) × Int) : evF reticulelaw01_NumberTexts_E 35 (bd Try.f8) [.val .str, .val (.int .i64)] [.tmp 4 (.bool, .view)] reticulelaw01_NumberTexts_an x = reticulelaw01_NumberTexts x := by kernel_rfl
theorem reticulelaw01_NumberTexts_ok : FnOk Try.prog 8 { args := [.val .str, .val (.int .i64)], res := [(.bool, .view)], f := reticulelaw01_NumberTexts } :=
  fn_ok reticulelaw01_NumberTexts_Eok Try.func8 rfl (by kernel_rfl) (by kernel_rfl) (by kernel_rfl) (rs := [.tmp 4 (.bool, .view)]) (c := bd Try.f8) (an := reticulelaw01_NumberTexts_an) (ob_flat _ _ _ _ _ _ _ (by kernel_rfl)) reticulelaw01_NumberTexts_eq
end Go.Proofs.Ytibfmdehmdploaa
