/- Each function does what its plain one tells. Printed by the session's own program. -/
import Derived.Test.YtjaaojlggjlgeaaXT
import Derived.Test.YtjaaojlggjlgeaaXF
namespace Go.Proofs.Ytjaaojlggjlgeaa
open Go Go.Re
set_option linter.unusedVariables false
set_option linter.unusedSimpArgs false
set_option maxRecDepth 100000
set_option maxHeartbeats 4000000
/-! number_mask: function 29 -/
noncomputable def number_mask_fns : List (Nat × Fun) := []
noncomputable def number_mask_E : Env := { ty := Re.look tyTab, eq := fun n => memB n [], fn := Re.look number_mask_fns, cut := fun n => memB n [], win := fun n => memB n [], parr := Re.look [] }
noncomputable def number_mask_an : An (Ds ((([.tmp 4 ((.int .u64), .view)] : List RV).map RV.pm).map (·.1) ++ ioTys [.val (.int .i64), .val (.int .i64)])) :=
(.seq (.rg [] none)
(.seq (.seq (.rg [] (some (.op ⟨[], []⟩ (.op ⟨[], []⟩ (.op ⟨[], []⟩ (.split 7 [(10, .bool)] (.op ⟨[], []⟩ (.op ⟨[], []⟩ (.op ⟨[], []⟩ .done))) (.op ⟨[], []⟩ (.split 11 [(14, .bool)] (.op ⟨[], []⟩ (.op ⟨[], []⟩ (.op ⟨[], []⟩ .done))) (.op ⟨[], []⟩ (.split 15 [(20, .bool)] (.op ⟨[], []⟩ (.op ⟨[], []⟩ (.op ⟨[], []⟩ (.op ⟨[], []⟩ (.op ⟨[], []⟩ .done))))) .done))))))))))
(.cond (.seq (.rg [] none)
.leaf) .leaf))
(.seq (.rg [] none)
.leaf)))
theorem number_mask_Eok : EnvOk Try.prog number_mask_E := env_ok tab_ok (by simp) (allFn_mem (show AllFn Try.prog number_mask_fns from trivial)) mixed (by kernel_rfl)
theorem number_mask_eq (x : Int × Int) : evF number_mask_E 26 (bd Try.f29) [.val (.int .i64), .val (.int .i64)] [.tmp 4 ((.int .u64), .view)] number_mask_an x = number_mask x := by kernel_rfl
theorem number_mask_ok : FnOk Try.prog 29 { args := [.val (.int .i64), .val (.int .i64)], res := [((.int .u64), .view)], f := number_mask } :=
  fn_ok number_mask_Eok Try.func29 rfl (by kernel_rfl) (by kernel_rfl) (by kernel_rfl) (rs := [.tmp 4 ((.int .u64), .view)]) (c := bd Try.f29) (an := number_mask_an) (ob_flat _ _ _ _ _ _ _ (by kernel_rfl)) number_mask_eq
/-! number_Bits: function 21 -/
noncomputable def number_Bits_fns : List (Nat × Fun) := [(29, { args := [.val (.int .i64), .val (.int .i64)], res := [((.int .u64), .view)], f := number_mask })]
noncomputable def number_Bits_E : Env := { ty := Re.look tyTab, eq := fun n => memB n [], fn := Re.look number_Bits_fns, cut := fun n => memB n [], win := fun n => memB n [], parr := Re.look [] }
noncomputable def number_Bits_an : An (Ds ((([.tmp 6 ((.int .u64), .view)] : List RV).map RV.pm).map (·.1) ++ ioTys [.val (.int .u64), .val (.int .i64), .val (.int .i64)])) :=
(.seq (.rg [] none)
(.seq (.rg [] none)
(.seq (.seq (.rg [] none)
(.cond (.seq (.rg [] none)
.leaf) .leaf))
(.seq (.rg [] none)
.leaf))))
theorem number_Bits_Eok : EnvOk Try.prog number_Bits_E := env_ok tab_ok (by simp) (allFn_mem (show AllFn Try.prog number_Bits_fns from ⟨number_mask_ok, trivial⟩)) mixed (by kernel_rfl)
theorem number_Bits_eq (x : (BitVec 64) × Int × Int) : evF number_Bits_E 18 (bd Try.f21) [.val (.int .u64), .val (.int .i64), .val (.int .i64)] [.tmp 6 ((.int .u64), .view)] number_Bits_an x = number_Bits x := by kernel_rfl
theorem number_Bits_ok : FnOk Try.prog 21 { args := [.val (.int .u64), .val (.int .i64), .val (.int .i64)], res := [((.int .u64), .view)], f := number_Bits } :=
  fn_ok number_Bits_Eok Try.func21 rfl (by kernel_rfl) (by kernel_rfl) (by kernel_rfl) (rs := [.tmp 6 ((.int .u64), .view)]) (c := bd Try.f21) (an := number_Bits_an) (ob_flat _ _ _ _ _ _ _ (by kernel_rfl)) number_Bits_eq
/-! inquiry_Serial: function 10 -/
noncomputable def inquiry_Serial_fns : List (Nat × Fun) := [(21, { args := [.val (.int .u64), .val (.int .i64), .val (.int .i64)], res := [((.int .u64), .view)], f := number_Bits })]
noncomputable def inquiry_Serial_E : Env := { ty := Re.look tyTab, eq := fun n => memB n [], fn := Re.look inquiry_Serial_fns, cut := fun n => memB n [], win := fun n => memB n [], parr := Re.look [] }
noncomputable def inquiry_Serial_an : An (Ds ((([.tmp 2 (.str, .view)] : List RV).map RV.pm).map (·.1) ++ ioTys [.val (.int .i64)])) :=
(.seq (.rg [] none)
(.seq (.rg [] none)
.leaf))
theorem inquiry_Serial_Eok : EnvOk Try.prog inquiry_Serial_E := env_ok tab_ok (by simp) (allFn_mem (show AllFn Try.prog inquiry_Serial_fns from ⟨number_Bits_ok, trivial⟩)) mixed (by kernel_rfl)
theorem inquiry_Serial_eq (x : Int) : evF inquiry_Serial_E 10 (bd Try.f10) [.val (.int .i64)] [.tmp 2 (.str, .view)] inquiry_Serial_an x = inquiry_Serial x := by kernel_rfl
theorem inquiry_Serial_ok : FnOk Try.prog 10 { args := [.val (.int .i64)], res := [(.str, .view)], f := inquiry_Serial } :=
  fn_ok inquiry_Serial_Eok Try.func10 rfl (by kernel_rfl) (by kernel_rfl) (by kernel_rfl) (rs := [.tmp 2 (.str, .view)]) (c := bd Try.f10) (an := inquiry_Serial_an) (ob_flat _ _ _ _ _ _ _ (by kernel_rfl)) inquiry_Serial_eq
/-! number_Text: function 24 -/
noncomputable def number_Text_fns : List (Nat × Fun) := []
noncomputable def number_Text_E : Env := { ty := Re.look tyTab, eq := fun n => memB n [], fn := Re.look number_Text_fns, cut := fun n => memB n [], win := fun n => memB n [], parr := Re.look [] }
noncomputable def number_Text_an : An (Ds ((([.tmp 4 ((.sl (.int .u8)), .full)] : List RV).map RV.pm).map (·.1) ++ ioTys [.val .str, .val (.int .i64)])) :=
(.seq (.rg [] none)
(.seq (.seq (.rg [] (some (.op ⟨[], []⟩ (.op ⟨[], []⟩ (.op ⟨[], []⟩ (.split 9 [(12, .bool)] (.op ⟨[], []⟩ (.op ⟨[], []⟩ (.op ⟨[], []⟩ .done))) .done))))))
(.cond (.seq (.rg [] none)
.leaf) .leaf))
(.seq (.rg [] none)
(.seq (.seq (.rg [] none)
(.loop [.val 1 (.int .i64), .row 5 (.int .u8) .full, .val 6 (.int .i64)] [.row 5 (.int .u8) .full] number_Text_L0
(.seq (.seq (.rg [] none)
(.cond .leaf .leaf))
(.seq (.block (.rg [] none))
(.rg [] none)))))
(.seq (.rg [] none)
.leaf)))))
theorem number_Text_Eok : EnvOk Try.prog number_Text_E := env_ok tab_ok (by simp) (allFn_mem (show AllFn Try.prog number_Text_fns from trivial)) mixed (by kernel_rfl)
theorem number_Text_eq (x : (List (BitVec 8)) × Int) : evF number_Text_E 27 (bd Try.f24) [.val .str, .val (.int .i64)] [.tmp 4 ((.sl (.int .u8)), .full)] number_Text_an x = number_Text x := by kernel_rfl
theorem number_Text_ok : FnOk Try.prog 24 { args := [.val .str, .val (.int .i64)], res := [((.sl (.int .u8)), .full)], f := number_Text } :=
  fn_ok number_Text_Eok Try.func24 rfl (by kernel_rfl) (by kernel_rfl) (by kernel_rfl) (rs := [.tmp 4 ((.sl (.int .u8)), .full)]) (c := bd Try.f24) (an := number_Text_an) (show obF number_Text_E 27 (bd Try.f24) [.val .str, .val (.int .i64)] [.tmp 4 ((.sl (.int .u8)), .full)] number_Text_an from (And.intro trivial (And.intro (And.intro trivial (And.intro (And.intro trivial trivial) trivial)) (And.intro trivial (And.intro (And.intro trivial (And.intro (fun _ => rfl) (And.intro (fun n j => by kernel_rfl) (fun n => (And.intro (And.intro trivial (And.intro trivial trivial)) (And.intro trivial trivial)))))) (And.intro trivial trivial)))))) number_Text_eq
/-! slices_Grow_byte: function 31 -/
noncomputable def slices_Grow_byte_fns : List (Nat × Fun) := []
noncomputable def slices_Grow_byte_E : Env := { ty := Re.look tyTab, eq := fun n => memB n [], fn := Re.look slices_Grow_byte_fns, cut := fun n => memB n [25], win := fun n => memB n [], parr := Re.look [] }
noncomputable def slices_Grow_byte_an : An (Ds ((([.tmp 4 ((.sl (.int .u8)), .full)] : List RV).map RV.pm).map (·.1) ++ ioTys [.nils (.int .u8), .val (.int .i64)])) :=
(.seq (.rg [] none)
(.seq (.seq (.rg [] none)
(.cond .leaf .leaf))
(.join [.row 0 (.int .u8) .full]
(.seq (.rg [] none)
(.seq (.rg [] none)
(.cond (.rg [] none) .leaf)))
(.seq (.rg [] none)
.leaf))))
theorem slices_Grow_byte_Eok : EnvOk Try.prog slices_Grow_byte_E := env_ok tab_ok (by simp) (allFn_mem (show AllFn Try.prog slices_Grow_byte_fns from trivial)) mixed (by kernel_rfl)
theorem slices_Grow_byte_eq (x : Unit × Int) : evF slices_Grow_byte_E 27 (bd Try.f31) [.nils (.int .u8), .val (.int .i64)] [.tmp 4 ((.sl (.int .u8)), .full)] slices_Grow_byte_an x = slices_Grow_byte x := by kernel_rfl
theorem slices_Grow_byte_ok : FnOk Try.prog 31 { args := [.nils (.int .u8), .val (.int .i64)], res := [((.sl (.int .u8)), .full)], f := slices_Grow_byte } :=
  fn_ok slices_Grow_byte_Eok Try.func31 rfl (by kernel_rfl) (by kernel_rfl) (by kernel_rfl) (rs := [.tmp 4 ((.sl (.int .u8)), .full)]) (c := bd Try.f31) (an := slices_Grow_byte_an) (ob_flat _ _ _ _ _ _ _ (by kernel_rfl)) slices_Grow_byte_eq
/-! slices_Concat_byte: function 23 -/
noncomputable def slices_Concat_byte_fns : List (Nat × Fun) := [(31, { args := [.nils (.int .u8), .val (.int .i64)], res := [((.sl (.int .u8)), .full)], f := slices_Grow_byte })]
noncomputable def slices_Concat_byte_E : Env := { ty := Re.look tyTab, eq := fun n => memB n [], fn := Re.look slices_Concat_byte_fns, cut := fun n => memB n [], win := fun n => memB n [], parr := Re.look [] }
noncomputable def slices_Concat_byte_an : An (Ds ((([.tmp 2 ((.sl (.int .u8)), .full)] : List RV).map RV.pm).map (·.1) ++ ioTys [.val (.sl (.sl (.int .u8)))])) :=
(.seq (.rg [] none)
(.seq (.rg [] none)
(.seq (.seq (.rg [] none)
(.loop [.val 0 (.sl (.sl (.int .u8))), .val 3 (.int .i64), .val 9 (.sl (.sl (.int .u8))), .val 10 (.int .i64), .val 11 (.int .i64)] [.val 0 (.sl (.sl (.int .u8))), .val 3 (.int .i64)] slices_Concat_byte_L0
(.seq (.rg [] none)
(.seq (.cond .leaf .leaf)
(.seq (.block (.seq (.rg [] none)
(.seq (.rg [] none)
(.seq (.rg [] none)
(.cond .leaf .leaf)))))
(.rg [] none))))))
(.seq (.rg [] none)
(.seq (.seq (.rg [] none)
(.loop [.row 6 (.int .u8) .full, .val 25 (.sl (.sl (.int .u8))), .val 26 (.int .i64), .val 27 (.int .i64)] [.row 6 (.int .u8) .full] slices_Concat_byte_L1
(.seq (.rg [] none)
(.seq (.cond .leaf .leaf)
(.seq (.block (.seq (.rg [] none)
(.rg [] none)))
(.rg [] none))))))
(.seq (.rg [] none)
.leaf))))))
theorem slices_Concat_byte_Eok : EnvOk Try.prog slices_Concat_byte_E := env_ok tab_ok (by simp) (allFn_mem (show AllFn Try.prog slices_Concat_byte_fns from ⟨slices_Grow_byte_ok, trivial⟩)) mixed (by kernel_rfl)
theorem slices_Concat_byte_eq (x : (List (List (BitVec 8)))) : evF slices_Concat_byte_E 36 (bd Try.f23) [.val (.sl (.sl (.int .u8)))] [.tmp 2 ((.sl (.int .u8)), .full)] slices_Concat_byte_an x = slices_Concat_byte x := by kernel_rfl
theorem slices_Concat_byte_ok : FnOk Try.prog 23 { args := [.val (.sl (.sl (.int .u8)))], res := [((.sl (.int .u8)), .full)], f := slices_Concat_byte } :=
  fn_ok slices_Concat_byte_Eok Try.func23 rfl (by kernel_rfl) (by kernel_rfl) (by kernel_rfl) (rs := [.tmp 2 ((.sl (.int .u8)), .full)]) (c := bd Try.f23) (an := slices_Concat_byte_an) (show obF slices_Concat_byte_E 36 (bd Try.f23) [.val (.sl (.sl (.int .u8)))] [.tmp 2 ((.sl (.int .u8)), .full)] slices_Concat_byte_an from (And.intro trivial (And.intro trivial (And.intro (And.intro trivial (And.intro (fun _ => rfl) (And.intro (fun n j => by kernel_rfl) (fun n => (And.intro trivial (And.intro (And.intro trivial trivial) (And.intro (And.intro trivial (And.intro trivial (And.intro trivial (And.intro trivial trivial)))) trivial))))))) (And.intro trivial (And.intro (And.intro trivial (And.intro (fun _ => rfl) (And.intro (fun n j => by kernel_rfl) (fun n => (And.intro trivial (And.intro (And.intro trivial trivial) (And.intro (And.intro trivial trivial) trivial))))))) (And.intro trivial trivial))))))) slices_Concat_byte_eq
/-! number_PutLittle: function 32 -/
noncomputable def number_PutLittle_fns : List (Nat × Fun) := []
noncomputable def number_PutLittle_E : Env := { ty := Re.look tyTab, eq := fun n => memB n [], fn := Re.look number_PutLittle_fns, cut := fun n => memB n [], win := fun n => memB n [], parr := Re.look [] }
noncomputable def number_PutLittle_an : An (Ds ((([.tmp 4 ((.sl (.int .u8)), .full)] : List RV).map RV.pm).map (·.1) ++ ioTys [.val (.int .u64), .val (.int .i64)])) :=
(.seq (.rg [] none)
(.seq (.seq (.rg [] (some (.op ⟨[], []⟩ (.op ⟨[], []⟩ (.op ⟨[], []⟩ (.split 7 [(10, .bool)] (.op ⟨[], []⟩ (.op ⟨[], []⟩ (.op ⟨[], []⟩ .done))) .done))))))
(.cond (.seq (.rg [] none)
.leaf) .leaf))
(.seq (.seq (.rg [] none)
(.loop [.val 0 (.int .u64), .row 4 (.int .u8) .full, .val 11 (.int .i64), .val 12 (.int .i64)] [.row 4 (.int .u8) .full] number_PutLittle_L0
(.seq (.rg [] none)
(.seq (.cond .leaf .leaf)
(.seq (.block (.seq (.rg [] none)
(.rg [] none)))
(.rg [] none))))))
(.seq (.rg [] none)
.leaf))))
theorem number_PutLittle_Eok : EnvOk Try.prog number_PutLittle_E := env_ok tab_ok (by simp) (allFn_mem (show AllFn Try.prog number_PutLittle_fns from trivial)) mixed (by kernel_rfl)
theorem number_PutLittle_eq (x : (BitVec 64) × Int) : evF number_PutLittle_E 23 (bd Try.f32) [.val (.int .u64), .val (.int .i64)] [.tmp 4 ((.sl (.int .u8)), .full)] number_PutLittle_an x = number_PutLittle x := by kernel_rfl
theorem number_PutLittle_ok : FnOk Try.prog 32 { args := [.val (.int .u64), .val (.int .i64)], res := [((.sl (.int .u8)), .full)], f := number_PutLittle } :=
  fn_ok number_PutLittle_Eok Try.func32 rfl (by kernel_rfl) (by kernel_rfl) (by kernel_rfl) (rs := [.tmp 4 ((.sl (.int .u8)), .full)]) (c := bd Try.f32) (an := number_PutLittle_an) (show obF number_PutLittle_E 23 (bd Try.f32) [.val (.int .u64), .val (.int .i64)] [.tmp 4 ((.sl (.int .u8)), .full)] number_PutLittle_an from (And.intro trivial (And.intro (And.intro trivial (And.intro (And.intro trivial trivial) trivial)) (And.intro (And.intro trivial (And.intro (fun _ => rfl) (And.intro (fun n j => by kernel_rfl) (fun n => (And.intro trivial (And.intro (And.intro trivial trivial) (And.intro (And.intro trivial trivial) trivial))))))) (And.intro trivial trivial))))) number_PutLittle_eq
/-! slices_Reverse_byte: function 33 -/
noncomputable def slices_Reverse_byte_fns : List (Nat × Fun) := []
noncomputable def slices_Reverse_byte_E : Env := { ty := Re.look tyTab, eq := fun n => memB n [], fn := Re.look slices_Reverse_byte_fns, cut := fun n => memB n [], win := fun n => memB n [], parr := Re.look [] }
noncomputable def slices_Reverse_byte_an : An (Ds ((([] : List RV).map RV.pm).map (·.1) ++ ioTys [.row (.int .u8)])) :=
(.seq (.rg [] none)
(.loop [.prow 0 (.int .u8), .val 2 (.int .i64), .val 3 (.int .i64)] [.prow 0 (.int .u8)] slices_Reverse_byte_L0
(.seq (.seq (.rg [] none)
(.cond .leaf .leaf))
(.seq (.block (.rg [] (some (.op ⟨[], []⟩ (.op ⟨[], []⟩ (.op ⟨[], []⟩ (.op ⟨[], []⟩ (.op ⟨[], []⟩ (.op ⟨[], []⟩ (.op ⟨[0], []⟩ (.op ⟨[0], []⟩ (.op ⟨[], []⟩ (.op ⟨[], []⟩ (.op ⟨[0], []⟩ (.op ⟨[0], []⟩ (.op ⟨[0], []⟩ (.op ⟨[0], [0]⟩ (.op ⟨[0], []⟩ (.op ⟨[0], [0]⟩ .done)))))))))))))))))))
(.rg [] none)))))
theorem slices_Reverse_byte_Eok : EnvOk Try.prog slices_Reverse_byte_E := env_ok tab_ok (by simp) (allFn_mem (show AllFn Try.prog slices_Reverse_byte_fns from trivial)) mixed (by kernel_rfl)
theorem slices_Reverse_byte_eq (x : (List (BitVec 8))) : evF slices_Reverse_byte_E 28 (bd Try.f33) [.row (.int .u8)] [] slices_Reverse_byte_an x = slices_Reverse_byte x := by kernel_rfl
theorem slices_Reverse_byte_ok : FnOk Try.prog 33 { args := [.row (.int .u8)], res := [], f := slices_Reverse_byte } :=
  fn_ok slices_Reverse_byte_Eok Try.func33 rfl (by kernel_rfl) (by kernel_rfl) (by kernel_rfl) (rs := []) (c := bd Try.f33) (an := slices_Reverse_byte_an) (show obF slices_Reverse_byte_E 28 (bd Try.f33) [.row (.int .u8)] [] slices_Reverse_byte_an from (And.intro trivial (And.intro (fun _ => rfl) (And.intro (fun n j => by kernel_rfl) (fun n => (And.intro (And.intro trivial (And.intro trivial trivial)) (And.intro trivial trivial))))))) slices_Reverse_byte_eq
/-! number_PutBig: function 25 -/
noncomputable def number_PutBig_fns : List (Nat × Fun) := [(32, { args := [.val (.int .u64), .val (.int .i64)], res := [((.sl (.int .u8)), .full)], f := number_PutLittle }), (33, { args := [.row (.int .u8)], res := [], f := slices_Reverse_byte })]
noncomputable def number_PutBig_E : Env := { ty := Re.look tyTab, eq := fun n => memB n [], fn := Re.look number_PutBig_fns, cut := fun n => memB n [], win := fun n => memB n [], parr := Re.look [] }
noncomputable def number_PutBig_an : An (Ds ((([.tmp 4 ((.sl (.int .u8)), .full)] : List RV).map RV.pm).map (·.1) ++ ioTys [.val (.int .u64), .val (.int .i64)])) :=
(.seq (.rg [] none)
(.seq (.rg [] none)
(.seq (.rg [] none)
(.seq (.rg [] none)
.leaf))))
theorem number_PutBig_Eok : EnvOk Try.prog number_PutBig_E := env_ok tab_ok (by simp) (allFn_mem (show AllFn Try.prog number_PutBig_fns from ⟨number_PutLittle_ok, slices_Reverse_byte_ok, trivial⟩)) mixed (by kernel_rfl)
theorem number_PutBig_eq (x : (BitVec 64) × Int) : evF number_PutBig_E 12 (bd Try.f25) [.val (.int .u64), .val (.int .i64)] [.tmp 4 ((.sl (.int .u8)), .full)] number_PutBig_an x = number_PutBig x := by kernel_rfl
theorem number_PutBig_ok : FnOk Try.prog 25 { args := [.val (.int .u64), .val (.int .i64)], res := [((.sl (.int .u8)), .full)], f := number_PutBig } :=
  fn_ok number_PutBig_Eok Try.func25 rfl (by kernel_rfl) (by kernel_rfl) (by kernel_rfl) (rs := [.tmp 4 ((.sl (.int .u8)), .full)]) (c := bd Try.f25) (an := number_PutBig_an) (ob_flat _ _ _ _ _ _ _ (by kernel_rfl)) number_PutBig_eq
/-! sense_asked: function 28 -/
noncomputable def sense_asked_fns : List (Nat × Fun) := []
noncomputable def sense_asked_E : Env := { ty := Re.look tyTab, eq := fun n => memB n [], fn := Re.look sense_asked_fns, cut := fun n => memB n [], win := fun n => memB n [], parr := Re.look [] }
noncomputable def sense_asked_an : An (Ds ((([.cell 4 T27] : List RV).map RV.pm).map (·.1) ++ ioTys [.val (.int .i64), .val (.int .i64)])) :=
(.seq (.rg [] none)
(.seq (.rg [] none)
.leaf))
theorem sense_asked_Eok : EnvOk Try.prog sense_asked_E := env_ok tab_ok (by simp) (allFn_mem (show AllFn Try.prog sense_asked_fns from trivial)) mixed (by kernel_rfl)
theorem sense_asked_eq (x : Int × Int) : evF sense_asked_E 8 (bd Try.f28) [.val (.int .i64), .val (.int .i64)] [.cell 4 T27] sense_asked_an x = sense_asked x := by kernel_rfl
theorem sense_asked_ok : FnOk Try.prog 28 { args := [.val (.int .i64), .val (.int .i64)], res := [(T27, .view)], f := sense_asked } :=
  fn_ok sense_asked_Eok Try.func28 rfl (by kernel_rfl) (by kernel_rfl) (by kernel_rfl) (rs := [.cell 4 T27]) (c := bd Try.f28) (an := sense_asked_an) (ob_flat _ _ _ _ _ _ _ (by kernel_rfl)) sense_asked_eq
/-! sense_Field: function 20 -/
noncomputable def sense_Field_fns : List (Nat × Fun) := [(28, { args := [.val (.int .i64), .val (.int .i64)], res := [(T27, .view)], f := sense_asked })]
noncomputable def sense_Field_E : Env := { ty := Re.look tyTab, eq := fun n => memB n [], fn := Re.look sense_Field_fns, cut := fun n => memB n [], win := fun n => memB n [], parr := Re.look [] }
noncomputable def sense_Field_an : An (Ds ((([.cell 0 T27] : List RV).map RV.pm).map (·.1) ++ ioTys [])) :=
(.seq (.rg [] none)
(.seq (.rg [] none)
.leaf))
theorem sense_Field_Eok : EnvOk Try.prog sense_Field_E := env_ok tab_ok (by simp) (allFn_mem (show AllFn Try.prog sense_Field_fns from ⟨sense_asked_ok, trivial⟩)) mixed (by kernel_rfl)
theorem sense_Field_eq (x : Unit) : evF sense_Field_E 2 (bd Try.f20) [] [.cell 0 T27] sense_Field_an x = sense_Field x := by kernel_rfl
theorem sense_Field_ok : FnOk Try.prog 20 { args := [], res := [(T27, .view)], f := sense_Field } :=
  fn_ok sense_Field_Eok Try.func20 rfl (by kernel_rfl) (by kernel_rfl) (by kernel_rfl) (rs := [.cell 0 T27]) (c := bd Try.f20) (an := sense_Field_an) (ob_flat _ _ _ _ _ _ _ (by kernel_rfl)) sense_Field_eq
/-! inquiry_kind: function 26 -/
noncomputable def inquiry_kind_fns : List (Nat × Fun) := []
noncomputable def inquiry_kind_E : Env := { ty := Re.look tyTab, eq := fun n => memB n [], fn := Re.look inquiry_kind_fns, cut := fun n => memB n [], win := fun n => memB n [], parr := Re.look [] }
noncomputable def inquiry_kind_an : An (Ds ((([.tmp 2 ((.int .u8), .view)] : List RV).map RV.pm).map (·.1) ++ ioTys [.val .bool])) :=
(.seq (.rg [] none)
(.seq (.seq (.rg [] none)
(.cond (.seq (.rg [] none)
.leaf) .leaf))
(.seq (.rg [] none)
.leaf)))
theorem inquiry_kind_Eok : EnvOk Try.prog inquiry_kind_E := env_ok tab_ok (by simp) (allFn_mem (show AllFn Try.prog inquiry_kind_fns from trivial)) mixed (by kernel_rfl)
theorem inquiry_kind_eq (x : Bool) : evF inquiry_kind_E 4 (bd Try.f26) [.val .bool] [.tmp 2 ((.int .u8), .view)] inquiry_kind_an x = inquiry_kind x := by kernel_rfl
theorem inquiry_kind_ok : FnOk Try.prog 26 { args := [.val .bool], res := [((.int .u8), .view)], f := inquiry_kind } :=
  fn_ok inquiry_kind_Eok Try.func26 rfl (by kernel_rfl) (by kernel_rfl) (by kernel_rfl) (rs := [.tmp 2 ((.int .u8), .view)]) (c := bd Try.f26) (an := inquiry_kind_an) (ob_flat _ _ _ _ _ _ _ (by kernel_rfl)) inquiry_kind_eq
/-! inquiry_Page: function 12 -/
noncomputable def inquiry_Page_fns : List (Nat × Fun) := [(10, { args := [.val (.int .i64)], res := [(.str, .view)], f := inquiry_Serial }), (24, { args := [.val .str, .val (.int .i64)], res := [((.sl (.int .u8)), .full)], f := number_Text }), (23, { args := [.val (.sl (.sl (.int .u8)))], res := [((.sl (.int .u8)), .full)], f := slices_Concat_byte }), (25, { args := [.val (.int .u64), .val (.int .i64)], res := [((.sl (.int .u8)), .full)], f := number_PutBig }), (20, { args := [], res := [(T27, .view)], f := sense_Field }), (26, { args := [.val .bool], res := [((.int .u8), .view)], f := inquiry_kind })]
noncomputable def inquiry_Page_E : Env := { ty := Re.look tyTab, eq := fun n => memB n [], fn := Re.look inquiry_Page_fns, cut := fun n => memB n [], win := fun n => memB n [], parr := Re.look [] }
noncomputable def inquiry_Page_an : An (Ds ((([.tmp 6 ((.sl (.int .u8)), .full), .cell 7 T27] : List RV).map RV.pm).map (·.1) ++ ioTys [.val (.int .i64), .val (.int .i64), .val .bool])) :=
(.seq (.rg [] none)
(.seq (.rg [] none)
(.join [.val 0 (.int .i64), .val 2 .bool, .box 7 T27, .row 8 (.int .u8) .full]
(.seq (.rg [] none)
(.block (.seq (.rg [] none)
(.cond (.rg [] none) (.seq (.rg [] none)
(.cond (.rg [] none) (.seq (.rg [] none)
(.cond (.rg [] none) (.seq (.rg [] none)
(.cond (.rg [480, 496, 512] (some (.op ⟨[480], [480]⟩ (.op ⟨[496], [496]⟩ (.op ⟨[480, 496, 512], [480, 496, 512]⟩ (.op ⟨[512, 528], [512, 528]⟩ (.op ⟨[], []⟩ .done))))))) (.seq (.rg [] none)
.leaf)))))))))))
(.seq (.rg [] none)
.leaf))))
theorem inquiry_Page_Eok : EnvOk Try.prog inquiry_Page_E := env_ok tab_ok (by simp) (allFn_mem (show AllFn Try.prog inquiry_Page_fns from ⟨inquiry_Serial_ok, number_Text_ok, slices_Concat_byte_ok, number_PutBig_ok, sense_Field_ok, inquiry_kind_ok, trivial⟩)) mixed (by kernel_rfl)
theorem inquiry_Page_eq (x : Int × Int × Bool) : evF inquiry_Page_E 47 (bd Try.f12) [.val (.int .i64), .val (.int .i64), .val .bool] [.tmp 6 ((.sl (.int .u8)), .full), .cell 7 T27] inquiry_Page_an x = inquiry_Page x := by kernel_rfl
theorem inquiry_Page_ok : FnOk Try.prog 12 { args := [.val (.int .i64), .val (.int .i64), .val .bool], res := [((.sl (.int .u8)), .full), (T27, .view)], f := inquiry_Page } :=
  fn_ok inquiry_Page_Eok Try.func12 rfl (by kernel_rfl) (by kernel_rfl) (by kernel_rfl) (rs := [.tmp 6 ((.sl (.int .u8)), .full), .cell 7 T27]) (c := bd Try.f12) (an := inquiry_Page_an) (ob_flat _ _ _ _ _ _ _ (by kernel_rfl)) inquiry_Page_eq
/-! inquiry_Standard: function 14 -/
noncomputable def inquiry_Standard_fns : List (Nat × Fun) := [(26, { args := [.val .bool], res := [((.int .u8), .view)], f := inquiry_kind }), (24, { args := [.val .str, .val (.int .i64)], res := [((.sl (.int .u8)), .full)], f := number_Text }), (23, { args := [.val (.sl (.sl (.int .u8)))], res := [((.sl (.int .u8)), .full)], f := slices_Concat_byte })]
noncomputable def inquiry_Standard_E : Env := { ty := Re.look tyTab, eq := fun n => memB n [], fn := Re.look inquiry_Standard_fns, cut := fun n => memB n [], win := fun n => memB n [], parr := Re.look [] }
noncomputable def inquiry_Standard_an : An (Ds ((([.tmp 2 ((.sl (.int .u8)), .full)] : List RV).map RV.pm).map (·.1) ++ ioTys [.val .bool])) :=
(.seq (.rg [] none)
(.seq (.rg [] none)
.leaf))
theorem inquiry_Standard_Eok : EnvOk Try.prog inquiry_Standard_E := env_ok tab_ok (by simp) (allFn_mem (show AllFn Try.prog inquiry_Standard_fns from ⟨inquiry_kind_ok, number_Text_ok, slices_Concat_byte_ok, trivial⟩)) mixed (by kernel_rfl)
theorem inquiry_Standard_eq (x : Bool) : evF inquiry_Standard_E 11 (bd Try.f14) [.val .bool] [.tmp 2 ((.sl (.int .u8)), .full)] inquiry_Standard_an x = inquiry_Standard x := by kernel_rfl
theorem inquiry_Standard_ok : FnOk Try.prog 14 { args := [.val .bool], res := [((.sl (.int .u8)), .full)], f := inquiry_Standard } :=
  fn_ok inquiry_Standard_Eok Try.func14 rfl (by kernel_rfl) (by kernel_rfl) (by kernel_rfl) (rs := [.tmp 2 ((.sl (.int .u8)), .full)]) (c := bd Try.f14) (an := inquiry_Standard_an) (ob_flat _ _ _ _ _ _ _ (by kernel_rfl)) inquiry_Standard_eq
/-! inquiry_Cut: function 17 -/
noncomputable def inquiry_Cut_fns : List (Nat × Fun) := []
noncomputable def inquiry_Cut_E : Env := { ty := Re.look tyTab, eq := fun n => memB n [], fn := Re.look inquiry_Cut_fns, cut := fun n => memB n [], win := fun n => memB n [], parr := Re.look [] }
noncomputable def inquiry_Cut_an : An (Ds ((([.tmp 4 ((.sl (.int .u8)), .tail)] : List RV).map RV.pm).map (·.1) ++ ioTys [.val (.sl (.int .u8)), .val (.int .i64)])) :=
(.seq (.rg [] none)
(.seq (.seq (.rg [] none)
(.cond (.seq (.rg [] none)
.leaf) .leaf))
(.seq (.rg [] none)
.leaf)))
theorem inquiry_Cut_Eok : EnvOk Try.prog inquiry_Cut_E := env_ok tab_ok (by simp) (allFn_mem (show AllFn Try.prog inquiry_Cut_fns from trivial)) mixed (by kernel_rfl)
theorem inquiry_Cut_eq (x : (List (BitVec 8)) × Int) : evF inquiry_Cut_E 17 (bd Try.f17) [.val (.sl (.int .u8)), .val (.int .i64)] [.tmp 4 ((.sl (.int .u8)), .tail)] inquiry_Cut_an x = inquiry_Cut x := by kernel_rfl
theorem inquiry_Cut_ok : FnOk Try.prog 17 { args := [.val (.sl (.int .u8)), .val (.int .i64)], res := [((.sl (.int .u8)), .tail)], f := inquiry_Cut } :=
  fn_ok inquiry_Cut_Eok Try.func17 rfl (by kernel_rfl) (by kernel_rfl) (by kernel_rfl) (rs := [.tmp 4 ((.sl (.int .u8)), .tail)]) (c := bd Try.f17) (an := inquiry_Cut_an) (ob_flat _ _ _ _ _ _ _ (by kernel_rfl)) inquiry_Cut_eq
/-! inquiry_Answer: function 8 -/
noncomputable def inquiry_Answer_fns : List (Nat × Fun) := [(14, { args := [.val .bool], res := [((.sl (.int .u8)), .full)], f := inquiry_Standard }), (20, { args := [], res := [(T27, .view)], f := sense_Field }), (12, { args := [.val (.int .i64), .val (.int .i64), .val .bool], res := [((.sl (.int .u8)), .full), (T27, .view)], f := inquiry_Page }), (17, { args := [.val (.sl (.int .u8)), .val (.int .i64)], res := [((.sl (.int .u8)), .tail)], f := inquiry_Cut })]
noncomputable def inquiry_Answer_E : Env := { ty := Re.look tyTab, eq := fun n => memB n [], fn := Re.look inquiry_Answer_fns, cut := fun n => memB n [], win := fun n => memB n [], parr := Re.look [] }
noncomputable def inquiry_Answer_an : An (Ds ((([.tmp 6 ((.sl (.int .u8)), .tail), .cell 7 T27] : List RV).map RV.pm).map (·.1) ++ ioTys [.val T23, .val (.int .i64), .val (.int .i64)])) :=
(.seq (.rg [] none)
(.seq (.rg [] (some (.op ⟨[], []⟩ (.op ⟨[], []⟩ (.op ⟨[], []⟩ (.split 13 [(17, .bool)] (.op ⟨[], []⟩ (.op ⟨[], []⟩ (.op ⟨[], []⟩ (.op ⟨[], []⟩ .done)))) (.op ⟨[], []⟩ .done)))))))
(.seq (.rg [] none)
(.join [.box 3 T23, .box 7 T27, .row 9 (.int .u8) .full, .box 10 T27]
(.block (.seq (.rg [] none)
(.cond (.seq (.rg [] none)
.leaf) (.seq (.rg [] none)
(.cond (.rg [] none) .leaf)))))
(.seq (.rg [144] (some (.op ⟨[], []⟩ (.op ⟨[48], []⟩ (.op ⟨[48], []⟩ (.op ⟨[144, 656], [144, 656]⟩ (.op ⟨[160], []⟩ (.op ⟨[], []⟩ (.op ⟨[112], [112]⟩ .done)))))))))
.leaf)))))
theorem inquiry_Answer_Eok : EnvOk Try.prog inquiry_Answer_E := env_ok tab_ok (by simp) (allFn_mem (show AllFn Try.prog inquiry_Answer_fns from ⟨inquiry_Standard_ok, sense_Field_ok, inquiry_Page_ok, inquiry_Cut_ok, trivial⟩)) mixed (by kernel_rfl)
theorem inquiry_Answer_eq (x : (Int × (BitVec 64 × (Int × (Int × (Int × Unit))))) × Int × Int) : evF inquiry_Answer_E 43 (bd Try.f8) [.val T23, .val (.int .i64), .val (.int .i64)] [.tmp 6 ((.sl (.int .u8)), .tail), .cell 7 T27] inquiry_Answer_an x = inquiry_Answer x := by kernel_rfl
theorem inquiry_Answer_ok : FnOk Try.prog 8 { args := [.val T23, .val (.int .i64), .val (.int .i64)], res := [((.sl (.int .u8)), .tail), (T27, .view)], f := inquiry_Answer } :=
  fn_ok inquiry_Answer_Eok Try.func8 rfl (by kernel_rfl) (by kernel_rfl) (by kernel_rfl) (rs := [.tmp 6 ((.sl (.int .u8)), .tail), .cell 7 T27]) (c := bd Try.f8) (an := inquiry_Answer_an) (ob_flat _ _ _ _ _ _ _ (by kernel_rfl)) inquiry_Answer_eq
/-! reticuleref04_Of: function 19 -/
noncomputable def reticuleref04_Of_fns : List (Nat × Fun) := []
noncomputable def reticuleref04_Of_E : Env := { ty := Re.look tyTab, eq := fun n => memB n [], fn := Re.look reticuleref04_Of_fns, cut := fun n => memB n [], win := fun n => memB n [], parr := Re.look [] }
noncomputable def reticuleref04_Of_an : An (Ds ((([.cell 6 T27] : List RV).map RV.pm).map (·.1) ++ ioTys [.val (.int .i64), .val (.int .i64), .val (.int .i64)])) :=
(.seq (.rg [] none)
(.seq (.rg [] none)
.leaf))
theorem reticuleref04_Of_Eok : EnvOk Try.prog reticuleref04_Of_E := env_ok tab_ok (by simp) (allFn_mem (show AllFn Try.prog reticuleref04_Of_fns from trivial)) mixed (by kernel_rfl)
theorem reticuleref04_Of_eq (x : Int × Int × Int) : evF reticuleref04_Of_E 11 (bd Try.f19) [.val (.int .i64), .val (.int .i64), .val (.int .i64)] [.cell 6 T27] reticuleref04_Of_an x = reticuleref04_Of x := by kernel_rfl
theorem reticuleref04_Of_ok : FnOk Try.prog 19 { args := [.val (.int .i64), .val (.int .i64), .val (.int .i64)], res := [(T27, .view)], f := reticuleref04_Of } :=
  fn_ok reticuleref04_Of_Eok Try.func19 rfl (by kernel_rfl) (by kernel_rfl) (by kernel_rfl) (rs := [.cell 6 T27]) (c := bd Try.f19) (an := reticuleref04_Of_an) (ob_flat _ _ _ _ _ _ _ (by kernel_rfl)) reticuleref04_Of_eq
/-! reticulelaw07_alive: function 7 -/
noncomputable def reticulelaw07_alive_fns : List (Nat × Fun) := [(12, { args := [.val (.int .i64), .val (.int .i64), .val .bool], res := [((.sl (.int .u8)), .full), (T27, .view)], f := inquiry_Page }), (8, { args := [.val T23, .val (.int .i64), .val (.int .i64)], res := [((.sl (.int .u8)), .tail), (T27, .view)], f := inquiry_Answer }), (19, { args := [.val (.int .i64), .val (.int .i64), .val (.int .i64)], res := [(T27, .view)], f := reticuleref04_Of }), (10, { args := [.val (.int .i64)], res := [(.str, .view)], f := inquiry_Serial }), (14, { args := [.val .bool], res := [((.sl (.int .u8)), .full)], f := inquiry_Standard }), (17, { args := [.val (.sl (.int .u8)), .val (.int .i64)], res := [((.sl (.int .u8)), .tail)], f := inquiry_Cut })]
noncomputable def reticulelaw07_alive_E : Env := { ty := Re.look tyTab, eq := fun n => memB n [28], fn := Re.look reticulelaw07_alive_fns, cut := fun n => memB n [], win := fun n => memB n [], parr := Re.look [] }
noncomputable def reticulelaw07_alive_an : An (Ds ((([.tmp 0 (.bool, .view)] : List RV).map RV.pm).map (·.1) ++ ioTys [])) :=
(.seq (.rg [] none)
(.seq (.rg [] none)
(.seq (.rg [] none)
(.seq (.rg [] none)
(.seq (.rg [] none)
(.seq (.rg [160] (some (.op ⟨[32], []⟩ (.op ⟨[], []⟩ (.op ⟨[], []⟩ (.op ⟨[], []⟩ (.split 30 [(34, .bool)] (.op ⟨[64], []⟩ (.op ⟨[32], []⟩ (.op ⟨[], []⟩ (.op ⟨[], []⟩ .done)))) (.op ⟨[], []⟩ (.split 35 [(39, .bool)] (.op ⟨[96], []⟩ (.op ⟨[32], []⟩ (.op ⟨[], []⟩ (.op ⟨[], []⟩ .done)))) (.op ⟨[], []⟩ (.split 40 [(44, .bool)] (.op ⟨[128], []⟩ (.op ⟨[672], []⟩ (.op ⟨[], []⟩ (.op ⟨[], []⟩ .done)))) (.op ⟨[], []⟩ (.split 45 [(49, .bool)] (.op ⟨[], []⟩ (.op ⟨[160], []⟩ (.op ⟨[], []⟩ (.op ⟨[], []⟩ .done)))) (.op ⟨[], []⟩ (.split 50 [(54, .bool)] (.op ⟨[], []⟩ (.op ⟨[240], []⟩ (.op ⟨[], []⟩ (.op ⟨[], []⟩ .done)))) (.op ⟨[], []⟩ (.split 55 [(59, .bool)] (.op ⟨[], []⟩ (.op ⟨[320], []⟩ (.op ⟨[], []⟩ (.op ⟨[], []⟩ .done)))) (.op ⟨[], []⟩ (.split 60 [(63, .bool)] (.op ⟨[976], []⟩ (.op ⟨[], []⟩ (.op ⟨[], []⟩ .done))) (.op ⟨[], []⟩ (.split 64 [(70, .bool)] (.op ⟨[1040], [1040]⟩ (.op ⟨[1040], []⟩ (.op ⟨[], []⟩ (.op ⟨[240], []⟩ (.op ⟨[], []⟩ (.op ⟨[], []⟩ .done)))))) (.op ⟨[], []⟩ (.split 71 [(76, .bool)] (.op ⟨[], []⟩ (.op ⟨[160, 1168], [160, 1168]⟩ (.op ⟨[1168], []⟩ (.op ⟨[], []⟩ (.op ⟨[], []⟩ .done))))) (.op ⟨[], []⟩ .done))))))))))))))))))))))))
.leaf))))))
theorem reticulelaw07_alive_Eok : EnvOk Try.prog reticulelaw07_alive_E := env_ok tab_ok (by intro t h; simp only [List.mem_cons, List.mem_nil_iff, or_false, List.not_mem_nil] at h; rcases h with rfl <;> exact ⟨by kernel_rfl, by kernel_rfl, by kernel_rfl⟩) (allFn_mem (show AllFn Try.prog reticulelaw07_alive_fns from ⟨inquiry_Page_ok, inquiry_Answer_ok, reticuleref04_Of_ok, inquiry_Serial_ok, inquiry_Standard_ok, inquiry_Cut_ok, trivial⟩)) mixed (by kernel_rfl)
theorem reticulelaw07_alive_eq (x : Unit) : evF reticulelaw07_alive_E 77 (bd Try.f7) [] [.tmp 0 (.bool, .view)] reticulelaw07_alive_an x = reticulelaw07_alive x := by kernel_rfl
theorem reticulelaw07_alive_ok : FnOk Try.prog 7 { args := [], res := [(.bool, .view)], f := reticulelaw07_alive } :=
  fn_ok reticulelaw07_alive_Eok Try.func7 rfl (by kernel_rfl) (by kernel_rfl) (by kernel_rfl) (rs := [.tmp 0 (.bool, .view)]) (c := bd Try.f7) (an := reticulelaw07_alive_an) (ob_flat _ _ _ _ _ _ _ (by kernel_rfl)) reticulelaw07_alive_eq
/-! reticuleref07_first: function 27 -/
noncomputable def reticuleref07_first_fns : List (Nat × Fun) := []
noncomputable def reticuleref07_first_E : Env := { ty := Re.look tyTab, eq := fun n => memB n [], fn := Re.look reticuleref07_first_fns, cut := fun n => memB n [], win := fun n => memB n [], parr := Re.look [] }
noncomputable def reticuleref07_first_an : An (Ds ((([.tmp 2 ((.int .u8), .view)] : List RV).map RV.pm).map (·.1) ++ ioTys [.val .bool])) :=
(.seq (.rg [] none)
(.seq (.seq (.rg [] none)
(.cond (.seq (.rg [] none)
.leaf) .leaf))
(.seq (.rg [] none)
.leaf)))
theorem reticuleref07_first_Eok : EnvOk Try.prog reticuleref07_first_E := env_ok tab_ok (by simp) (allFn_mem (show AllFn Try.prog reticuleref07_first_fns from trivial)) mixed (by kernel_rfl)
theorem reticuleref07_first_eq (x : Bool) : evF reticuleref07_first_E 4 (bd Try.f27) [.val .bool] [.tmp 2 ((.int .u8), .view)] reticuleref07_first_an x = reticuleref07_first x := by kernel_rfl
theorem reticuleref07_first_ok : FnOk Try.prog 27 { args := [.val .bool], res := [((.int .u8), .view)], f := reticuleref07_first } :=
  fn_ok reticuleref07_first_Eok Try.func27 rfl (by kernel_rfl) (by kernel_rfl) (by kernel_rfl) (rs := [.tmp 2 ((.int .u8), .view)]) (c := bd Try.f27) (an := reticuleref07_first_an) (ob_flat _ _ _ _ _ _ _ (by kernel_rfl)) reticuleref07_first_eq
/-! reticuleref07_Standard: function 15 -/
noncomputable def reticuleref07_Standard_fns : List (Nat × Fun) := [(27, { args := [.val .bool], res := [((.int .u8), .view)], f := reticuleref07_first })]
noncomputable def reticuleref07_Standard_E : Env := { ty := Re.look tyTab, eq := fun n => memB n [], fn := Re.look reticuleref07_Standard_fns, cut := fun n => memB n [], win := fun n => memB n [], parr := Re.look [] }
noncomputable def reticuleref07_Standard_an : An (Ds ((([.tmp 2 ((.sl (.int .u8)), .full)] : List RV).map RV.pm).map (·.1) ++ ioTys [.val .bool])) :=
(.seq (.rg [] none)
(.seq (.rg [] none)
.leaf))
theorem reticuleref07_Standard_Eok : EnvOk Try.prog reticuleref07_Standard_E := env_ok tab_ok (by simp) (allFn_mem (show AllFn Try.prog reticuleref07_Standard_fns from ⟨reticuleref07_first_ok, trivial⟩)) mixed (by kernel_rfl)
theorem reticuleref07_Standard_eq (x : Bool) : evF reticuleref07_Standard_E 9 (bd Try.f15) [.val .bool] [.tmp 2 ((.sl (.int .u8)), .full)] reticuleref07_Standard_an x = reticuleref07_Standard x := by kernel_rfl
theorem reticuleref07_Standard_ok : FnOk Try.prog 15 { args := [.val .bool], res := [((.sl (.int .u8)), .full)], f := reticuleref07_Standard } :=
  fn_ok reticuleref07_Standard_Eok Try.func15 rfl (by kernel_rfl) (by kernel_rfl) (by kernel_rfl) (rs := [.tmp 2 ((.sl (.int .u8)), .full)]) (c := bd Try.f15) (an := reticuleref07_Standard_an) (ob_flat _ _ _ _ _ _ _ (by kernel_rfl)) reticuleref07_Standard_eq
/-! reticuleref07_Cut: function 18 -/
noncomputable def reticuleref07_Cut_fns : List (Nat × Fun) := []
noncomputable def reticuleref07_Cut_E : Env := { ty := Re.look tyTab, eq := fun n => memB n [], fn := Re.look reticuleref07_Cut_fns, cut := fun n => memB n [], win := fun n => memB n [], parr := Re.look [] }
noncomputable def reticuleref07_Cut_an : An (Ds ((([.tmp 4 ((.sl (.int .u8)), .full)] : List RV).map RV.pm).map (·.1) ++ ioTys [.val (.sl (.int .u8)), .val (.int .i64)])) :=
(.seq (.rg [] none)
(.seq (.seq (.rg [] none)
(.cond (.seq (.rg [] none)
.leaf) .leaf))
(.join [.val 0 (.sl (.int .u8)), .val 1 (.int .i64)]
(.seq (.rg [] none)
(.cond (.rg [] none) .leaf))
(.seq (.rg [] none)
.leaf))))
theorem reticuleref07_Cut_Eok : EnvOk Try.prog reticuleref07_Cut_E := env_ok tab_ok (by simp) (allFn_mem (show AllFn Try.prog reticuleref07_Cut_fns from trivial)) mixed (by kernel_rfl)
theorem reticuleref07_Cut_eq (x : (List (BitVec 8)) × Int) : evF reticuleref07_Cut_E 18 (bd Try.f18) [.val (.sl (.int .u8)), .val (.int .i64)] [.tmp 4 ((.sl (.int .u8)), .full)] reticuleref07_Cut_an x = reticuleref07_Cut x := by kernel_rfl
theorem reticuleref07_Cut_ok : FnOk Try.prog 18 { args := [.val (.sl (.int .u8)), .val (.int .i64)], res := [((.sl (.int .u8)), .full)], f := reticuleref07_Cut } :=
  fn_ok reticuleref07_Cut_Eok Try.func18 rfl (by kernel_rfl) (by kernel_rfl) (by kernel_rfl) (rs := [.tmp 4 ((.sl (.int .u8)), .full)]) (c := bd Try.f18) (an := reticuleref07_Cut_an) (ob_flat _ _ _ _ _ _ _ (by kernel_rfl)) reticuleref07_Cut_eq
/-! reticuleref01_Right: function 30 -/
noncomputable def reticuleref01_Right_fns : List (Nat × Fun) := []
noncomputable def reticuleref01_Right_E : Env := { ty := Re.look tyTab, eq := fun n => memB n [], fn := Re.look reticuleref01_Right_fns, cut := fun n => memB n [], win := fun n => memB n [], parr := Re.look [] }
noncomputable def reticuleref01_Right_an : An (Ds ((([.tmp 4 (.bool, .view)] : List RV).map RV.pm).map (·.1) ++ ioTys [.val (.int .i64), .val (.int .i64)])) :=
(.seq (.rg [] none)
(.seq (.rg [] (some (.op ⟨[], []⟩ (.op ⟨[], []⟩ (.op ⟨[], []⟩ (.split 7 [(10, .bool)] (.op ⟨[], []⟩ (.op ⟨[], []⟩ (.op ⟨[], []⟩ .done))) (.op ⟨[], []⟩ (.split 11 [(14, .bool)] (.op ⟨[], []⟩ (.op ⟨[], []⟩ (.op ⟨[], []⟩ .done))) (.op ⟨[], []⟩ (.split 15 [(20, .bool)] (.op ⟨[], []⟩ (.op ⟨[], []⟩ (.op ⟨[], []⟩ (.op ⟨[], []⟩ (.op ⟨[], []⟩ .done))))) (.op ⟨[], []⟩ .done)))))))))))
.leaf))
theorem reticuleref01_Right_Eok : EnvOk Try.prog reticuleref01_Right_E := env_ok tab_ok (by simp) (allFn_mem (show AllFn Try.prog reticuleref01_Right_fns from trivial)) mixed (by kernel_rfl)
theorem reticuleref01_Right_eq (x : Int × Int) : evF reticuleref01_Right_E 21 (bd Try.f30) [.val (.int .i64), .val (.int .i64)] [.tmp 4 (.bool, .view)] reticuleref01_Right_an x = reticuleref01_Right x := by kernel_rfl
theorem reticuleref01_Right_ok : FnOk Try.prog 30 { args := [.val (.int .i64), .val (.int .i64)], res := [(.bool, .view)], f := reticuleref01_Right } :=
  fn_ok reticuleref01_Right_Eok Try.func30 rfl (by kernel_rfl) (by kernel_rfl) (by kernel_rfl) (rs := [.tmp 4 (.bool, .view)]) (c := bd Try.f30) (an := reticuleref01_Right_an) (ob_flat _ _ _ _ _ _ _ (by kernel_rfl)) reticuleref01_Right_eq
/-! reticuleref01_Bits: function 22 -/
noncomputable def reticuleref01_Bits_fns : List (Nat × Fun) := [(30, { args := [.val (.int .i64), .val (.int .i64)], res := [(.bool, .view)], f := reticuleref01_Right })]
noncomputable def reticuleref01_Bits_E : Env := { ty := Re.look tyTab, eq := fun n => memB n [], fn := Re.look reticuleref01_Bits_fns, cut := fun n => memB n [], win := fun n => memB n [], parr := Re.look [] }
noncomputable def reticuleref01_Bits_an : An (Ds ((([.tmp 6 ((.int .u64), .view)] : List RV).map RV.pm).map (·.1) ++ ioTys [.val (.int .u64), .val (.int .i64), .val (.int .i64)])) :=
(.seq (.rg [] none)
(.seq (.seq (.rg [] none)
(.cond (.seq (.rg [] none)
.leaf) .leaf))
(.seq (.seq (.rg [] none)
(.loop [.val 0 (.int .u64), .val 1 (.int .i64), .val 2 (.int .i64), .val 7 (.int .i64)] [.val 0 (.int .u64), .val 2 (.int .i64)] reticuleref01_Bits_L0
(.seq (.seq (.rg [] none)
(.cond .leaf .leaf))
(.seq (.block (.rg [] none))
(.rg [] none)))))
(.seq (.rg [] none)
(.seq (.seq (.rg [] none)
(.loop [.val 0 (.int .u64), .val 2 (.int .i64), .val 8 (.int .u64), .val 9 (.int .u64), .val 10 (.int .i64)] [.val 8 (.int .u64)] reticuleref01_Bits_L1
(.seq (.seq (.rg [] none)
(.cond .leaf .leaf))
(.seq (.block (.seq (.rg [] none)
(.rg [] none)))
(.rg [] none)))))
(.seq (.rg [] none)
.leaf))))))
theorem reticuleref01_Bits_Eok : EnvOk Try.prog reticuleref01_Bits_E := env_ok tab_ok (by simp) (allFn_mem (show AllFn Try.prog reticuleref01_Bits_fns from ⟨reticuleref01_Right_ok, trivial⟩)) mixed (by kernel_rfl)
theorem reticuleref01_Bits_eq (x : (BitVec 64) × Int × Int) : evF reticuleref01_Bits_E 38 (bd Try.f22) [.val (.int .u64), .val (.int .i64), .val (.int .i64)] [.tmp 6 ((.int .u64), .view)] reticuleref01_Bits_an x = reticuleref01_Bits x := by kernel_rfl
theorem reticuleref01_Bits_ok : FnOk Try.prog 22 { args := [.val (.int .u64), .val (.int .i64), .val (.int .i64)], res := [((.int .u64), .view)], f := reticuleref01_Bits } :=
  fn_ok reticuleref01_Bits_Eok Try.func22 rfl (by kernel_rfl) (by kernel_rfl) (by kernel_rfl) (rs := [.tmp 6 ((.int .u64), .view)]) (c := bd Try.f22) (an := reticuleref01_Bits_an) (show obF reticuleref01_Bits_E 38 (bd Try.f22) [.val (.int .u64), .val (.int .i64), .val (.int .i64)] [.tmp 6 ((.int .u64), .view)] reticuleref01_Bits_an from (And.intro trivial (And.intro (And.intro trivial (And.intro (And.intro trivial trivial) trivial)) (And.intro (And.intro trivial (And.intro (fun _ => rfl) (And.intro (fun n j => by kernel_rfl) (fun n => (And.intro (And.intro trivial (And.intro trivial trivial)) (And.intro trivial trivial)))))) (And.intro trivial (And.intro (And.intro trivial (And.intro (fun _ => rfl) (And.intro (fun n j => by kernel_rfl) (fun n => (And.intro (And.intro trivial (And.intro trivial trivial)) (And.intro (And.intro trivial trivial) trivial)))))) (And.intro trivial trivial))))))) reticuleref01_Bits_eq
/-! reticuleref07_Serial: function 11 -/
noncomputable def reticuleref07_Serial_fns : List (Nat × Fun) := [(22, { args := [.val (.int .u64), .val (.int .i64), .val (.int .i64)], res := [((.int .u64), .view)], f := reticuleref01_Bits })]
noncomputable def reticuleref07_Serial_E : Env := { ty := Re.look tyTab, eq := fun n => memB n [], fn := Re.look reticuleref07_Serial_fns, cut := fun n => memB n [], win := fun n => memB n [], parr := Re.look [] }
noncomputable def reticuleref07_Serial_an : An (Ds ((([.tmp 2 (.str, .view)] : List RV).map RV.pm).map (·.1) ++ ioTys [.val (.int .i64)])) :=
(.seq (.rg [] none)
(.seq (.rg [] none)
(.seq (.rg [] none)
.leaf)))
theorem reticuleref07_Serial_Eok : EnvOk Try.prog reticuleref07_Serial_E := env_ok tab_ok (by simp) (allFn_mem (show AllFn Try.prog reticuleref07_Serial_fns from ⟨reticuleref01_Bits_ok, trivial⟩)) mixed (by kernel_rfl)
theorem reticuleref07_Serial_eq (x : Int) : evF reticuleref07_Serial_E 13 (bd Try.f11) [.val (.int .i64)] [.tmp 2 (.str, .view)] reticuleref07_Serial_an x = reticuleref07_Serial x := by kernel_rfl
theorem reticuleref07_Serial_ok : FnOk Try.prog 11 { args := [.val (.int .i64)], res := [(.str, .view)], f := reticuleref07_Serial } :=
  fn_ok reticuleref07_Serial_Eok Try.func11 rfl (by kernel_rfl) (by kernel_rfl) (by kernel_rfl) (rs := [.tmp 2 (.str, .view)]) (c := bd Try.f11) (an := reticuleref07_Serial_an) (ob_flat _ _ _ _ _ _ _ (by kernel_rfl)) reticuleref07_Serial_eq
/-! reticuleref07_Page: function 13 -/
noncomputable def reticuleref07_Page_fns : List (Nat × Fun) := [(27, { args := [.val .bool], res := [((.int .u8), .view)], f := reticuleref07_first }), (11, { args := [.val (.int .i64)], res := [(.str, .view)], f := reticuleref07_Serial }), (19, { args := [.val (.int .i64), .val (.int .i64), .val (.int .i64)], res := [(T27, .view)], f := reticuleref04_Of })]
noncomputable def reticuleref07_Page_E : Env := { ty := Re.look tyTab, eq := fun n => memB n [], fn := Re.look reticuleref07_Page_fns, cut := fun n => memB n [], win := fun n => memB n [], parr := Re.look [] }
noncomputable def reticuleref07_Page_an : An (Ds ((([.tmp 6 ((.sl (.int .u8)), .full), .cell 7 T27] : List RV).map RV.pm).map (·.1) ++ ioTys [.val (.int .i64), .val (.int .i64), .val .bool])) :=
(.seq (.rg [] none)
(.seq (.rg [] none)
(.seq (.seq (.rg [] none)
(.block (.seq (.rg [] none)
(.cond (.seq (.rg [] none)
.leaf) (.seq (.rg [] none)
(.cond (.seq (.rg [] none)
.leaf) (.seq (.rg [] none)
(.cond (.seq (.rg [] none)
.leaf) (.seq (.rg [] none)
(.cond (.seq (.rg [] none)
.leaf) .leaf))))))))))
(.seq (.rg [] none)
.leaf))))
theorem reticuleref07_Page_Eok : EnvOk Try.prog reticuleref07_Page_E := env_ok tab_ok (by simp) (allFn_mem (show AllFn Try.prog reticuleref07_Page_fns from ⟨reticuleref07_first_ok, reticuleref07_Serial_ok, reticuleref04_Of_ok, trivial⟩)) mixed (by kernel_rfl)
theorem reticuleref07_Page_eq (x : Int × Int × Bool) : evF reticuleref07_Page_E 50 (bd Try.f13) [.val (.int .i64), .val (.int .i64), .val .bool] [.tmp 6 ((.sl (.int .u8)), .full), .cell 7 T27] reticuleref07_Page_an x = reticuleref07_Page x := by kernel_rfl
theorem reticuleref07_Page_ok : FnOk Try.prog 13 { args := [.val (.int .i64), .val (.int .i64), .val .bool], res := [((.sl (.int .u8)), .full), (T27, .view)], f := reticuleref07_Page } :=
  fn_ok reticuleref07_Page_Eok Try.func13 rfl (by kernel_rfl) (by kernel_rfl) (by kernel_rfl) (rs := [.tmp 6 ((.sl (.int .u8)), .full), .cell 7 T27]) (c := bd Try.f13) (an := reticuleref07_Page_an) (ob_flat _ _ _ _ _ _ _ (by kernel_rfl)) reticuleref07_Page_eq
/-! reticuleref07_Answer: function 9 -/
noncomputable def reticuleref07_Answer_fns : List (Nat × Fun) := [(19, { args := [.val (.int .i64), .val (.int .i64), .val (.int .i64)], res := [(T27, .view)], f := reticuleref04_Of }), (15, { args := [.val .bool], res := [((.sl (.int .u8)), .full)], f := reticuleref07_Standard }), (18, { args := [.val (.sl (.int .u8)), .val (.int .i64)], res := [((.sl (.int .u8)), .full)], f := reticuleref07_Cut }), (13, { args := [.val (.int .i64), .val (.int .i64), .val .bool], res := [((.sl (.int .u8)), .full), (T27, .view)], f := reticuleref07_Page })]
noncomputable def reticuleref07_Answer_E : Env := { ty := Re.look tyTab, eq := fun n => memB n [], fn := Re.look reticuleref07_Answer_fns, cut := fun n => memB n [], win := fun n => memB n [], parr := Re.look [] }
noncomputable def reticuleref07_Answer_an : An (Ds ((([.tmp 6 ((.sl (.int .u8)), .full), .cell 7 T27] : List RV).map RV.pm).map (·.1) ++ ioTys [.val T23, .val (.int .i64), .val (.int .i64)])) :=
(.seq (.rg [] none)
(.seq (.seq (.rg [] none)
(.cond (.seq (.rg [] none)
.leaf) .leaf))
(.seq (.rg [] (some (.op ⟨[], []⟩ (.op ⟨[], []⟩ (.op ⟨[], []⟩ (.split 17 [(21, .bool)] (.op ⟨[], []⟩ (.op ⟨[], []⟩ (.op ⟨[], []⟩ (.op ⟨[], []⟩ .done)))) (.op ⟨[], []⟩ .done)))))))
(.seq (.seq (.rg [] none)
(.cond (.seq (.rg [416] (some (.op ⟨[], []⟩ (.op ⟨[416], [416]⟩ (.op ⟨[48], []⟩ (.op ⟨[48], []⟩ (.op ⟨[416, 464], [416, 464]⟩ (.op ⟨[], []⟩ (.op ⟨[], []⟩ (.op ⟨[112], [112]⟩ .done))))))))))
.leaf) .leaf))
(.seq (.rg [] none)
(.seq (.rg [576] (some (.op ⟨[], []⟩ (.op ⟨[48], []⟩ (.op ⟨[48], []⟩ (.op ⟨[576, 672], [576, 672]⟩ (.op ⟨[160], []⟩ (.op ⟨[], []⟩ (.op ⟨[112], [112]⟩ .done)))))))))
.leaf))))))
theorem reticuleref07_Answer_Eok : EnvOk Try.prog reticuleref07_Answer_E := env_ok tab_ok (by simp) (allFn_mem (show AllFn Try.prog reticuleref07_Answer_fns from ⟨reticuleref04_Of_ok, reticuleref07_Standard_ok, reticuleref07_Cut_ok, reticuleref07_Page_ok, trivial⟩)) mixed (by kernel_rfl)
theorem reticuleref07_Answer_eq (x : (Int × (BitVec 64 × (Int × (Int × (Int × Unit))))) × Int × Int) : evF reticuleref07_Answer_E 44 (bd Try.f9) [.val T23, .val (.int .i64), .val (.int .i64)] [.tmp 6 ((.sl (.int .u8)), .full), .cell 7 T27] reticuleref07_Answer_an x = reticuleref07_Answer x := by kernel_rfl
theorem reticuleref07_Answer_ok : FnOk Try.prog 9 { args := [.val T23, .val (.int .i64), .val (.int .i64)], res := [((.sl (.int .u8)), .full), (T27, .view)], f := reticuleref07_Answer } :=
  fn_ok reticuleref07_Answer_Eok Try.func9 rfl (by kernel_rfl) (by kernel_rfl) (by kernel_rfl) (rs := [.tmp 6 ((.sl (.int .u8)), .full), .cell 7 T27]) (c := bd Try.f9) (an := reticuleref07_Answer_an) (ob_flat _ _ _ _ _ _ _ (by kernel_rfl)) reticuleref07_Answer_eq
/-! reticulelaw07_InquiryAnswers: function 3 -/
noncomputable def reticulelaw07_InquiryAnswers_fns : List (Nat × Fun) := [(7, { args := [], res := [(.bool, .view)], f := reticulelaw07_alive }), (8, { args := [.val T23, .val (.int .i64), .val (.int .i64)], res := [((.sl (.int .u8)), .tail), (T27, .view)], f := inquiry_Answer }), (9, { args := [.val T23, .val (.int .i64), .val (.int .i64)], res := [((.sl (.int .u8)), .full), (T27, .view)], f := reticuleref07_Answer }), (10, { args := [.val (.int .i64)], res := [(.str, .view)], f := inquiry_Serial }), (11, { args := [.val (.int .i64)], res := [(.str, .view)], f := reticuleref07_Serial })]
noncomputable def reticulelaw07_InquiryAnswers_E : Env := { ty := Re.look tyTab, eq := fun n => memB n [28], fn := Re.look reticulelaw07_InquiryAnswers_fns, cut := fun n => memB n [], win := fun n => memB n [], parr := Re.look [] }
noncomputable def reticulelaw07_InquiryAnswers_an : An (Ds ((([.tmp 6 (.bool, .view)] : List RV).map RV.pm).map (·.1) ++ ioTys [.val T23, .val (.int .i64), .val (.int .i64)])) :=
(.seq (.rg [] none)
(.seq (.seq (.rg [] none)
(.cond (.seq (.rg [] none)
.leaf) .leaf))
(.seq (.rg [] none)
(.seq (.rg [] none)
(.seq (.rg [] (some (.op ⟨[], []⟩ (.op ⟨[272], []⟩ (.op ⟨[], []⟩ (.op ⟨[384], []⟩ (.op ⟨[], []⟩ (.op ⟨[], []⟩ (.split 32 [(36, .bool)] (.op ⟨[128], []⟩ (.op ⟨[160], []⟩ (.op ⟨[], []⟩ (.op ⟨[], []⟩ .done)))) (.op ⟨[], []⟩ (.split 37 [(43, .bool)] (.op ⟨[], []⟩ (.op ⟨[624], []⟩ (.op ⟨[], []⟩ (.op ⟨[656], []⟩ (.op ⟨[], []⟩ (.op ⟨[], []⟩ .done)))))) (.op ⟨[], []⟩ .done))))))))))))
.leaf)))))
theorem reticulelaw07_InquiryAnswers_Eok : EnvOk Try.prog reticulelaw07_InquiryAnswers_E := env_ok tab_ok (by intro t h; simp only [List.mem_cons, List.mem_nil_iff, or_false, List.not_mem_nil] at h; rcases h with rfl <;> exact ⟨by kernel_rfl, by kernel_rfl, by kernel_rfl⟩) (allFn_mem (show AllFn Try.prog reticulelaw07_InquiryAnswers_fns from ⟨reticulelaw07_alive_ok, inquiry_Answer_ok, reticuleref07_Answer_ok, inquiry_Serial_ok, reticuleref07_Serial_ok, trivial⟩)) mixed (by kernel_rfl)
theorem reticulelaw07_InquiryAnswers_eq (x : (Int × (BitVec 64 × (Int × (Int × (Int × Unit))))) × Int × Int) : evF reticulelaw07_InquiryAnswers_E 44 (bd Try.f3) [.val T23, .val (.int .i64), .val (.int .i64)] [.tmp 6 (.bool, .view)] reticulelaw07_InquiryAnswers_an x = reticulelaw07_InquiryAnswers x := by kernel_rfl
theorem reticulelaw07_InquiryAnswers_ok : FnOk Try.prog 3 { args := [.val T23, .val (.int .i64), .val (.int .i64)], res := [(.bool, .view)], f := reticulelaw07_InquiryAnswers } :=
  fn_ok reticulelaw07_InquiryAnswers_Eok Try.func3 rfl (by kernel_rfl) (by kernel_rfl) (by kernel_rfl) (rs := [.tmp 6 (.bool, .view)]) (c := bd Try.f3) (an := reticulelaw07_InquiryAnswers_an) (ob_flat _ _ _ _ _ _ _ (by kernel_rfl)) reticulelaw07_InquiryAnswers_eq
/-! reticuleref01_Big: function 16 -/
noncomputable def reticuleref01_Big_fns : List (Nat × Fun) := []
noncomputable def reticuleref01_Big_E : Env := { ty := Re.look tyTab, eq := fun n => memB n [], fn := Re.look reticuleref01_Big_fns, cut := fun n => memB n [], win := fun n => memB n [], parr := Re.look [] }
noncomputable def reticuleref01_Big_an : An (Ds ((([.tmp 6 ((.int .u64), .view), .tmp 7 (.bool, .view)] : List RV).map RV.pm).map (·.1) ++ ioTys [.val (.sl (.int .u8)), .val (.int .i64), .val (.int .i64)])) :=
(.seq (.rg [] none)
(.seq (.seq (.rg [] (some (.op ⟨[], []⟩ (.op ⟨[], []⟩ (.op ⟨[], []⟩ (.split 12 [(15, .bool)] (.op ⟨[], []⟩ (.op ⟨[], []⟩ (.op ⟨[], []⟩ .done))) (.op ⟨[], []⟩ (.split 16 [(19, .bool)] (.op ⟨[], []⟩ (.op ⟨[], []⟩ (.op ⟨[], []⟩ .done))) (.op ⟨[], []⟩ (.split 20 [(25, .bool)] (.op ⟨[], []⟩ (.op ⟨[], []⟩ (.op ⟨[], []⟩ (.op ⟨[], []⟩ (.op ⟨[], []⟩ .done))))) (.op ⟨[], []⟩ (.split 26 [(33, .bool)] (.op ⟨[], []⟩ (.op ⟨[], []⟩ (.op ⟨[], []⟩ (.op ⟨[], []⟩ (.op ⟨[], []⟩ (.op ⟨[], []⟩ (.op ⟨[], []⟩ .done))))))) .done))))))))))))
(.cond (.seq (.rg [] none)
.leaf) .leaf))
(.seq (.rg [] none)
(.seq (.seq (.rg [] none)
(.loop [.val 0 (.sl (.int .u8)), .val 1 (.int .i64), .val 2 (.int .i64), .val 8 (.int .u64), .val 9 (.int .i64)] [.val 8 (.int .u64)] reticuleref01_Big_L0
(.seq (.seq (.rg [] none)
(.cond .leaf .leaf))
(.seq (.block (.rg [] none))
(.rg [] none)))))
(.seq (.rg [] none)
.leaf)))))
theorem reticuleref01_Big_Eok : EnvOk Try.prog reticuleref01_Big_E := env_ok tab_ok (by simp) (allFn_mem (show AllFn Try.prog reticuleref01_Big_fns from trivial)) mixed (by kernel_rfl)
theorem reticuleref01_Big_eq (x : (List (BitVec 8)) × Int × Int) : evF reticuleref01_Big_E 50 (bd Try.f16) [.val (.sl (.int .u8)), .val (.int .i64), .val (.int .i64)] [.tmp 6 ((.int .u64), .view), .tmp 7 (.bool, .view)] reticuleref01_Big_an x = reticuleref01_Big x := by kernel_rfl
theorem reticuleref01_Big_ok : FnOk Try.prog 16 { args := [.val (.sl (.int .u8)), .val (.int .i64), .val (.int .i64)], res := [((.int .u64), .view), (.bool, .view)], f := reticuleref01_Big } :=
  fn_ok reticuleref01_Big_Eok Try.func16 rfl (by kernel_rfl) (by kernel_rfl) (by kernel_rfl) (rs := [.tmp 6 ((.int .u64), .view), .tmp 7 (.bool, .view)]) (c := bd Try.f16) (an := reticuleref01_Big_an) (show obF reticuleref01_Big_E 50 (bd Try.f16) [.val (.sl (.int .u8)), .val (.int .i64), .val (.int .i64)] [.tmp 6 ((.int .u64), .view), .tmp 7 (.bool, .view)] reticuleref01_Big_an from (And.intro trivial (And.intro (And.intro trivial (And.intro (And.intro trivial trivial) trivial)) (And.intro trivial (And.intro (And.intro trivial (And.intro (fun _ => rfl) (And.intro (fun n j => by kernel_rfl) (fun n => (And.intro (And.intro trivial (And.intro trivial trivial)) (And.intro trivial trivial)))))) (And.intro trivial trivial)))))) reticuleref01_Big_eq
/-! reticulelaw07_InquiryPages: function 4 -/
noncomputable def reticulelaw07_InquiryPages_fns : List (Nat × Fun) := [(7, { args := [], res := [(.bool, .view)], f := reticulelaw07_alive }), (12, { args := [.val (.int .i64), .val (.int .i64), .val .bool], res := [((.sl (.int .u8)), .full), (T27, .view)], f := inquiry_Page }), (13, { args := [.val (.int .i64), .val (.int .i64), .val .bool], res := [((.sl (.int .u8)), .full), (T27, .view)], f := reticuleref07_Page }), (14, { args := [.val .bool], res := [((.sl (.int .u8)), .full)], f := inquiry_Standard }), (15, { args := [.val .bool], res := [((.sl (.int .u8)), .full)], f := reticuleref07_Standard }), (16, { args := [.val (.sl (.int .u8)), .val (.int .i64), .val (.int .i64)], res := [((.int .u64), .view), (.bool, .view)], f := reticuleref01_Big })]
noncomputable def reticulelaw07_InquiryPages_E : Env := { ty := Re.look tyTab, eq := fun n => memB n [28], fn := Re.look reticulelaw07_InquiryPages_fns, cut := fun n => memB n [], win := fun n => memB n [], parr := Re.look [] }
noncomputable def reticulelaw07_InquiryPages_an : An (Ds ((([.tmp 6 (.bool, .view)] : List RV).map RV.pm).map (·.1) ++ ioTys [.val (.int .i64), .val (.int .i64), .val .bool])) :=
(.seq (.rg [] none)
(.seq (.seq (.rg [] none)
(.cond (.seq (.rg [] none)
.leaf) .leaf))
(.seq (.rg [] none)
(.seq (.rg [] none)
(.seq (.seq (.rg [] (some (.op ⟨[], []⟩ (.op ⟨[400], []⟩ (.op ⟨[], []⟩ (.op ⟨[512], []⟩ (.op ⟨[], []⟩ (.op ⟨[], []⟩ (.split 40 [(44, .bool)] (.op ⟨[128], []⟩ (.op ⟨[160], []⟩ (.op ⟨[], []⟩ (.op ⟨[], []⟩ .done)))) (.op ⟨[], []⟩ (.split 45 [(53, .bool)] (.op ⟨[], []⟩ (.op ⟨[752], [752]⟩ (.op ⟨[752], []⟩ (.op ⟨[], []⟩ (.op ⟨[800], [800]⟩ (.op ⟨[800], []⟩ (.op ⟨[], []⟩ (.op ⟨[], []⟩ .done)))))))) .done)))))))))))
(.cond (.seq (.rg [] none)
.leaf) .leaf))
(.seq (.seq (.rg [] none)
(.cond (.seq (.rg [] none)
.leaf) .leaf))
(.seq (.rg [] none)
(.seq (.rg [] none)
(.seq (.rg [] none)
(.seq (.seq (.rg [] (some (.op ⟨[], []⟩ (.op ⟨[1120], []⟩ (.op ⟨[], []⟩ (.op ⟨[], []⟩ (.split 76 [(80, .bool)] (.op ⟨[], []⟩ (.op ⟨[1056], []⟩ (.op ⟨[], []⟩ (.op ⟨[], []⟩ .done)))) (.op ⟨[], []⟩ (.split 81 [(90, .bool)] (.op ⟨[], []⟩ (.op ⟨[1056], []⟩ (.op ⟨[], []⟩ (.op ⟨[1056], []⟩ (.op ⟨[1056], []⟩ (.op ⟨[], []⟩ (.op ⟨[], []⟩ (.op ⟨[], []⟩ (.op ⟨[], []⟩ .done))))))))) .done)))))))))
(.cond (.seq (.rg [] none)
.leaf) .leaf))
(.seq (.seq (.rg [] none)
(.loop [.val 1 (.int .i64), .val 2 .bool, .row 7 (.int .u8) .tail, .val 11 (.int .u64), .val 12 .bool, .row 14 (.int .u8) .full, .val 16 (.int .i64)] [.row 7 (.int .u8) .tail, .val 11 (.int .u64), .val 12 .bool] reticulelaw07_InquiryPages_L0
(.seq (.seq (.rg [] none)
(.cond .leaf .leaf))
(.seq (.block (.seq (.rg [] none)
(.seq (.rg [] none)
(.cond (.seq (.rg [] none)
.leaf) .leaf))))
(.rg [] none)))))
(.seq (.rg [] (some (.op ⟨[], []⟩ (.op ⟨[], []⟩ (.split 112 [(119, .bool)] (.op ⟨[], []⟩ (.op ⟨[], []⟩ (.op ⟨[], []⟩ (.op ⟨[112], []⟩ (.op ⟨[], []⟩ (.op ⟨[], []⟩ (.op ⟨[], []⟩ .done))))))) (.op ⟨[], []⟩ .done))))))
.leaf))))))))))))
theorem reticulelaw07_InquiryPages_Eok : EnvOk Try.prog reticulelaw07_InquiryPages_E := env_ok tab_ok (by intro t h; simp only [List.mem_cons, List.mem_nil_iff, or_false, List.not_mem_nil] at h; rcases h with rfl <;> exact ⟨by kernel_rfl, by kernel_rfl, by kernel_rfl⟩) (allFn_mem (show AllFn Try.prog reticulelaw07_InquiryPages_fns from ⟨reticulelaw07_alive_ok, inquiry_Page_ok, reticuleref07_Page_ok, inquiry_Standard_ok, reticuleref07_Standard_ok, reticuleref01_Big_ok, trivial⟩)) mixed (by kernel_rfl)
theorem reticulelaw07_InquiryPages_eq (x : Int × Int × Bool) : evF reticulelaw07_InquiryPages_E 120 (bd Try.f4) [.val (.int .i64), .val (.int .i64), .val .bool] [.tmp 6 (.bool, .view)] reticulelaw07_InquiryPages_an x = reticulelaw07_InquiryPages x := by kernel_rfl
theorem reticulelaw07_InquiryPages_ok : FnOk Try.prog 4 { args := [.val (.int .i64), .val (.int .i64), .val .bool], res := [(.bool, .view)], f := reticulelaw07_InquiryPages } :=
  fn_ok reticulelaw07_InquiryPages_Eok Try.func4 rfl (by kernel_rfl) (by kernel_rfl) (by kernel_rfl) (rs := [.tmp 6 (.bool, .view)]) (c := bd Try.f4) (an := reticulelaw07_InquiryPages_an) (show obF reticulelaw07_InquiryPages_E 120 (bd Try.f4) [.val (.int .i64), .val (.int .i64), .val .bool] [.tmp 6 (.bool, .view)] reticulelaw07_InquiryPages_an from (And.intro trivial (And.intro (And.intro trivial (And.intro (And.intro trivial trivial) trivial)) (And.intro trivial (And.intro trivial (And.intro (And.intro trivial (And.intro (And.intro trivial trivial) trivial)) (And.intro (And.intro trivial (And.intro (And.intro trivial trivial) trivial)) (And.intro trivial (And.intro trivial (And.intro trivial (And.intro (And.intro trivial (And.intro (And.intro trivial trivial) trivial)) (And.intro (And.intro trivial (And.intro (fun _ => rfl) (And.intro (fun n j => by kernel_rfl) (fun n => (And.intro (And.intro trivial (And.intro trivial trivial)) (And.intro (And.intro trivial (And.intro trivial (And.intro (And.intro trivial trivial) trivial))) trivial)))))) (And.intro trivial trivial))))))))))))) reticulelaw07_InquiryPages_eq
/-! reticulelaw07_InquiryCuts: function 5 -/
noncomputable def reticulelaw07_InquiryCuts_fns : List (Nat × Fun) := [(7, { args := [], res := [(.bool, .view)], f := reticulelaw07_alive }), (17, { args := [.val (.sl (.int .u8)), .val (.int .i64)], res := [((.sl (.int .u8)), .tail)], f := inquiry_Cut }), (18, { args := [.val (.sl (.int .u8)), .val (.int .i64)], res := [((.sl (.int .u8)), .full)], f := reticuleref07_Cut })]
noncomputable def reticulelaw07_InquiryCuts_E : Env := { ty := Re.look tyTab, eq := fun n => memB n [], fn := Re.look reticulelaw07_InquiryCuts_fns, cut := fun n => memB n [], win := fun n => memB n [], parr := Re.look [] }
noncomputable def reticulelaw07_InquiryCuts_an : An (Ds ((([.tmp 6 (.bool, .view)] : List RV).map RV.pm).map (·.1) ++ ioTys [.val (.sl (.int .u8)), .val (.int .i64), .val (.int .i64)])) :=
(.seq (.rg [] none)
(.seq (.seq (.rg [] none)
(.cond (.seq (.rg [] none)
.leaf) .leaf))
(.seq (.seq (.rg [] none)
(.cond (.seq (.rg [] none)
.leaf) .leaf))
(.seq (.rg [] none)
(.seq (.rg [] (some (.op ⟨[], []⟩ (.op ⟨[240], []⟩ (.op ⟨[], []⟩ (.op ⟨[], []⟩ (.op ⟨[320], [320]⟩ (.op ⟨[320], []⟩ (.op ⟨[], []⟩ (.op ⟨[], []⟩ (.split 23 [(35, .bool)] (.op ⟨[], []⟩ (.op ⟨[], []⟩ (.op ⟨[240, 416], [416]⟩ (.op ⟨[416], []⟩ (.op ⟨[], []⟩ (.op ⟨[], []⟩ (.op ⟨[], []⟩ (.op ⟨[], []⟩ (.op ⟨[512], [512]⟩ (.op ⟨[512], []⟩ (.op ⟨[], []⟩ (.op ⟨[], []⟩ .done)))))))))))) (.op ⟨[], []⟩ .done))))))))))))
.leaf)))))
theorem reticulelaw07_InquiryCuts_Eok : EnvOk Try.prog reticulelaw07_InquiryCuts_E := env_ok tab_ok (by simp) (allFn_mem (show AllFn Try.prog reticulelaw07_InquiryCuts_fns from ⟨reticulelaw07_alive_ok, inquiry_Cut_ok, reticuleref07_Cut_ok, trivial⟩)) mixed (by kernel_rfl)
theorem reticulelaw07_InquiryCuts_eq (x : (List (BitVec 8)) × Int × Int) : evF reticulelaw07_InquiryCuts_E 36 (bd Try.f5) [.val (.sl (.int .u8)), .val (.int .i64), .val (.int .i64)] [.tmp 6 (.bool, .view)] reticulelaw07_InquiryCuts_an x = reticulelaw07_InquiryCuts x := by kernel_rfl
theorem reticulelaw07_InquiryCuts_ok : FnOk Try.prog 5 { args := [.val (.sl (.int .u8)), .val (.int .i64), .val (.int .i64)], res := [(.bool, .view)], f := reticulelaw07_InquiryCuts } :=
  fn_ok reticulelaw07_InquiryCuts_Eok Try.func5 rfl (by kernel_rfl) (by kernel_rfl) (by kernel_rfl) (rs := [.tmp 6 (.bool, .view)]) (c := bd Try.f5) (an := reticulelaw07_InquiryCuts_an) (ob_flat _ _ _ _ _ _ _ (by kernel_rfl)) reticulelaw07_InquiryCuts_eq
/-! reticulelaw07_InquirySerials: function 6 -/
noncomputable def reticulelaw07_InquirySerials_fns : List (Nat × Fun) := [(7, { args := [], res := [(.bool, .view)], f := reticulelaw07_alive }), (12, { args := [.val (.int .i64), .val (.int .i64), .val .bool], res := [((.sl (.int .u8)), .full), (T27, .view)], f := inquiry_Page }), (10, { args := [.val (.int .i64)], res := [(.str, .view)], f := inquiry_Serial })]
noncomputable def reticulelaw07_InquirySerials_E : Env := { ty := Re.look tyTab, eq := fun n => memB n [28], fn := Re.look reticulelaw07_InquirySerials_fns, cut := fun n => memB n [], win := fun n => memB n [], parr := Re.look [] }
noncomputable def reticulelaw07_InquirySerials_an : An (Ds ((([.tmp 4 (.bool, .view)] : List RV).map RV.pm).map (·.1) ++ ioTys [.val (.int .i64), .val (.int .i64)])) :=
(.seq (.rg [] none)
(.seq (.seq (.rg [] none)
(.cond (.seq (.rg [] none)
.leaf) .leaf))
(.seq (.rg [] none)
(.seq (.rg [] none)
(.seq (.seq (.rg [] (some (.op ⟨[96], []⟩ (.op ⟨[], []⟩ (.op ⟨[], []⟩ (.op ⟨[], []⟩ (.split 23 [(27, .bool)] (.op ⟨[], []⟩ (.op ⟨[208], []⟩ (.op ⟨[], []⟩ (.op ⟨[], []⟩ .done)))) (.op ⟨[], []⟩ (.split 28 [(32, .bool)] (.op ⟨[], []⟩ (.op ⟨[], []⟩ (.op ⟨[], []⟩ (.op ⟨[], []⟩ .done)))) .done)))))))))
(.cond (.seq (.rg [] none)
.leaf) .leaf))
(.seq (.rg [208] (some (.op ⟨[], []⟩ (.op ⟨[], []⟩ (.op ⟨[], []⟩ (.op ⟨[], []⟩ (.op ⟨[], []⟩ (.op ⟨[], []⟩ (.op ⟨[], []⟩ (.op ⟨[], []⟩ (.op ⟨[], []⟩ (.op ⟨[], []⟩ (.split 42 [(51, .bool)] (.op ⟨[], []⟩ (.op ⟨[], []⟩ (.op ⟨[208], []⟩ (.op ⟨[], []⟩ (.op ⟨[208], [208]⟩ (.op ⟨[], []⟩ (.op ⟨[], []⟩ (.op ⟨[], []⟩ (.op ⟨[], []⟩ .done))))))))) (.op ⟨[], []⟩ .done))))))))))))))
.leaf))))))
theorem reticulelaw07_InquirySerials_Eok : EnvOk Try.prog reticulelaw07_InquirySerials_E := env_ok tab_ok (by intro t h; simp only [List.mem_cons, List.mem_nil_iff, or_false, List.not_mem_nil] at h; rcases h with rfl <;> exact ⟨by kernel_rfl, by kernel_rfl, by kernel_rfl⟩) (allFn_mem (show AllFn Try.prog reticulelaw07_InquirySerials_fns from ⟨reticulelaw07_alive_ok, inquiry_Page_ok, inquiry_Serial_ok, trivial⟩)) mixed (by kernel_rfl)
theorem reticulelaw07_InquirySerials_eq (x : Int × Int) : evF reticulelaw07_InquirySerials_E 52 (bd Try.f6) [.val (.int .i64), .val (.int .i64)] [.tmp 4 (.bool, .view)] reticulelaw07_InquirySerials_an x = reticulelaw07_InquirySerials x := by kernel_rfl
theorem reticulelaw07_InquirySerials_ok : FnOk Try.prog 6 { args := [.val (.int .i64), .val (.int .i64)], res := [(.bool, .view)], f := reticulelaw07_InquirySerials } :=
  fn_ok reticulelaw07_InquirySerials_Eok Try.func6 rfl (by kernel_rfl) (by kernel_rfl) (by kernel_rfl) (rs := [.tmp 4 (.bool, .view)]) (c := bd Try.f6) (an := reticulelaw07_InquirySerials_an) (ob_flat _ _ _ _ _ _ _ (by kernel_rfl)) reticulelaw07_InquirySerials_eq
end Go.Proofs.Ytjaaojlggjlgeaa
