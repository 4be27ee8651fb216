/- Each function does what its plain one tells. Printed by the session's own program. -/
import Derived.Test.YtkceolaolmfeaaaXT
import Derived.Test.YtkceolaolmfeaaaXF
namespace Go.Proofs.Ytkceolaolmfeaaa
open Go Go.Re
set_option linter.unusedVariables false
set_option linter.unusedSimpArgs false
set_option maxRecDepth 100000
/-! number_PutLittle: function 33 -/
noncomputable def number_PutLittle_fns : List (Nat × Fun) := []
noncomputable def number_PutLittle_E : Env := { ty := Re.look tyTab, eq := fun n => memB n [], fn := Re.look number_PutLittle_fns, cut := fun n => memB n [], win := fun n => memB n [], parr := Re.look [] }
noncomputable def number_PutLittle_an : An (Ds ((([.tmp 4 ((.sl (.int .u8)), .full)] : List RV).map RV.pm).map (·.1) ++ ioTys [.val (.int .u64), .val (.int .i64)])) :=
(.seq (.rg [] none)
(.seq (.seq (.rg [] (some (.op ⟨[], []⟩ (.op ⟨[], []⟩ (.op ⟨[], []⟩ (.split 7 [(10, .bool)] (.op ⟨[], []⟩ (.op ⟨[], []⟩ (.op ⟨[], []⟩ .done))) .done))))))
(.cond (.seq (.rg [] none)
.leaf) .leaf))
(.seq (.seq (.rg [] none)
(.loop [.val 0 (.int .u64), .row 4 (.int .u8) .full, .val 11 (.int .i64), .val 12 (.int .i64)] [.row 4 (.int .u8) .full] number_PutLittle_L0
(.seq (.rg [] none)
(.seq (.cond .leaf .leaf)
(.seq (.block (.seq (.rg [] none)
(.rg [] none)))
(.rg [] none))))))
(.seq (.rg [] none)
.leaf))))
theorem number_PutLittle_Eok : EnvOk Try.prog number_PutLittle_E := env_ok tab_ok (by simp) (allFn_mem (show AllFn Try.prog number_PutLittle_fns from trivial)) mixed (by kernel_rfl)
theorem number_PutLittle_eq (x : (BitVec 64) × Int) : evF number_PutLittle_E 23 (bd Try.f33) [.val (.int .u64), .val (.int .i64)] [.tmp 4 ((.sl (.int .u8)), .full)] number_PutLittle_an x = number_PutLittle x := by kernel_rfl
theorem number_PutLittle_ok : FnOk Try.prog 33 { args := [.val (.int .u64), .val (.int .i64)], res := [((.sl (.int .u8)), .full)], f := number_PutLittle } :=
  fn_ok number_PutLittle_Eok Try.func33 rfl (by kernel_rfl) (by kernel_rfl) (by kernel_rfl) (rs := [.tmp 4 ((.sl (.int .u8)), .full)]) (c := bd Try.f33) (an := number_PutLittle_an) (show obF number_PutLittle_E 23 (bd Try.f33) [.val (.int .u64), .val (.int .i64)] [.tmp 4 ((.sl (.int .u8)), .full)] number_PutLittle_an from (And.intro trivial (And.intro (And.intro trivial (And.intro (And.intro trivial trivial) trivial)) (And.intro (And.intro trivial (And.intro (fun _ => rfl) (And.intro (fun n j => by kernel_rfl) (fun n => (And.intro trivial (And.intro (And.intro trivial trivial) (And.intro (And.intro trivial trivial) trivial))))))) (And.intro trivial trivial))))) number_PutLittle_eq
/-! cbw_put: function 27 -/
noncomputable def cbw_put_fns : List (Nat × Fun) := [(33, { args := [.val (.int .u64), .val (.int .i64)], res := [((.sl (.int .u8)), .full)], f := number_PutLittle })]
noncomputable def cbw_put_E : Env := { ty := Re.look tyTab, eq := fun n => memB n [], fn := Re.look cbw_put_fns, cut := fun n => memB n [], win := fun n => memB n [], parr := Re.look [] }
noncomputable def cbw_put_an : An (Ds ((([.tmp 2 ((.sl (.int .u8)), .full)] : List RV).map RV.pm).map (·.1) ++ ioTys [.val (.int .u32)])) :=
(.seq (.rg [] none)
(.seq (.rg [] none)
.leaf))
theorem cbw_put_Eok : EnvOk Try.prog cbw_put_E := env_ok tab_ok (by simp) (allFn_mem (show AllFn Try.prog cbw_put_fns from ⟨number_PutLittle_ok, trivial⟩)) mixed (by kernel_rfl)
theorem cbw_put_eq (x : (BitVec 32)) : evF cbw_put_E 6 (bd Try.f27) [.val (.int .u32)] [.tmp 2 ((.sl (.int .u8)), .full)] cbw_put_an x = cbw_put x := by kernel_rfl
theorem cbw_put_ok : FnOk Try.prog 27 { args := [.val (.int .u32)], res := [((.sl (.int .u8)), .full)], f := cbw_put } :=
  fn_ok cbw_put_Eok Try.func27 rfl (by kernel_rfl) (by kernel_rfl) (by kernel_rfl) (rs := [.tmp 2 ((.sl (.int .u8)), .full)]) (c := bd Try.f27) (an := cbw_put_an) (ob_flat _ _ _ _ _ _ _ (by kernel_rfl)) cbw_put_eq
/-! slices_Grow_byte: function 32 -/
noncomputable def slices_Grow_byte_fns : List (Nat × Fun) := []
noncomputable def slices_Grow_byte_E : Env := { ty := Re.look tyTab, eq := fun n => memB n [], fn := Re.look slices_Grow_byte_fns, cut := fun n => memB n [25], win := fun n => memB n [], parr := Re.look [] }
noncomputable def slices_Grow_byte_an : An (Ds ((([.tmp 4 ((.sl (.int .u8)), .full)] : List RV).map RV.pm).map (·.1) ++ ioTys [.nils (.int .u8), .val (.int .i64)])) :=
(.seq (.rg [] none)
(.seq (.seq (.rg [] none)
(.cond .leaf .leaf))
(.join [.row 0 (.int .u8) .full]
(.seq (.rg [] none)
(.seq (.rg [] none)
(.cond (.rg [] none) .leaf)))
(.seq (.rg [] none)
.leaf))))
theorem slices_Grow_byte_Eok : EnvOk Try.prog slices_Grow_byte_E := env_ok tab_ok (by simp) (allFn_mem (show AllFn Try.prog slices_Grow_byte_fns from trivial)) mixed (by kernel_rfl)
theorem slices_Grow_byte_eq (x : Unit × Int) : evF slices_Grow_byte_E 27 (bd Try.f32) [.nils (.int .u8), .val (.int .i64)] [.tmp 4 ((.sl (.int .u8)), .full)] slices_Grow_byte_an x = slices_Grow_byte x := by kernel_rfl
theorem slices_Grow_byte_ok : FnOk Try.prog 32 { args := [.nils (.int .u8), .val (.int .i64)], res := [((.sl (.int .u8)), .full)], f := slices_Grow_byte } :=
  fn_ok slices_Grow_byte_Eok Try.func32 rfl (by kernel_rfl) (by kernel_rfl) (by kernel_rfl) (rs := [.tmp 4 ((.sl (.int .u8)), .full)]) (c := bd Try.f32) (an := slices_Grow_byte_an) (ob_flat _ _ _ _ _ _ _ (by kernel_rfl)) slices_Grow_byte_eq
/-! slices_Concat_byte: function 26 -/
noncomputable def slices_Concat_byte_fns : List (Nat × Fun) := [(32, { args := [.nils (.int .u8), .val (.int .i64)], res := [((.sl (.int .u8)), .full)], f := slices_Grow_byte })]
noncomputable def slices_Concat_byte_E : Env := { ty := Re.look tyTab, eq := fun n => memB n [], fn := Re.look slices_Concat_byte_fns, cut := fun n => memB n [], win := fun n => memB n [], parr := Re.look [] }
noncomputable def slices_Concat_byte_an : An (Ds ((([.tmp 2 ((.sl (.int .u8)), .full)] : List RV).map RV.pm).map (·.1) ++ ioTys [.val (.sl (.sl (.int .u8)))])) :=
(.seq (.rg [] none)
(.seq (.rg [] none)
(.seq (.seq (.rg [] none)
(.loop [.val 0 (.sl (.sl (.int .u8))), .val 3 (.int .i64), .val 9 (.sl (.sl (.int .u8))), .val 10 (.int .i64), .val 11 (.int .i64)] [.val 0 (.sl (.sl (.int .u8))), .val 3 (.int .i64)] slices_Concat_byte_L0
(.seq (.rg [] none)
(.seq (.cond .leaf .leaf)
(.seq (.block (.seq (.rg [] none)
(.seq (.rg [] none)
(.seq (.rg [] none)
(.cond .leaf .leaf)))))
(.rg [] none))))))
(.seq (.rg [] none)
(.seq (.seq (.rg [] none)
(.loop [.row 6 (.int .u8) .full, .val 25 (.sl (.sl (.int .u8))), .val 26 (.int .i64), .val 27 (.int .i64)] [.row 6 (.int .u8) .full] slices_Concat_byte_L1
(.seq (.rg [] none)
(.seq (.cond .leaf .leaf)
(.seq (.block (.seq (.rg [] none)
(.rg [] none)))
(.rg [] none))))))
(.seq (.rg [] none)
.leaf))))))
theorem slices_Concat_byte_Eok : EnvOk Try.prog slices_Concat_byte_E := env_ok tab_ok (by simp) (allFn_mem (show AllFn Try.prog slices_Concat_byte_fns from ⟨slices_Grow_byte_ok, trivial⟩)) mixed (by kernel_rfl)
theorem slices_Concat_byte_eq (x : (List (List (BitVec 8)))) : evF slices_Concat_byte_E 36 (bd Try.f26) [.val (.sl (.sl (.int .u8)))] [.tmp 2 ((.sl (.int .u8)), .full)] slices_Concat_byte_an x = slices_Concat_byte x := by kernel_rfl
theorem slices_Concat_byte_ok : FnOk Try.prog 26 { args := [.val (.sl (.sl (.int .u8)))], res := [((.sl (.int .u8)), .full)], f := slices_Concat_byte } :=
  fn_ok slices_Concat_byte_Eok Try.func26 rfl (by kernel_rfl) (by kernel_rfl) (by kernel_rfl) (rs := [.tmp 2 ((.sl (.int .u8)), .full)]) (c := bd Try.f26) (an := slices_Concat_byte_an) (show obF slices_Concat_byte_E 36 (bd Try.f26) [.val (.sl (.sl (.int .u8)))] [.tmp 2 ((.sl (.int .u8)), .full)] slices_Concat_byte_an from (And.intro trivial (And.intro trivial (And.intro (And.intro trivial (And.intro (fun _ => rfl) (And.intro (fun n j => by kernel_rfl) (fun n => (And.intro trivial (And.intro (And.intro trivial trivial) (And.intro (And.intro trivial (And.intro trivial (And.intro trivial (And.intro trivial trivial)))) trivial))))))) (And.intro trivial (And.intro (And.intro trivial (And.intro (fun _ => rfl) (And.intro (fun n j => by kernel_rfl) (fun n => (And.intro trivial (And.intro (And.intro trivial trivial) (And.intro (And.intro trivial trivial) trivial))))))) (And.intro trivial trivial))))))) slices_Concat_byte_eq
/-! cbw_Bytes: function 14 -/
noncomputable def cbw_Bytes_fns : List (Nat × Fun) := [(27, { args := [.val (.int .u32)], res := [((.sl (.int .u8)), .full)], f := cbw_put }), (26, { args := [.val (.sl (.sl (.int .u8)))], res := [((.sl (.int .u8)), .full)], f := slices_Concat_byte })]
noncomputable def cbw_Bytes_E : Env := { ty := Re.look tyTab, eq := fun n => memB n [], fn := Re.look cbw_Bytes_fns, cut := fun n => memB n [], win := fun n => memB n [], parr := Re.look [] }
noncomputable def cbw_Bytes_an : An (Ds ((([.tmp 2 ((.sl (.int .u8)), .full), .tmp 3 (.bool, .view)] : List RV).map RV.pm).map (·.1) ++ ioTys [.val T25])) :=
(.seq (.rg [] none)
(.seq (.seq (.rg [] (some (.op ⟨[16], []⟩ (.op ⟨[16], []⟩ (.op ⟨[], []⟩ (.op ⟨[], []⟩ (.split 8 [(13, .bool)] (.op ⟨[16], []⟩ (.op ⟨[16], []⟩ (.op ⟨[], []⟩ (.op ⟨[], []⟩ (.op ⟨[], []⟩ .done))))) (.op ⟨[], []⟩ (.split 14 [(19, .bool)] (.op ⟨[16], []⟩ (.op ⟨[16], []⟩ (.op ⟨[], []⟩ (.op ⟨[], []⟩ (.op ⟨[], []⟩ .done))))) (.op ⟨[], []⟩ (.split 20 [(25, .bool)] (.op ⟨[16], []⟩ (.op ⟨[16], []⟩ (.op ⟨[], []⟩ (.op ⟨[], []⟩ (.op ⟨[], []⟩ .done))))) .done)))))))))))
(.cond (.seq (.rg [] none)
.leaf) .leaf))
(.seq (.rg [] none)
(.join [.box 1 T25, .box 4 (.arr 3 (.int .u8))]
(.seq (.rg [] none)
(.cond (.rg [] none) .leaf))
(.seq (.rg [592, 640, 688, 816, 832] (some (.op ⟨[592], [592]⟩ (.op ⟨[16], []⟩ (.op ⟨[16], []⟩ (.op ⟨[640], [640]⟩ (.op ⟨[16], []⟩ (.op ⟨[16], []⟩ (.op ⟨[688], [688]⟩ (.op ⟨[64], [64]⟩ (.op ⟨[16], []⟩ (.op ⟨[16], []⟩ (.op ⟨[16], []⟩ (.op ⟨[16], []⟩ (.op ⟨[], []⟩ (.op ⟨[], []⟩ (.op ⟨[816], [816]⟩ (.op ⟨[592, 640, 688, 816, 832], [592, 640, 688, 816, 832]⟩ (.op ⟨[832, 848], [832, 848]⟩ (.op ⟨[], []⟩ (.op ⟨[], []⟩ .done)))))))))))))))))))))
.leaf)))))
theorem cbw_Bytes_Eok : EnvOk Try.prog cbw_Bytes_E := env_ok tab_ok (by simp) (allFn_mem (show AllFn Try.prog cbw_Bytes_fns from ⟨cbw_put_ok, slices_Concat_byte_ok, trivial⟩)) mixed (by kernel_rfl)
theorem cbw_Bytes_eq (x : (BitVec 32 × (BitVec 32 × (Bool × (Int × (List (BitVec 8) × Unit)))))) : evF cbw_Bytes_E 54 (bd Try.f14) [.val T25] [.tmp 2 ((.sl (.int .u8)), .full), .tmp 3 (.bool, .view)] cbw_Bytes_an x = cbw_Bytes x := by kernel_rfl
theorem cbw_Bytes_ok : FnOk Try.prog 14 { args := [.val T25], res := [((.sl (.int .u8)), .full), (.bool, .view)], f := cbw_Bytes } :=
  fn_ok cbw_Bytes_Eok Try.func14 rfl (by kernel_rfl) (by kernel_rfl) (by kernel_rfl) (rs := [.tmp 2 ((.sl (.int .u8)), .full), .tmp 3 (.bool, .view)]) (c := bd Try.f14) (an := cbw_Bytes_an) (ob_flat _ _ _ _ _ _ _ (by kernel_rfl)) cbw_Bytes_eq
/-! number_cut: function 34 -/
noncomputable def number_cut_fns : List (Nat × Fun) := []
noncomputable def number_cut_E : Env := { ty := Re.look tyTab, eq := fun n => memB n [], fn := Re.look number_cut_fns, cut := fun n => memB n [], win := fun n => memB n [], parr := Re.look [] }
noncomputable def number_cut_an : An (Ds ((([.tmp 6 ((.sl (.int .u8)), .view), .tmp 7 (.bool, .view)] : List RV).map RV.pm).map (·.1) ++ ioTys [.val (.sl (.int .u8)), .val (.int .i64), .val (.int .i64)])) :=
(.seq (.rg [] none)
(.seq (.seq (.rg [] (some (.op ⟨[], []⟩ (.op ⟨[], []⟩ (.op ⟨[], []⟩ (.split 10 [(13, .bool)] (.op ⟨[], []⟩ (.op ⟨[], []⟩ (.op ⟨[], []⟩ .done))) (.op ⟨[], []⟩ (.split 14 [(17, .bool)] (.op ⟨[], []⟩ (.op ⟨[], []⟩ (.op ⟨[], []⟩ .done))) (.op ⟨[], []⟩ (.split 18 [(25, .bool)] (.op ⟨[], []⟩ (.op ⟨[], []⟩ (.op ⟨[], []⟩ (.op ⟨[], []⟩ (.op ⟨[], []⟩ (.op ⟨[], []⟩ (.op ⟨[], []⟩ .done))))))) .done))))))))))
(.cond (.seq (.rg [] none)
.leaf) .leaf))
(.seq (.rg [] none)
.leaf)))
theorem number_cut_Eok : EnvOk Try.prog number_cut_E := env_ok tab_ok (by simp) (allFn_mem (show AllFn Try.prog number_cut_fns from trivial)) mixed (by kernel_rfl)
theorem number_cut_eq (x : (List (BitVec 8)) × Int × Int) : evF number_cut_E 32 (bd Try.f34) [.val (.sl (.int .u8)), .val (.int .i64), .val (.int .i64)] [.tmp 6 ((.sl (.int .u8)), .view), .tmp 7 (.bool, .view)] number_cut_an x = number_cut x := by kernel_rfl
theorem number_cut_ok : FnOk Try.prog 34 { args := [.val (.sl (.int .u8)), .val (.int .i64), .val (.int .i64)], res := [((.sl (.int .u8)), .view), (.bool, .view)], f := number_cut } :=
  fn_ok number_cut_Eok Try.func34 rfl (by kernel_rfl) (by kernel_rfl) (by kernel_rfl) (rs := [.tmp 6 ((.sl (.int .u8)), .view), .tmp 7 (.bool, .view)]) (c := bd Try.f34) (an := number_cut_an) (ob_flat _ _ _ _ _ _ _ (by kernel_rfl)) number_cut_eq
/-! number_Little: function 30 -/
noncomputable def number_Little_fns : List (Nat × Fun) := [(34, { args := [.val (.sl (.int .u8)), .val (.int .i64), .val (.int .i64)], res := [((.sl (.int .u8)), .view), (.bool, .view)], f := number_cut })]
noncomputable def number_Little_E : Env := { ty := Re.look tyTab, eq := fun n => memB n [], fn := Re.look number_Little_fns, cut := fun n => memB n [], win := fun n => memB n [], parr := Re.look [] }
noncomputable def number_Little_an : An (Ds ((([.tmp 6 ((.int .u64), .view), .tmp 7 (.bool, .view)] : List RV).map RV.pm).map (·.1) ++ ioTys [.val (.sl (.int .u8)), .val (.int .i64), .val (.int .i64)])) :=
(.seq (.rg [] none)
(.seq (.rg [] none)
(.seq (.seq (.rg [] none)
(.loop [.val 6 (.int .u64), .val 7 .bool, .val 18 (.sl (.int .u8)), .val 19 (.int .i64), .val 20 (.int .i64)] [.val 6 (.int .u64), .val 7 .bool] number_Little_L0
(.seq (.rg [] none)
(.seq (.cond .leaf .leaf)
(.seq (.block (.seq (.rg [] none)
(.rg [] none)))
(.rg [] none))))))
(.seq (.rg [] none)
.leaf))))
theorem number_Little_Eok : EnvOk Try.prog number_Little_E := env_ok tab_ok (by simp) (allFn_mem (show AllFn Try.prog number_Little_fns from ⟨number_cut_ok, trivial⟩)) mixed (by kernel_rfl)
theorem number_Little_eq (x : (List (BitVec 8)) × Int × Int) : evF number_Little_E 35 (bd Try.f30) [.val (.sl (.int .u8)), .val (.int .i64), .val (.int .i64)] [.tmp 6 ((.int .u64), .view), .tmp 7 (.bool, .view)] number_Little_an x = number_Little x := by kernel_rfl
theorem number_Little_ok : FnOk Try.prog 30 { args := [.val (.sl (.int .u8)), .val (.int .i64), .val (.int .i64)], res := [((.int .u64), .view), (.bool, .view)], f := number_Little } :=
  fn_ok number_Little_Eok Try.func30 rfl (by kernel_rfl) (by kernel_rfl) (by kernel_rfl) (rs := [.tmp 6 ((.int .u64), .view), .tmp 7 (.bool, .view)]) (c := bd Try.f30) (an := number_Little_an) (show obF number_Little_E 35 (bd Try.f30) [.val (.sl (.int .u8)), .val (.int .i64), .val (.int .i64)] [.tmp 6 ((.int .u64), .view), .tmp 7 (.bool, .view)] number_Little_an from (And.intro trivial (And.intro trivial (And.intro (And.intro trivial (And.intro (fun _ => rfl) (And.intro (fun n j => by kernel_rfl) (fun n => (And.intro trivial (And.intro (And.intro trivial trivial) (And.intro (And.intro trivial trivial) trivial))))))) (And.intro trivial trivial))))) number_Little_eq
/-! cbw_begins: function 25 -/
noncomputable def cbw_begins_fns : List (Nat × Fun) := [(30, { args := [.val (.sl (.int .u8)), .val (.int .i64), .val (.int .i64)], res := [((.int .u64), .view), (.bool, .view)], f := number_Little })]
noncomputable def cbw_begins_E : Env := { ty := Re.look tyTab, eq := fun n => memB n [], fn := Re.look cbw_begins_fns, cut := fun n => memB n [], win := fun n => memB n [], parr := Re.look [] }
noncomputable def cbw_begins_an : An (Ds ((([.tmp 6 (.bool, .view)] : List RV).map RV.pm).map (·.1) ++ ioTys [.val (.sl (.int .u8)), .val (.int .i64), .val (.int .u64)])) :=
(.seq (.rg [] none)
(.seq (.rg [] none)
(.seq (.rg [] (some (.op ⟨[], []⟩ (.op ⟨[], []⟩ (.split 15 [(20, .bool)] (.op ⟨[], []⟩ (.op ⟨[], []⟩ (.op ⟨[], []⟩ (.op ⟨[], []⟩ (.op ⟨[], []⟩ .done))))) (.op ⟨[], []⟩ (.split 21 [(25, .bool)] (.op ⟨[], []⟩ (.op ⟨[], []⟩ (.op ⟨[], []⟩ (.op ⟨[], []⟩ .done)))) (.op ⟨[], []⟩ .done))))))))
.leaf)))
theorem cbw_begins_Eok : EnvOk Try.prog cbw_begins_E := env_ok tab_ok (by simp) (allFn_mem (show AllFn Try.prog cbw_begins_fns from ⟨number_Little_ok, trivial⟩)) mixed (by kernel_rfl)
theorem cbw_begins_eq (x : (List (BitVec 8)) × Int × (BitVec 64)) : evF cbw_begins_E 26 (bd Try.f25) [.val (.sl (.int .u8)), .val (.int .i64), .val (.int .u64)] [.tmp 6 (.bool, .view)] cbw_begins_an x = cbw_begins x := by kernel_rfl
theorem cbw_begins_ok : FnOk Try.prog 25 { args := [.val (.sl (.int .u8)), .val (.int .i64), .val (.int .u64)], res := [(.bool, .view)], f := cbw_begins } :=
  fn_ok cbw_begins_Eok Try.func25 rfl (by kernel_rfl) (by kernel_rfl) (by kernel_rfl) (rs := [.tmp 6 (.bool, .view)]) (c := bd Try.f25) (an := cbw_begins_an) (ob_flat _ _ _ _ _ _ _ (by kernel_rfl)) cbw_begins_eq
/-! cbw_Valid: function 12 -/
noncomputable def cbw_Valid_fns : List (Nat × Fun) := [(25, { args := [.val (.sl (.int .u8)), .val (.int .i64), .val (.int .u64)], res := [(.bool, .view)], f := cbw_begins })]
noncomputable def cbw_Valid_E : Env := { ty := Re.look tyTab, eq := fun n => memB n [], fn := Re.look cbw_Valid_fns, cut := fun n => memB n [], win := fun n => memB n [], parr := Re.look [] }
noncomputable def cbw_Valid_an : An (Ds ((([.tmp 2 (.bool, .view)] : List RV).map RV.pm).map (·.1) ++ ioTys [.val (.sl (.int .u8))])) :=
(.seq (.rg [] none)
(.seq (.rg [] none)
.leaf))
theorem cbw_Valid_Eok : EnvOk Try.prog cbw_Valid_E := env_ok tab_ok (by simp) (allFn_mem (show AllFn Try.prog cbw_Valid_fns from ⟨cbw_begins_ok, trivial⟩)) mixed (by kernel_rfl)
theorem cbw_Valid_eq (x : (List (BitVec 8))) : evF cbw_Valid_E 5 (bd Try.f12) [.val (.sl (.int .u8))] [.tmp 2 (.bool, .view)] cbw_Valid_an x = cbw_Valid x := by kernel_rfl
theorem cbw_Valid_ok : FnOk Try.prog 12 { args := [.val (.sl (.int .u8))], res := [(.bool, .view)], f := cbw_Valid } :=
  fn_ok cbw_Valid_Eok Try.func12 rfl (by kernel_rfl) (by kernel_rfl) (by kernel_rfl) (rs := [.tmp 2 (.bool, .view)]) (c := bd Try.f12) (an := cbw_Valid_an) (ob_flat _ _ _ _ _ _ _ (by kernel_rfl)) cbw_Valid_eq
/-! cbw_word: function 22 -/
noncomputable def cbw_word_fns : List (Nat × Fun) := [(30, { args := [.val (.sl (.int .u8)), .val (.int .i64), .val (.int .i64)], res := [((.int .u64), .view), (.bool, .view)], f := number_Little })]
noncomputable def cbw_word_E : Env := { ty := Re.look tyTab, eq := fun n => memB n [], fn := Re.look cbw_word_fns, cut := fun n => memB n [], win := fun n => memB n [], parr := Re.look [] }
noncomputable def cbw_word_an : An (Ds ((([.tmp 4 ((.int .u32), .view)] : List RV).map RV.pm).map (·.1) ++ ioTys [.val (.sl (.int .u8)), .val (.int .i64)])) :=
(.seq (.rg [] none)
(.seq (.rg [] none)
(.seq (.rg [] none)
.leaf)))
theorem cbw_word_Eok : EnvOk Try.prog cbw_word_E := env_ok tab_ok (by simp) (allFn_mem (show AllFn Try.prog cbw_word_fns from ⟨number_Little_ok, trivial⟩)) mixed (by kernel_rfl)
theorem cbw_word_eq (x : (List (BitVec 8)) × Int) : evF cbw_word_E 15 (bd Try.f22) [.val (.sl (.int .u8)), .val (.int .i64)] [.tmp 4 ((.int .u32), .view)] cbw_word_an x = cbw_word x := by kernel_rfl
theorem cbw_word_ok : FnOk Try.prog 22 { args := [.val (.sl (.int .u8)), .val (.int .i64)], res := [((.int .u32), .view)], f := cbw_word } :=
  fn_ok cbw_word_Eok Try.func22 rfl (by kernel_rfl) (by kernel_rfl) (by kernel_rfl) (rs := [.tmp 4 ((.int .u32), .view)]) (c := bd Try.f22) (an := cbw_word_an) (ob_flat _ _ _ _ _ _ _ (by kernel_rfl)) cbw_word_eq
/-! bytes_Clone: function 23 -/
noncomputable def bytes_Clone_fns : List (Nat × Fun) := []
noncomputable def bytes_Clone_E : Env := { ty := Re.look tyTab, eq := fun n => memB n [], fn := Re.look bytes_Clone_fns, cut := fun n => memB n [], win := fun n => memB n [], parr := Re.look [] }
noncomputable def bytes_Clone_an : An (Ds ((([.tmp 2 ((.sl (.int .u8)), .full)] : List RV).map RV.pm).map (·.1) ++ ioTys [.val (.sl (.int .u8))])) :=
(.seq (.rg [] none)
(.seq (.seq (.rg [] none)
(.cond (.seq (.rg [] none)
.leaf) .leaf))
(.seq (.rg [] none)
.leaf)))
theorem bytes_Clone_Eok : EnvOk Try.prog bytes_Clone_E := env_ok tab_ok (by simp) (allFn_mem (show AllFn Try.prog bytes_Clone_fns from trivial)) mixed (by kernel_rfl)
theorem bytes_Clone_eq (x : (List (BitVec 8))) : evF bytes_Clone_E 8 (bd Try.f23) [.val (.sl (.int .u8))] [.tmp 2 ((.sl (.int .u8)), .full)] bytes_Clone_an x = bytes_Clone x := by kernel_rfl
theorem bytes_Clone_ok : FnOk Try.prog 23 { args := [.val (.sl (.int .u8))], res := [((.sl (.int .u8)), .full)], f := bytes_Clone } :=
  fn_ok bytes_Clone_Eok Try.func23 rfl (by kernel_rfl) (by kernel_rfl) (by kernel_rfl) (rs := [.tmp 2 ((.sl (.int .u8)), .full)]) (c := bd Try.f23) (an := bytes_Clone_an) (ob_flat _ _ _ _ _ _ _ (by kernel_rfl)) bytes_Clone_eq
/-! cbw_Read: function 9 -/
noncomputable def cbw_Read_fns : List (Nat × Fun) := [(12, { args := [.val (.sl (.int .u8))], res := [(.bool, .view)], f := cbw_Valid }), (22, { args := [.val (.sl (.int .u8)), .val (.int .i64)], res := [((.int .u32), .view)], f := cbw_word }), (23, { args := [.val (.sl (.int .u8))], res := [((.sl (.int .u8)), .full)], f := bytes_Clone })]
noncomputable def cbw_Read_E : Env := { ty := Re.look tyTab, eq := fun n => memB n [], fn := Re.look cbw_Read_fns, cut := fun n => memB n [], win := fun n => memB n [], parr := Re.look [] }
noncomputable def cbw_Read_an : An (Ds ((([.cell 4 T25, .tmp 5 (.bool, .view)] : List RV).map RV.pm).map (·.1) ++ ioTys [.val (.sl (.int .u8)), .val (.int .i64)])) :=
(.seq (.rg [] none)
(.seq (.seq (.rg [] none)
(.cond (.seq (.rg [] none)
.leaf) .leaf))
(.seq (.rg [] (some (.op ⟨[], []⟩ (.op ⟨[], []⟩ (.op ⟨[], []⟩ (.op ⟨[], []⟩ (.op ⟨[], []⟩ (.op ⟨[], []⟩ (.op ⟨[], []⟩ (.op ⟨[], []⟩ (.op ⟨[], []⟩ (.op ⟨[], []⟩ (.op ⟨[], []⟩ (.op ⟨[], []⟩ (.op ⟨[], []⟩ (.op ⟨[], []⟩ .done))))))))))))))))
(.seq (.seq (.rg [] (some (.op ⟨[], []⟩ (.op ⟨[], []⟩ (.op ⟨[], []⟩ (.op ⟨[], []⟩ (.split 27 [(31, .bool)] (.op ⟨[], []⟩ (.op ⟨[], []⟩ (.op ⟨[], []⟩ (.op ⟨[], []⟩ .done)))) (.op ⟨[], []⟩ (.split 32 [(36, .bool)] (.op ⟨[], []⟩ (.op ⟨[], []⟩ (.op ⟨[], []⟩ (.op ⟨[], []⟩ .done)))) (.op ⟨[], []⟩ (.split 37 [(40, .bool)] (.op ⟨[], []⟩ (.op ⟨[], []⟩ (.op ⟨[], []⟩ .done))) (.op ⟨[], []⟩ (.split 41 [(44, .bool)] (.op ⟨[], []⟩ (.op ⟨[], []⟩ (.op ⟨[], []⟩ .done))) .done)))))))))))))
(.cond (.seq (.rg [] none)
.leaf) .leaf))
(.seq (.rg [912] (some (.op ⟨[], []⟩ (.op ⟨[752], []⟩ (.op ⟨[], []⟩ (.op ⟨[784], []⟩ (.op ⟨[], []⟩ (.op ⟨[], []⟩ (.op ⟨[], []⟩ (.op ⟨[], []⟩ (.op ⟨[], []⟩ (.op ⟨[], []⟩ (.op ⟨[], []⟩ (.op ⟨[912], [912]⟩ (.op ⟨[912], [912]⟩ (.op ⟨[64], [64]⟩ (.op ⟨[], []⟩ .done)))))))))))))))))
.leaf)))))
theorem cbw_Read_Eok : EnvOk Try.prog cbw_Read_E := env_ok tab_ok (by simp) (allFn_mem (show AllFn Try.prog cbw_Read_fns from ⟨cbw_Valid_ok, cbw_word_ok, bytes_Clone_ok, trivial⟩)) mixed (by kernel_rfl)
theorem cbw_Read_eq (x : (List (BitVec 8)) × Int) : evF cbw_Read_E 59 (bd Try.f9) [.val (.sl (.int .u8)), .val (.int .i64)] [.cell 4 T25, .tmp 5 (.bool, .view)] cbw_Read_an x = cbw_Read x := by kernel_rfl
theorem cbw_Read_ok : FnOk Try.prog 9 { args := [.val (.sl (.int .u8)), .val (.int .i64)], res := [(T25, .view), (.bool, .view)], f := cbw_Read } :=
  fn_ok cbw_Read_Eok Try.func9 rfl (by kernel_rfl) (by kernel_rfl) (by kernel_rfl) (rs := [.cell 4 T25, .tmp 5 (.bool, .view)]) (c := bd Try.f9) (an := cbw_Read_an) (ob_flat _ _ _ _ _ _ _ (by kernel_rfl)) cbw_Read_eq
/-! cbw_Status: function 19 -/
noncomputable def cbw_Status_fns : List (Nat × Fun) := [(27, { args := [.val (.int .u32)], res := [((.sl (.int .u8)), .full)], f := cbw_put }), (26, { args := [.val (.sl (.sl (.int .u8)))], res := [((.sl (.int .u8)), .full)], f := slices_Concat_byte })]
noncomputable def cbw_Status_E : Env := { ty := Re.look tyTab, eq := fun n => memB n [], fn := Re.look cbw_Status_fns, cut := fun n => memB n [], win := fun n => memB n [], parr := Re.look [] }
noncomputable def cbw_Status_an : An (Ds ((([.tmp 2 ((.sl (.int .u8)), .full)] : List RV).map RV.pm).map (·.1) ++ ioTys [.val T34])) :=
(.seq (.rg [] none)
(.seq (.rg [48, 96, 144, 208, 224] (some (.op ⟨[48], [48]⟩ (.op ⟨[16], []⟩ (.op ⟨[16], []⟩ (.op ⟨[96], [96]⟩ (.op ⟨[16], []⟩ (.op ⟨[16], []⟩ (.op ⟨[144], [144]⟩ (.op ⟨[16], []⟩ (.op ⟨[16], []⟩ (.op ⟨[], []⟩ (.op ⟨[208], [208]⟩ (.op ⟨[48, 96, 144, 208, 224], [48, 96, 144, 208, 224]⟩ (.op ⟨[224, 240], [224, 240]⟩ (.op ⟨[], []⟩ .done))))))))))))))))
.leaf))
theorem cbw_Status_Eok : EnvOk Try.prog cbw_Status_E := env_ok tab_ok (by simp) (allFn_mem (show AllFn Try.prog cbw_Status_fns from ⟨cbw_put_ok, slices_Concat_byte_ok, trivial⟩)) mixed (by kernel_rfl)
theorem cbw_Status_eq (x : (BitVec 32 × (BitVec 32 × (Int × Unit)))) : evF cbw_Status_E 16 (bd Try.f19) [.val T34] [.tmp 2 ((.sl (.int .u8)), .full)] cbw_Status_an x = cbw_Status x := by kernel_rfl
theorem cbw_Status_ok : FnOk Try.prog 19 { args := [.val T34], res := [((.sl (.int .u8)), .full)], f := cbw_Status } :=
  fn_ok cbw_Status_Eok Try.func19 rfl (by kernel_rfl) (by kernel_rfl) (by kernel_rfl) (rs := [.tmp 2 ((.sl (.int .u8)), .full)]) (c := bd Try.f19) (an := cbw_Status_an) (ob_flat _ _ _ _ _ _ _ (by kernel_rfl)) cbw_Status_eq
/-! cbw_ReadStatus: function 17 -/
noncomputable def cbw_ReadStatus_fns : List (Nat × Fun) := [(25, { args := [.val (.sl (.int .u8)), .val (.int .i64), .val (.int .u64)], res := [(.bool, .view)], f := cbw_begins }), (22, { args := [.val (.sl (.int .u8)), .val (.int .i64)], res := [((.int .u32), .view)], f := cbw_word })]
noncomputable def cbw_ReadStatus_E : Env := { ty := Re.look tyTab, eq := fun n => memB n [], fn := Re.look cbw_ReadStatus_fns, cut := fun n => memB n [], win := fun n => memB n [], parr := Re.look [] }
noncomputable def cbw_ReadStatus_an : An (Ds ((([.cell 2 T34, .tmp 3 (.bool, .view)] : List RV).map RV.pm).map (·.1) ++ ioTys [.val (.sl (.int .u8))])) :=
(.seq (.rg [] none)
(.seq (.seq (.rg [] (some (.op ⟨[], []⟩ (.op ⟨[80], []⟩ (.op ⟨[], []⟩ (.op ⟨[], []⟩ (.split 7 [(12, .bool)] (.op ⟨[], []⟩ (.op ⟨[], []⟩ (.op ⟨[], []⟩ (.op ⟨[], []⟩ (.op ⟨[], []⟩ .done))))) .done)))))))
(.cond (.seq (.rg [] none)
.leaf) .leaf))
(.seq (.rg [] (some (.op ⟨[], []⟩ (.op ⟨[240], []⟩ (.op ⟨[], []⟩ (.op ⟨[272], []⟩ (.op ⟨[], []⟩ (.op ⟨[], []⟩ (.op ⟨[], []⟩ (.op ⟨[], []⟩ (.op ⟨[], []⟩ (.op ⟨[32], [32]⟩ (.op ⟨[], []⟩ .done)))))))))))))
.leaf)))
theorem cbw_ReadStatus_Eok : EnvOk Try.prog cbw_ReadStatus_E := env_ok tab_ok (by simp) (allFn_mem (show AllFn Try.prog cbw_ReadStatus_fns from ⟨cbw_begins_ok, cbw_word_ok, trivial⟩)) mixed (by kernel_rfl)
theorem cbw_ReadStatus_eq (x : (List (BitVec 8))) : evF cbw_ReadStatus_E 23 (bd Try.f17) [.val (.sl (.int .u8))] [.cell 2 T34, .tmp 3 (.bool, .view)] cbw_ReadStatus_an x = cbw_ReadStatus x := by kernel_rfl
theorem cbw_ReadStatus_ok : FnOk Try.prog 17 { args := [.val (.sl (.int .u8))], res := [(T34, .view), (.bool, .view)], f := cbw_ReadStatus } :=
  fn_ok cbw_ReadStatus_Eok Try.func17 rfl (by kernel_rfl) (by kernel_rfl) (by kernel_rfl) (rs := [.cell 2 T34, .tmp 3 (.bool, .view)]) (c := bd Try.f17) (an := cbw_ReadStatus_an) (ob_flat _ _ _ _ _ _ _ (by kernel_rfl)) cbw_ReadStatus_eq
/-! bytes_Equal: function 29 -/
noncomputable def bytes_Equal_fns : List (Nat × Fun) := []
noncomputable def bytes_Equal_E : Env := { ty := Re.look tyTab, eq := fun n => memB n [], fn := Re.look bytes_Equal_fns, cut := fun n => memB n [], win := fun n => memB n [], parr := Re.look [] }
noncomputable def bytes_Equal_an : An (Ds ((([.tmp 4 (.bool, .view)] : List RV).map RV.pm).map (·.1) ++ ioTys [.val (.sl (.int .u8)), .val (.sl (.int .u8))])) :=
(.seq (.rg [] none)
(.seq (.rg [] none)
.leaf))
theorem bytes_Equal_Eok : EnvOk Try.prog bytes_Equal_E := env_ok tab_ok (by simp) (allFn_mem (show AllFn Try.prog bytes_Equal_fns from trivial)) mixed (by kernel_rfl)
theorem bytes_Equal_eq (x : (List (BitVec 8)) × (List (BitVec 8))) : evF bytes_Equal_E 10 (bd Try.f29) [.val (.sl (.int .u8)), .val (.sl (.int .u8))] [.tmp 4 (.bool, .view)] bytes_Equal_an x = bytes_Equal x := by kernel_rfl
theorem bytes_Equal_ok : FnOk Try.prog 29 { args := [.val (.sl (.int .u8)), .val (.sl (.int .u8))], res := [(.bool, .view)], f := bytes_Equal } :=
  fn_ok bytes_Equal_Eok Try.func29 rfl (by kernel_rfl) (by kernel_rfl) (by kernel_rfl) (rs := [.tmp 4 (.bool, .view)]) (c := bd Try.f29) (an := bytes_Equal_an) (ob_flat _ _ _ _ _ _ _ (by kernel_rfl)) bytes_Equal_eq
/-! cbw_Same: function 16 -/
noncomputable def cbw_Same_fns : List (Nat × Fun) := [(29, { args := [.val (.sl (.int .u8)), .val (.sl (.int .u8))], res := [(.bool, .view)], f := bytes_Equal })]
noncomputable def cbw_Same_E : Env := { ty := Re.look tyTab, eq := fun n => memB n [], fn := Re.look cbw_Same_fns, cut := fun n => memB n [], win := fun n => memB n [], parr := Re.look [] }
noncomputable def cbw_Same_an : An (Ds ((([.tmp 4 (.bool, .view)] : List RV).map RV.pm).map (·.1) ++ ioTys [.val T25, .val T25])) :=
(.seq (.rg [] none)
(.seq (.rg [] (some (.op ⟨[32], []⟩ (.op ⟨[32], []⟩ (.op ⟨[48], []⟩ (.op ⟨[48], []⟩ (.op ⟨[], []⟩ (.op ⟨[], []⟩ (.split 10 [(16, .bool)] (.op ⟨[32], []⟩ (.op ⟨[32], []⟩ (.op ⟨[48], []⟩ (.op ⟨[48], []⟩ (.op ⟨[], []⟩ (.op ⟨[], []⟩ .done)))))) (.op ⟨[], []⟩ (.split 17 [(23, .bool)] (.op ⟨[32], []⟩ (.op ⟨[32], []⟩ (.op ⟨[48], []⟩ (.op ⟨[48], []⟩ (.op ⟨[], []⟩ (.op ⟨[], []⟩ .done)))))) (.op ⟨[], []⟩ (.split 24 [(30, .bool)] (.op ⟨[32], []⟩ (.op ⟨[32], []⟩ (.op ⟨[48], []⟩ (.op ⟨[48], []⟩ (.op ⟨[], []⟩ (.op ⟨[], []⟩ .done)))))) (.op ⟨[], []⟩ (.split 31 [(37, .bool)] (.op ⟨[32], []⟩ (.op ⟨[32], []⟩ (.op ⟨[48], []⟩ (.op ⟨[48], []⟩ (.op ⟨[576], []⟩ (.op ⟨[], []⟩ .done)))))) (.op ⟨[], []⟩ .done))))))))))))))))
.leaf))
theorem cbw_Same_Eok : EnvOk Try.prog cbw_Same_E := env_ok tab_ok (by simp) (allFn_mem (show AllFn Try.prog cbw_Same_fns from ⟨bytes_Equal_ok, trivial⟩)) mixed (by kernel_rfl)
theorem cbw_Same_eq (x : (BitVec 32 × (BitVec 32 × (Bool × (Int × (List (BitVec 8) × Unit))))) × (BitVec 32 × (BitVec 32 × (Bool × (Int × (List (BitVec 8) × Unit)))))) : evF cbw_Same_E 38 (bd Try.f16) [.val T25, .val T25] [.tmp 4 (.bool, .view)] cbw_Same_an x = cbw_Same x := by kernel_rfl
theorem cbw_Same_ok : FnOk Try.prog 16 { args := [.val T25, .val T25], res := [(.bool, .view)], f := cbw_Same } :=
  fn_ok cbw_Same_Eok Try.func16 rfl (by kernel_rfl) (by kernel_rfl) (by kernel_rfl) (rs := [.tmp 4 (.bool, .view)]) (c := bd Try.f16) (an := cbw_Same_an) (ob_flat _ _ _ _ _ _ _ (by kernel_rfl)) cbw_Same_eq
/-! reticuleref19_Same: function 11 -/
noncomputable def reticuleref19_Same_fns : List (Nat × Fun) := []
noncomputable def reticuleref19_Same_E : Env := { ty := Re.look tyTab, eq := fun n => memB n [], fn := Re.look reticuleref19_Same_fns, cut := fun n => memB n [], win := fun n => memB n [], parr := Re.look [] }
noncomputable def reticuleref19_Same_an : An (Ds ((([.tmp 4 (.bool, .view)] : List RV).map RV.pm).map (·.1) ++ ioTys [.val T25, .val T25])) :=
(.seq (.rg [] none)
(.seq (.rg [] (some (.op ⟨[32], []⟩ (.op ⟨[32], []⟩ (.op ⟨[48], []⟩ (.op ⟨[48], []⟩ (.op ⟨[], []⟩ (.op ⟨[], []⟩ (.split 10 [(16, .bool)] (.op ⟨[32], []⟩ (.op ⟨[32], []⟩ (.op ⟨[48], []⟩ (.op ⟨[48], []⟩ (.op ⟨[], []⟩ (.op ⟨[], []⟩ .done)))))) (.op ⟨[], []⟩ (.split 17 [(23, .bool)] (.op ⟨[32], []⟩ (.op ⟨[32], []⟩ (.op ⟨[48], []⟩ (.op ⟨[48], []⟩ (.op ⟨[], []⟩ (.op ⟨[], []⟩ .done)))))) (.op ⟨[], []⟩ (.split 24 [(30, .bool)] (.op ⟨[32], []⟩ (.op ⟨[32], []⟩ (.op ⟨[48], []⟩ (.op ⟨[48], []⟩ (.op ⟨[], []⟩ (.op ⟨[], []⟩ .done)))))) (.op ⟨[], []⟩ (.split 31 [(39, .bool)] (.op ⟨[32], []⟩ (.op ⟨[32], []⟩ (.op ⟨[], []⟩ (.op ⟨[48], []⟩ (.op ⟨[48], []⟩ (.op ⟨[], []⟩ (.op ⟨[], []⟩ (.op ⟨[], []⟩ .done)))))))) (.op ⟨[], []⟩ .done))))))))))))))))
.leaf))
theorem reticuleref19_Same_Eok : EnvOk Try.prog reticuleref19_Same_E := env_ok tab_ok (by simp) (allFn_mem (show AllFn Try.prog reticuleref19_Same_fns from trivial)) mixed (by kernel_rfl)
theorem reticuleref19_Same_eq (x : (BitVec 32 × (BitVec 32 × (Bool × (Int × (List (BitVec 8) × Unit))))) × (BitVec 32 × (BitVec 32 × (Bool × (Int × (List (BitVec 8) × Unit)))))) : evF reticuleref19_Same_E 40 (bd Try.f11) [.val T25, .val T25] [.tmp 4 (.bool, .view)] reticuleref19_Same_an x = reticuleref19_Same x := by kernel_rfl
theorem reticuleref19_Same_ok : FnOk Try.prog 11 { args := [.val T25, .val T25], res := [(.bool, .view)], f := reticuleref19_Same } :=
  fn_ok reticuleref19_Same_Eok Try.func11 rfl (by kernel_rfl) (by kernel_rfl) (by kernel_rfl) (rs := [.tmp 4 (.bool, .view)]) (c := bd Try.f11) (an := reticuleref19_Same_an) (ob_flat _ _ _ _ _ _ _ (by kernel_rfl)) reticuleref19_Same_eq
/-! reticulelaw19_alive: function 8 -/
noncomputable def reticulelaw19_alive_fns : List (Nat × Fun) := [(14, { args := [.val T25], res := [((.sl (.int .u8)), .full), (.bool, .view)], f := cbw_Bytes }), (9, { args := [.val (.sl (.int .u8)), .val (.int .i64)], res := [(T25, .view), (.bool, .view)], f := cbw_Read }), (19, { args := [.val T34], res := [((.sl (.int .u8)), .full)], f := cbw_Status }), (17, { args := [.val (.sl (.int .u8))], res := [(T34, .view), (.bool, .view)], f := cbw_ReadStatus }), (12, { args := [.val (.sl (.int .u8))], res := [(.bool, .view)], f := cbw_Valid }), (16, { args := [.val T25, .val T25], res := [(.bool, .view)], f := cbw_Same }), (11, { args := [.val T25, .val T25], res := [(.bool, .view)], f := reticuleref19_Same })]
noncomputable def reticulelaw19_alive_E : Env := { ty := Re.look tyTab, eq := fun n => memB n [35], fn := Re.look reticulelaw19_alive_fns, cut := fun n => memB n [], win := fun n => memB n [], parr := Re.look [] }
noncomputable def reticulelaw19_alive_an : An (Ds ((([.tmp 0 (.bool, .view)] : List RV).map RV.pm).map (·.1) ++ ioTys [])) :=
(.seq (.rg [] none)
(.seq (.rg [] none)
(.seq (.rg [] none)
(.seq (.rg [] none)
(.seq (.rg [] none)
(.seq (.rg [] none)
(.seq (.rg [] none)
(.seq (.rg [] none)
(.seq (.seq (.rg [] (some (.op ⟨[], []⟩ (.op ⟨[], []⟩ (.op ⟨[], []⟩ (.split 48 [(51, .bool)] (.op ⟨[], []⟩ (.op ⟨[], []⟩ (.op ⟨[], []⟩ .done))) (.op ⟨[], []⟩ (.split 52 [(54, .bool)] (.op ⟨[], []⟩ (.op ⟨[], []⟩ .done)) (.op ⟨[], []⟩ (.split 55 [(57, .bool)] (.op ⟨[], []⟩ (.op ⟨[], []⟩ .done)) (.op ⟨[], []⟩ (.split 58 [(61, .bool)] (.op ⟨[], []⟩ (.op ⟨[], []⟩ (.op ⟨[], []⟩ .done))) (.op ⟨[], []⟩ (.split 62 [(66, .bool)] (.op ⟨[], []⟩ (.op ⟨[272], []⟩ (.op ⟨[], []⟩ (.op ⟨[], []⟩ .done)))) (.op ⟨[], []⟩ (.split 67 [(71, .bool)] (.op ⟨[], []⟩ (.op ⟨[496], []⟩ (.op ⟨[], []⟩ (.op ⟨[], []⟩ .done)))) .done))))))))))))))))
(.cond (.seq (.rg [] none)
.leaf) .leaf))
(.seq (.rg [] (some (.op ⟨[], []⟩ (.op ⟨[272, 1168], []⟩ (.op ⟨[], []⟩ (.split 74 [(78, .bool)] (.op ⟨[], []⟩ (.op ⟨[496, 1216], []⟩ (.op ⟨[], []⟩ (.op ⟨[], []⟩ .done)))) (.op ⟨[], []⟩ (.split 79 [(83, .bool)] (.op ⟨[16], []⟩ (.op ⟨[64], []⟩ (.op ⟨[1312], []⟩ (.op ⟨[], []⟩ .done)))) (.op ⟨[], []⟩ (.split 84 [(88, .bool)] (.op ⟨[16], []⟩ (.op ⟨[64], []⟩ (.op ⟨[1392], []⟩ (.op ⟨[], []⟩ .done)))) (.op ⟨[], []⟩ (.split 89 [(94, .bool)] (.op ⟨[], []⟩ (.op ⟨[272], []⟩ (.op ⟨[], []⟩ (.op ⟨[], []⟩ (.op ⟨[], []⟩ .done))))) (.op ⟨[], []⟩ (.split 95 [(100, .bool)] (.op ⟨[], []⟩ (.op ⟨[272], []⟩ (.op ⟨[], []⟩ (.op ⟨[], []⟩ (.op ⟨[], []⟩ .done))))) (.op ⟨[], []⟩ (.split 101 [(106, .bool)] (.op ⟨[], []⟩ (.op ⟨[272], []⟩ (.op ⟨[], []⟩ (.op ⟨[], []⟩ (.op ⟨[], []⟩ .done))))) (.op ⟨[], []⟩ (.split 107 [(112, .bool)] (.op ⟨[], []⟩ (.op ⟨[496], []⟩ (.op ⟨[], []⟩ (.op ⟨[], []⟩ (.op ⟨[], []⟩ .done))))) (.op ⟨[], []⟩ (.split 113 [(117, .bool)] (.op ⟨[144], []⟩ (.op ⟨[], []⟩ (.op ⟨[], []⟩ (.op ⟨[], []⟩ .done)))) (.op ⟨[], []⟩ .done)))))))))))))))))))))
.leaf))))))))))
theorem reticulelaw19_alive_Eok : EnvOk Try.prog reticulelaw19_alive_E := env_ok tab_ok (by intro t h; simp only [List.mem_cons, List.mem_nil_iff, or_false, List.not_mem_nil] at h; rcases h with rfl <;> exact ⟨by kernel_rfl, by kernel_rfl, by kernel_rfl⟩) (allFn_mem (show AllFn Try.prog reticulelaw19_alive_fns from ⟨cbw_Bytes_ok, cbw_Read_ok, cbw_Status_ok, cbw_ReadStatus_ok, cbw_Valid_ok, cbw_Same_ok, reticuleref19_Same_ok, trivial⟩)) mixed (by kernel_rfl)
theorem reticulelaw19_alive_eq (x : Unit) : evF reticulelaw19_alive_E 118 (bd Try.f8) [] [.tmp 0 (.bool, .view)] reticulelaw19_alive_an x = reticulelaw19_alive x := by kernel_rfl
theorem reticulelaw19_alive_ok : FnOk Try.prog 8 { args := [], res := [(.bool, .view)], f := reticulelaw19_alive } :=
  fn_ok reticulelaw19_alive_Eok Try.func8 rfl (by kernel_rfl) (by kernel_rfl) (by kernel_rfl) (rs := [.tmp 0 (.bool, .view)]) (c := bd Try.f8) (an := reticulelaw19_alive_an) (ob_flat _ _ _ _ _ _ _ (by kernel_rfl)) reticulelaw19_alive_eq
/-! reticuleref19_Valid: function 13 -/
noncomputable def reticuleref19_Valid_fns : List (Nat × Fun) := []
noncomputable def reticuleref19_Valid_E : Env := { ty := Re.look tyTab, eq := fun n => memB n [], fn := Re.look reticuleref19_Valid_fns, cut := fun n => memB n [], win := fun n => memB n [], parr := Re.look [] }
noncomputable def reticuleref19_Valid_an : An (Ds ((([.tmp 2 (.bool, .view)] : List RV).map RV.pm).map (·.1) ++ ioTys [.val (.sl (.int .u8))])) :=
(.seq (.rg [] none)
(.seq (.rg [] (some (.op ⟨[], []⟩ (.op ⟨[], []⟩ (.op ⟨[], []⟩ (.op ⟨[], []⟩ (.split 6 [(11, .bool)] (.op ⟨[], []⟩ (.op ⟨[], []⟩ (.op ⟨[], []⟩ (.op ⟨[], []⟩ (.op ⟨[], []⟩ .done))))) (.op ⟨[], []⟩ .done))))))))
.leaf))
theorem reticuleref19_Valid_Eok : EnvOk Try.prog reticuleref19_Valid_E := env_ok tab_ok (by simp) (allFn_mem (show AllFn Try.prog reticuleref19_Valid_fns from trivial)) mixed (by kernel_rfl)
theorem reticuleref19_Valid_eq (x : (List (BitVec 8))) : evF reticuleref19_Valid_E 12 (bd Try.f13) [.val (.sl (.int .u8))] [.tmp 2 (.bool, .view)] reticuleref19_Valid_an x = reticuleref19_Valid x := by kernel_rfl
theorem reticuleref19_Valid_ok : FnOk Try.prog 13 { args := [.val (.sl (.int .u8))], res := [(.bool, .view)], f := reticuleref19_Valid } :=
  fn_ok reticuleref19_Valid_Eok Try.func13 rfl (by kernel_rfl) (by kernel_rfl) (by kernel_rfl) (rs := [.tmp 2 (.bool, .view)]) (c := bd Try.f13) (an := reticuleref19_Valid_an) (ob_flat _ _ _ _ _ _ _ (by kernel_rfl)) reticuleref19_Valid_eq
/-! reticuleref01_Little: function 31 -/
noncomputable def reticuleref01_Little_fns : List (Nat × Fun) := []
noncomputable def reticuleref01_Little_E : Env := { ty := Re.look tyTab, eq := fun n => memB n [], fn := Re.look reticuleref01_Little_fns, cut := fun n => memB n [], win := fun n => memB n [], parr := Re.look [] }
noncomputable def reticuleref01_Little_an : An (Ds ((([.tmp 6 ((.int .u64), .view), .tmp 7 (.bool, .view)] : List RV).map RV.pm).map (·.1) ++ ioTys [.val (.sl (.int .u8)), .val (.int .i64), .val (.int .i64)])) :=
(.seq (.rg [] none)
(.seq (.seq (.rg [] (some (.op ⟨[], []⟩ (.op ⟨[], []⟩ (.op ⟨[], []⟩ (.split 12 [(15, .bool)] (.op ⟨[], []⟩ (.op ⟨[], []⟩ (.op ⟨[], []⟩ .done))) (.op ⟨[], []⟩ (.split 16 [(19, .bool)] (.op ⟨[], []⟩ (.op ⟨[], []⟩ (.op ⟨[], []⟩ .done))) (.op ⟨[], []⟩ (.split 20 [(25, .bool)] (.op ⟨[], []⟩ (.op ⟨[], []⟩ (.op ⟨[], []⟩ (.op ⟨[], []⟩ (.op ⟨[], []⟩ .done))))) (.op ⟨[], []⟩ (.split 26 [(33, .bool)] (.op ⟨[], []⟩ (.op ⟨[], []⟩ (.op ⟨[], []⟩ (.op ⟨[], []⟩ (.op ⟨[], []⟩ (.op ⟨[], []⟩ (.op ⟨[], []⟩ .done))))))) .done))))))))))))
(.cond (.seq (.rg [] none)
.leaf) .leaf))
(.seq (.rg [] none)
(.seq (.seq (.rg [] none)
(.loop [.val 0 (.sl (.int .u8)), .val 1 (.int .i64), .val 8 (.int .u64), .val 9 (.int .i64)] [.val 8 (.int .u64)] reticuleref01_Little_L0
(.seq (.seq (.rg [] none)
(.cond .leaf .leaf))
(.seq (.block (.rg [] none))
(.rg [] none)))))
(.seq (.rg [] none)
.leaf)))))
theorem reticuleref01_Little_Eok : EnvOk Try.prog reticuleref01_Little_E := env_ok tab_ok (by simp) (allFn_mem (show AllFn Try.prog reticuleref01_Little_fns from trivial)) mixed (by kernel_rfl)
theorem reticuleref01_Little_eq (x : (List (BitVec 8)) × Int × Int) : evF reticuleref01_Little_E 51 (bd Try.f31) [.val (.sl (.int .u8)), .val (.int .i64), .val (.int .i64)] [.tmp 6 ((.int .u64), .view), .tmp 7 (.bool, .view)] reticuleref01_Little_an x = reticuleref01_Little x := by kernel_rfl
theorem reticuleref01_Little_ok : FnOk Try.prog 31 { args := [.val (.sl (.int .u8)), .val (.int .i64), .val (.int .i64)], res := [((.int .u64), .view), (.bool, .view)], f := reticuleref01_Little } :=
  fn_ok reticuleref01_Little_Eok Try.func31 rfl (by kernel_rfl) (by kernel_rfl) (by kernel_rfl) (rs := [.tmp 6 ((.int .u64), .view), .tmp 7 (.bool, .view)]) (c := bd Try.f31) (an := reticuleref01_Little_an) (show obF reticuleref01_Little_E 51 (bd Try.f31) [.val (.sl (.int .u8)), .val (.int .i64), .val (.int .i64)] [.tmp 6 ((.int .u64), .view), .tmp 7 (.bool, .view)] reticuleref01_Little_an from (And.intro trivial (And.intro (And.intro trivial (And.intro (And.intro trivial trivial) trivial)) (And.intro trivial (And.intro (And.intro trivial (And.intro (fun _ => rfl) (And.intro (fun n j => by kernel_rfl) (fun n => (And.intro (And.intro trivial (And.intro trivial trivial)) (And.intro trivial trivial)))))) (And.intro trivial trivial)))))) reticuleref01_Little_eq
/-! reticuleref19_four: function 24 -/
noncomputable def reticuleref19_four_fns : List (Nat × Fun) := [(31, { args := [.val (.sl (.int .u8)), .val (.int .i64), .val (.int .i64)], res := [((.int .u64), .view), (.bool, .view)], f := reticuleref01_Little })]
noncomputable def reticuleref19_four_E : Env := { ty := Re.look tyTab, eq := fun n => memB n [], fn := Re.look reticuleref19_four_fns, cut := fun n => memB n [], win := fun n => memB n [], parr := Re.look [] }
noncomputable def reticuleref19_four_an : An (Ds ((([.tmp 4 ((.int .u32), .view)] : List RV).map RV.pm).map (·.1) ++ ioTys [.val (.sl (.int .u8)), .val (.int .i64)])) :=
(.seq (.rg [] none)
(.seq (.rg [] none)
(.seq (.rg [] none)
.leaf)))
theorem reticuleref19_four_Eok : EnvOk Try.prog reticuleref19_four_E := env_ok tab_ok (by simp) (allFn_mem (show AllFn Try.prog reticuleref19_four_fns from ⟨reticuleref01_Little_ok, trivial⟩)) mixed (by kernel_rfl)
theorem reticuleref19_four_eq (x : (List (BitVec 8)) × Int) : evF reticuleref19_four_E 15 (bd Try.f24) [.val (.sl (.int .u8)), .val (.int .i64)] [.tmp 4 ((.int .u32), .view)] reticuleref19_four_an x = reticuleref19_four x := by kernel_rfl
theorem reticuleref19_four_ok : FnOk Try.prog 24 { args := [.val (.sl (.int .u8)), .val (.int .i64)], res := [((.int .u32), .view)], f := reticuleref19_four } :=
  fn_ok reticuleref19_four_Eok Try.func24 rfl (by kernel_rfl) (by kernel_rfl) (by kernel_rfl) (rs := [.tmp 4 ((.int .u32), .view)]) (c := bd Try.f24) (an := reticuleref19_four_an) (ob_flat _ _ _ _ _ _ _ (by kernel_rfl)) reticuleref19_four_eq
/-! reticuleref19_Read: function 10 -/
noncomputable def reticuleref19_Read_fns : List (Nat × Fun) := [(13, { args := [.val (.sl (.int .u8))], res := [(.bool, .view)], f := reticuleref19_Valid }), (24, { args := [.val (.sl (.int .u8)), .val (.int .i64)], res := [((.int .u32), .view)], f := reticuleref19_four })]
noncomputable def reticuleref19_Read_E : Env := { ty := Re.look tyTab, eq := fun n => memB n [], fn := Re.look reticuleref19_Read_fns, cut := fun n => memB n [], win := fun n => memB n [], parr := Re.look [] }
noncomputable def reticuleref19_Read_an : An (Ds ((([.cell 4 T25, .tmp 5 (.bool, .view)] : List RV).map RV.pm).map (·.1) ++ ioTys [.val (.sl (.int .u8)), .val (.int .i64)])) :=
(.seq (.rg [] none)
(.seq (.seq (.rg [] (some (.op ⟨[], []⟩ (.op ⟨[128], []⟩ (.op ⟨[], []⟩ (.op ⟨[], []⟩ (.split 10 [(21, .bool)] (.op ⟨[], []⟩ (.op ⟨[], []⟩ (.op ⟨[], []⟩ (.op ⟨[], []⟩ (.op ⟨[], []⟩ (.split 15 [(20, .bool)] (.op ⟨[], []⟩ (.op ⟨[], []⟩ (.op ⟨[], []⟩ (.op ⟨[], []⟩ (.op ⟨[], []⟩ .done))))) (.op ⟨[], []⟩ .done))))))) (.op ⟨[], []⟩ (.split 22 [(27, .bool)] (.op ⟨[], []⟩ (.op ⟨[], []⟩ (.op ⟨[], []⟩ (.op ⟨[], []⟩ (.op ⟨[], []⟩ .done))))) (.op ⟨[], []⟩ (.split 28 [(35, .bool)] (.op ⟨[], []⟩ (.op ⟨[], []⟩ (.op ⟨[], []⟩ (.op ⟨[], []⟩ (.op ⟨[], []⟩ (.op ⟨[], []⟩ (.op ⟨[], []⟩ .done))))))) (.op ⟨[], []⟩ (.split 36 [(41, .bool)] (.op ⟨[], []⟩ (.op ⟨[], []⟩ (.op ⟨[], []⟩ (.op ⟨[], []⟩ (.op ⟨[], []⟩ .done))))) (.op ⟨[], []⟩ (.split 42 [(47, .bool)] (.op ⟨[], []⟩ (.op ⟨[], []⟩ (.op ⟨[], []⟩ (.op ⟨[], []⟩ (.op ⟨[], []⟩ .done))))) .done)))))))))))))))
(.cond (.seq (.rg [] none)
.leaf) .leaf))
(.seq (.rg [] (some (.op ⟨[], []⟩ (.op ⟨[800], []⟩ (.op ⟨[], []⟩ (.op ⟨[832], []⟩ (.op ⟨[], []⟩ (.op ⟨[], []⟩ (.op ⟨[], []⟩ (.op ⟨[], []⟩ (.op ⟨[], []⟩ (.op ⟨[], []⟩ (.op ⟨[], []⟩ (.op ⟨[], []⟩ (.op ⟨[], []⟩ (.op ⟨[96], [96]⟩ (.op ⟨[96], [96]⟩ .done)))))))))))))))))
(.seq (.rg [] none)
(.seq (.rg [] none)
.leaf)))))
theorem reticuleref19_Read_Eok : EnvOk Try.prog reticuleref19_Read_E := env_ok tab_ok (by simp) (allFn_mem (show AllFn Try.prog reticuleref19_Read_fns from ⟨reticuleref19_Valid_ok, reticuleref19_four_ok, trivial⟩)) mixed (by kernel_rfl)
theorem reticuleref19_Read_eq (x : (List (BitVec 8)) × Int) : evF reticuleref19_Read_E 73 (bd Try.f10) [.val (.sl (.int .u8)), .val (.int .i64)] [.cell 4 T25, .tmp 5 (.bool, .view)] reticuleref19_Read_an x = reticuleref19_Read x := by kernel_rfl
theorem reticuleref19_Read_ok : FnOk Try.prog 10 { args := [.val (.sl (.int .u8)), .val (.int .i64)], res := [(T25, .view), (.bool, .view)], f := reticuleref19_Read } :=
  fn_ok reticuleref19_Read_Eok Try.func10 rfl (by kernel_rfl) (by kernel_rfl) (by kernel_rfl) (rs := [.cell 4 T25, .tmp 5 (.bool, .view)]) (c := bd Try.f10) (an := reticuleref19_Read_an) (ob_flat _ _ _ _ _ _ _ (by kernel_rfl)) reticuleref19_Read_eq
/-! reticulelaw19_CbwReads: function 3 -/
noncomputable def reticulelaw19_CbwReads_fns : List (Nat × Fun) := [(8, { args := [], res := [(.bool, .view)], f := reticulelaw19_alive }), (9, { args := [.val (.sl (.int .u8)), .val (.int .i64)], res := [(T25, .view), (.bool, .view)], f := cbw_Read }), (10, { args := [.val (.sl (.int .u8)), .val (.int .i64)], res := [(T25, .view), (.bool, .view)], f := reticuleref19_Read }), (11, { args := [.val T25, .val T25], res := [(.bool, .view)], f := reticuleref19_Same }), (12, { args := [.val (.sl (.int .u8))], res := [(.bool, .view)], f := cbw_Valid }), (13, { args := [.val (.sl (.int .u8))], res := [(.bool, .view)], f := reticuleref19_Valid })]
noncomputable def reticulelaw19_CbwReads_E : Env := { ty := Re.look tyTab, eq := fun n => memB n [], fn := Re.look reticulelaw19_CbwReads_fns, cut := fun n => memB n [], win := fun n => memB n [], parr := Re.look [] }
noncomputable def reticulelaw19_CbwReads_an : An (Ds ((([.tmp 4 (.bool, .view)] : List RV).map RV.pm).map (·.1) ++ ioTys [.val (.sl (.int .u8)), .val (.int .i64)])) :=
(.seq (.rg [] none)
(.seq (.seq (.rg [] none)
(.cond (.seq (.rg [] none)
.leaf) .leaf))
(.seq (.seq (.rg [] none)
(.cond (.seq (.rg [] none)
.leaf) .leaf))
(.seq (.rg [] none)
(.seq (.rg [] none)
(.seq (.rg [] (some (.op ⟨[80], []⟩ (.op ⟨[112], []⟩ (.op ⟨[448], []⟩ (.op ⟨[], []⟩ (.split 29 [(33, .bool)] (.op ⟨[], []⟩ (.op ⟨[], []⟩ (.op ⟨[], []⟩ (.op ⟨[], []⟩ .done)))) (.op ⟨[], []⟩ (.split 34 [(40, .bool)] (.op ⟨[], []⟩ (.op ⟨[576], []⟩ (.op ⟨[], []⟩ (.op ⟨[608], []⟩ (.op ⟨[], []⟩ (.op ⟨[], []⟩ .done)))))) (.op ⟨[], []⟩ .done))))))))))
.leaf))))))
theorem reticulelaw19_CbwReads_Eok : EnvOk Try.prog reticulelaw19_CbwReads_E := env_ok tab_ok (by simp) (allFn_mem (show AllFn Try.prog reticulelaw19_CbwReads_fns from ⟨reticulelaw19_alive_ok, cbw_Read_ok, reticuleref19_Read_ok, reticuleref19_Same_ok, cbw_Valid_ok, reticuleref19_Valid_ok, trivial⟩)) mixed (by kernel_rfl)
theorem reticulelaw19_CbwReads_eq (x : (List (BitVec 8)) × Int) : evF reticulelaw19_CbwReads_E 41 (bd Try.f3) [.val (.sl (.int .u8)), .val (.int .i64)] [.tmp 4 (.bool, .view)] reticulelaw19_CbwReads_an x = reticulelaw19_CbwReads x := by kernel_rfl
theorem reticulelaw19_CbwReads_ok : FnOk Try.prog 3 { args := [.val (.sl (.int .u8)), .val (.int .i64)], res := [(.bool, .view)], f := reticulelaw19_CbwReads } :=
  fn_ok reticulelaw19_CbwReads_Eok Try.func3 rfl (by kernel_rfl) (by kernel_rfl) (by kernel_rfl) (rs := [.tmp 4 (.bool, .view)]) (c := bd Try.f3) (an := reticulelaw19_CbwReads_an) (ob_flat _ _ _ _ _ _ _ (by kernel_rfl)) reticulelaw19_CbwReads_eq
/-! reticuleref01_PutLittle: function 28 -/
noncomputable def reticuleref01_PutLittle_fns : List (Nat × Fun) := []
noncomputable def reticuleref01_PutLittle_E : Env := { ty := Re.look tyTab, eq := fun n => memB n [], fn := Re.look reticuleref01_PutLittle_fns, cut := fun n => memB n [], win := fun n => memB n [], parr := Re.look [] }
noncomputable def reticuleref01_PutLittle_an : An (Ds ((([.tmp 4 ((.sl (.int .u8)), .full)] : List RV).map RV.pm).map (·.1) ++ ioTys [.val (.int .u64), .val (.int .i64)])) :=
(.seq (.rg [] none)
(.seq (.seq (.rg [] (some (.op ⟨[], []⟩ (.op ⟨[], []⟩ (.op ⟨[], []⟩ (.split 9 [(12, .bool)] (.op ⟨[], []⟩ (.op ⟨[], []⟩ (.op ⟨[], []⟩ .done))) .done))))))
(.cond (.seq (.rg [] none)
.leaf) .leaf))
(.seq (.rg [] none)
(.seq (.seq (.rg [] none)
(.loop [.val 0 (.int .u64), .val 1 (.int .i64), .row 5 (.int .u8) .full, .val 6 (.int .i64)] [.row 5 (.int .u8) .full] reticuleref01_PutLittle_L0
(.seq (.seq (.rg [] none)
(.cond .leaf .leaf))
(.seq (.block (.seq (.rg [] none)
(.rg [] none)))
(.rg [] none)))))
(.seq (.rg [] none)
.leaf)))))
theorem reticuleref01_PutLittle_Eok : EnvOk Try.prog reticuleref01_PutLittle_E := env_ok tab_ok (by simp) (allFn_mem (show AllFn Try.prog reticuleref01_PutLittle_fns from trivial)) mixed (by kernel_rfl)
theorem reticuleref01_PutLittle_eq (x : (BitVec 64) × Int) : evF reticuleref01_PutLittle_E 29 (bd Try.f28) [.val (.int .u64), .val (.int .i64)] [.tmp 4 ((.sl (.int .u8)), .full)] reticuleref01_PutLittle_an x = reticuleref01_PutLittle x := by kernel_rfl
theorem reticuleref01_PutLittle_ok : FnOk Try.prog 28 { args := [.val (.int .u64), .val (.int .i64)], res := [((.sl (.int .u8)), .full)], f := reticuleref01_PutLittle } :=
  fn_ok reticuleref01_PutLittle_Eok Try.func28 rfl (by kernel_rfl) (by kernel_rfl) (by kernel_rfl) (rs := [.tmp 4 ((.sl (.int .u8)), .full)]) (c := bd Try.f28) (an := reticuleref01_PutLittle_an) (show obF reticuleref01_PutLittle_E 29 (bd Try.f28) [.val (.int .u64), .val (.int .i64)] [.tmp 4 ((.sl (.int .u8)), .full)] reticuleref01_PutLittle_an from (And.intro trivial (And.intro (And.intro trivial (And.intro (And.intro trivial trivial) trivial)) (And.intro trivial (And.intro (And.intro trivial (And.intro (fun _ => rfl) (And.intro (fun n j => by kernel_rfl) (fun n => (And.intro (And.intro trivial (And.intro trivial trivial)) (And.intro (And.intro trivial trivial) trivial)))))) (And.intro trivial trivial)))))) reticuleref01_PutLittle_eq
/-! reticuleref19_Bytes: function 15 -/
noncomputable def reticuleref19_Bytes_fns : List (Nat × Fun) := [(28, { args := [.val (.int .u64), .val (.int .i64)], res := [((.sl (.int .u8)), .full)], f := reticuleref01_PutLittle })]
noncomputable def reticuleref19_Bytes_E : Env := { ty := Re.look tyTab, eq := fun n => memB n [], fn := Re.look reticuleref19_Bytes_fns, cut := fun n => memB n [], win := fun n => memB n [], parr := Re.look [] }
noncomputable def reticuleref19_Bytes_an : An (Ds ((([.tmp 2 ((.sl (.int .u8)), .full), .tmp 3 (.bool, .view)] : List RV).map RV.pm).map (·.1) ++ ioTys [.val T25])) :=
(.seq (.rg [] none)
(.seq (.seq (.rg [] (some (.op ⟨[16], []⟩ (.op ⟨[16], []⟩ (.op ⟨[], []⟩ (.op ⟨[], []⟩ (.split 10 [(14, .bool)] (.op ⟨[16], []⟩ (.op ⟨[16], []⟩ (.op ⟨[], []⟩ (.op ⟨[], []⟩ .done)))) (.op ⟨[], []⟩ (.split 15 [(20, .bool)] (.op ⟨[16], []⟩ (.op ⟨[16], []⟩ (.op ⟨[], []⟩ (.op ⟨[], []⟩ (.op ⟨[], []⟩ .done))))) (.op ⟨[], []⟩ (.split 21 [(26, .bool)] (.op ⟨[16], []⟩ (.op ⟨[16], []⟩ (.op ⟨[], []⟩ (.op ⟨[], []⟩ (.op ⟨[], []⟩ .done))))) .done)))))))))))
(.cond (.seq (.rg [] none)
.leaf) .leaf))
(.seq (.rg [] none)
(.seq (.rg [] none)
(.seq (.rg [] none)
(.seq (.rg [] none)
(.join [.box 1 T25, .row 4 (.int .u8) .full, .val 5 (.int .u8)]
(.seq (.rg [] none)
(.cond (.rg [] none) .leaf))
(.seq (.rg [] none)
(.seq (.rg [] none)
(.seq (.seq (.rg [] none)
(.loop [.row 4 (.int .u8) .full, .val 6 (.int .i64)] [.row 4 (.int .u8) .full] reticuleref19_Bytes_L0
(.seq (.seq (.rg [] (some (.op ⟨[], []⟩ (.op ⟨[], []⟩ (.op ⟨[], []⟩ (.split 60 [(64, .bool)] (.op ⟨[], []⟩ (.op ⟨[64], []⟩ (.op ⟨[], []⟩ (.op ⟨[], []⟩ .done)))) .done))))))
(.cond .leaf .leaf))
(.seq (.block (.rg [] none))
(.rg [] none)))))
(.seq (.rg [] none)
.leaf)))))))))))
theorem reticuleref19_Bytes_Eok : EnvOk Try.prog reticuleref19_Bytes_E := env_ok tab_ok (by simp) (allFn_mem (show AllFn Try.prog reticuleref19_Bytes_fns from ⟨reticuleref01_PutLittle_ok, trivial⟩)) mixed (by kernel_rfl)
theorem reticuleref19_Bytes_eq (x : (BitVec 32 × (BitVec 32 × (Bool × (Int × (List (BitVec 8) × Unit)))))) : evF reticuleref19_Bytes_E 71 (bd Try.f15) [.val T25] [.tmp 2 ((.sl (.int .u8)), .full), .tmp 3 (.bool, .view)] reticuleref19_Bytes_an x = reticuleref19_Bytes x := by kernel_rfl
theorem reticuleref19_Bytes_ok : FnOk Try.prog 15 { args := [.val T25], res := [((.sl (.int .u8)), .full), (.bool, .view)], f := reticuleref19_Bytes } :=
  fn_ok reticuleref19_Bytes_Eok Try.func15 rfl (by kernel_rfl) (by kernel_rfl) (by kernel_rfl) (rs := [.tmp 2 ((.sl (.int .u8)), .full), .tmp 3 (.bool, .view)]) (c := bd Try.f15) (an := reticuleref19_Bytes_an) (show obF reticuleref19_Bytes_E 71 (bd Try.f15) [.val T25] [.tmp 2 ((.sl (.int .u8)), .full), .tmp 3 (.bool, .view)] reticuleref19_Bytes_an from (And.intro trivial (And.intro (And.intro trivial (And.intro (And.intro trivial trivial) trivial)) (And.intro trivial (And.intro trivial (And.intro trivial (And.intro trivial (And.intro (And.intro trivial (And.intro trivial trivial)) (And.intro trivial (And.intro trivial (And.intro (And.intro trivial (And.intro (fun _ => rfl) (And.intro (fun n j => by kernel_rfl) (fun n => (And.intro (And.intro trivial (And.intro trivial trivial)) (And.intro trivial trivial)))))) (And.intro trivial trivial)))))))))))) reticuleref19_Bytes_eq
/-! reticulelaw19_CbwWrites: function 4 -/
noncomputable def reticulelaw19_CbwWrites_fns : List (Nat × Fun) := [(8, { args := [], res := [(.bool, .view)], f := reticulelaw19_alive }), (14, { args := [.val T25], res := [((.sl (.int .u8)), .full), (.bool, .view)], f := cbw_Bytes }), (15, { args := [.val T25], res := [((.sl (.int .u8)), .full), (.bool, .view)], f := reticuleref19_Bytes }), (16, { args := [.val T25, .val T25], res := [(.bool, .view)], f := cbw_Same }), (11, { args := [.val T25, .val T25], res := [(.bool, .view)], f := reticuleref19_Same })]
noncomputable def reticulelaw19_CbwWrites_E : Env := { ty := Re.look tyTab, eq := fun n => memB n [], fn := Re.look reticulelaw19_CbwWrites_fns, cut := fun n => memB n [], win := fun n => memB n [], parr := Re.look [] }
noncomputable def reticulelaw19_CbwWrites_an : An (Ds ((([.tmp 4 (.bool, .view)] : List RV).map RV.pm).map (·.1) ++ ioTys [.val T25, .val T25])) :=
(.seq (.rg [] none)
(.seq (.seq (.rg [] none)
(.cond (.seq (.rg [] none)
.leaf) .leaf))
(.seq (.seq (.rg [] (some (.op ⟨[32], []⟩ (.op ⟨[32], []⟩ (.op ⟨[], []⟩ (.op ⟨[], []⟩ (.op ⟨[], []⟩ (.split 15 [(20, .bool)] (.op ⟨[48], []⟩ (.op ⟨[48], []⟩ (.op ⟨[], []⟩ (.op ⟨[], []⟩ (.op ⟨[], []⟩ .done))))) .done))))))))
(.cond (.seq (.rg [] none)
.leaf) .leaf))
(.seq (.rg [] none)
(.seq (.rg [] none)
(.seq (.rg [] (some (.op ⟨[], []⟩ (.op ⟨[368], []⟩ (.op ⟨[], []⟩ (.op ⟨[448], []⟩ (.op ⟨[], []⟩ (.op ⟨[], []⟩ (.split 36 [(40, .bool)] (.op ⟨[], []⟩ (.op ⟨[], []⟩ (.op ⟨[], []⟩ (.op ⟨[], []⟩ .done)))) (.op ⟨[], []⟩ (.split 41 [(49, .bool)] (.op ⟨[32], []⟩ (.op ⟨[48], []⟩ (.op ⟨[704], []⟩ (.op ⟨[32], []⟩ (.op ⟨[48], []⟩ (.op ⟨[752], []⟩ (.op ⟨[], []⟩ (.op ⟨[], []⟩ .done)))))))) (.op ⟨[], []⟩ (.split 50 [(54, .bool)] (.op ⟨[32], []⟩ (.op ⟨[32], []⟩ (.op ⟨[848], []⟩ (.op ⟨[], []⟩ .done)))) (.op ⟨[], []⟩ .done))))))))))))))
.leaf))))))
theorem reticulelaw19_CbwWrites_Eok : EnvOk Try.prog reticulelaw19_CbwWrites_E := env_ok tab_ok (by simp) (allFn_mem (show AllFn Try.prog reticulelaw19_CbwWrites_fns from ⟨reticulelaw19_alive_ok, cbw_Bytes_ok, reticuleref19_Bytes_ok, cbw_Same_ok, reticuleref19_Same_ok, trivial⟩)) mixed (by kernel_rfl)
theorem reticulelaw19_CbwWrites_eq (x : (BitVec 32 × (BitVec 32 × (Bool × (Int × (List (BitVec 8) × Unit))))) × (BitVec 32 × (BitVec 32 × (Bool × (Int × (List (BitVec 8) × Unit)))))) : evF reticulelaw19_CbwWrites_E 55 (bd Try.f4) [.val T25, .val T25] [.tmp 4 (.bool, .view)] reticulelaw19_CbwWrites_an x = reticulelaw19_CbwWrites x := by kernel_rfl
theorem reticulelaw19_CbwWrites_ok : FnOk Try.prog 4 { args := [.val T25, .val T25], res := [(.bool, .view)], f := reticulelaw19_CbwWrites } :=
  fn_ok reticulelaw19_CbwWrites_Eok Try.func4 rfl (by kernel_rfl) (by kernel_rfl) (by kernel_rfl) (rs := [.tmp 4 (.bool, .view)]) (c := bd Try.f4) (an := reticulelaw19_CbwWrites_an) (ob_flat _ _ _ _ _ _ _ (by kernel_rfl)) reticulelaw19_CbwWrites_eq
/-! reticuleref19_ReadStatus: function 18 -/
noncomputable def reticuleref19_ReadStatus_fns : List (Nat × Fun) := [(24, { args := [.val (.sl (.int .u8)), .val (.int .i64)], res := [((.int .u32), .view)], f := reticuleref19_four })]
noncomputable def reticuleref19_ReadStatus_E : Env := { ty := Re.look tyTab, eq := fun n => memB n [], fn := Re.look reticuleref19_ReadStatus_fns, cut := fun n => memB n [], win := fun n => memB n [], parr := Re.look [] }
noncomputable def reticuleref19_ReadStatus_an : An (Ds ((([.cell 2 T34, .tmp 3 (.bool, .view)] : List RV).map RV.pm).map (·.1) ++ ioTys [.val (.sl (.int .u8))])) :=
(.seq (.rg [] none)
(.seq (.seq (.rg [] (some (.op ⟨[], []⟩ (.op ⟨[], []⟩ (.op ⟨[], []⟩ (.op ⟨[], []⟩ (.split 7 [(12, .bool)] (.op ⟨[], []⟩ (.op ⟨[], []⟩ (.op ⟨[], []⟩ (.op ⟨[], []⟩ (.op ⟨[], []⟩ .done))))) (.op ⟨[], []⟩ (.split 13 [(18, .bool)] (.op ⟨[], []⟩ (.op ⟨[], []⟩ (.op ⟨[], []⟩ (.op ⟨[], []⟩ (.op ⟨[], []⟩ .done))))) .done)))))))))
(.cond (.seq (.rg [] none)
.leaf) .leaf))
(.seq (.rg [] (some (.op ⟨[], []⟩ (.op ⟨[336], []⟩ (.op ⟨[], []⟩ (.op ⟨[368], []⟩ (.op ⟨[], []⟩ (.op ⟨[], []⟩ (.op ⟨[], []⟩ (.op ⟨[], []⟩ (.op ⟨[], []⟩ (.op ⟨[32], [32]⟩ (.op ⟨[], []⟩ .done)))))))))))))
.leaf)))
theorem reticuleref19_ReadStatus_Eok : EnvOk Try.prog reticuleref19_ReadStatus_E := env_ok tab_ok (by simp) (allFn_mem (show AllFn Try.prog reticuleref19_ReadStatus_fns from ⟨reticuleref19_four_ok, trivial⟩)) mixed (by kernel_rfl)
theorem reticuleref19_ReadStatus_eq (x : (List (BitVec 8))) : evF reticuleref19_ReadStatus_E 29 (bd Try.f18) [.val (.sl (.int .u8))] [.cell 2 T34, .tmp 3 (.bool, .view)] reticuleref19_ReadStatus_an x = reticuleref19_ReadStatus x := by kernel_rfl
theorem reticuleref19_ReadStatus_ok : FnOk Try.prog 18 { args := [.val (.sl (.int .u8))], res := [(T34, .view), (.bool, .view)], f := reticuleref19_ReadStatus } :=
  fn_ok reticuleref19_ReadStatus_Eok Try.func18 rfl (by kernel_rfl) (by kernel_rfl) (by kernel_rfl) (rs := [.cell 2 T34, .tmp 3 (.bool, .view)]) (c := bd Try.f18) (an := reticuleref19_ReadStatus_an) (ob_flat _ _ _ _ _ _ _ (by kernel_rfl)) reticuleref19_ReadStatus_eq
/-! reticuleref19_Status: function 20 -/
noncomputable def reticuleref19_Status_fns : List (Nat × Fun) := [(28, { args := [.val (.int .u64), .val (.int .i64)], res := [((.sl (.int .u8)), .full)], f := reticuleref01_PutLittle })]
noncomputable def reticuleref19_Status_E : Env := { ty := Re.look tyTab, eq := fun n => memB n [], fn := Re.look reticuleref19_Status_fns, cut := fun n => memB n [], win := fun n => memB n [], parr := Re.look [] }
noncomputable def reticuleref19_Status_an : An (Ds ((([.tmp 2 ((.sl (.int .u8)), .full)] : List RV).map RV.pm).map (·.1) ++ ioTys [.val T34])) :=
(.seq (.rg [] none)
(.seq (.rg [] none)
(.seq (.rg [] none)
(.seq (.rg [] none)
(.seq (.rg [] none)
.leaf)))))
theorem reticuleref19_Status_Eok : EnvOk Try.prog reticuleref19_Status_E := env_ok tab_ok (by simp) (allFn_mem (show AllFn Try.prog reticuleref19_Status_fns from ⟨reticuleref01_PutLittle_ok, trivial⟩)) mixed (by kernel_rfl)
theorem reticuleref19_Status_eq (x : (BitVec 32 × (BitVec 32 × (Int × Unit)))) : evF reticuleref19_Status_E 25 (bd Try.f20) [.val T34] [.tmp 2 ((.sl (.int .u8)), .full)] reticuleref19_Status_an x = reticuleref19_Status x := by kernel_rfl
theorem reticuleref19_Status_ok : FnOk Try.prog 20 { args := [.val T34], res := [((.sl (.int .u8)), .full)], f := reticuleref19_Status } :=
  fn_ok reticuleref19_Status_Eok Try.func20 rfl (by kernel_rfl) (by kernel_rfl) (by kernel_rfl) (rs := [.tmp 2 ((.sl (.int .u8)), .full)]) (c := bd Try.f20) (an := reticuleref19_Status_an) (ob_flat _ _ _ _ _ _ _ (by kernel_rfl)) reticuleref19_Status_eq
/-! reticulelaw19_CbwStatus: function 5 -/
noncomputable def reticulelaw19_CbwStatus_fns : List (Nat × Fun) := [(8, { args := [], res := [(.bool, .view)], f := reticulelaw19_alive }), (17, { args := [.val (.sl (.int .u8))], res := [(T34, .view), (.bool, .view)], f := cbw_ReadStatus }), (18, { args := [.val (.sl (.int .u8))], res := [(T34, .view), (.bool, .view)], f := reticuleref19_ReadStatus }), (19, { args := [.val T34], res := [((.sl (.int .u8)), .full)], f := cbw_Status }), (20, { args := [.val T34], res := [((.sl (.int .u8)), .full)], f := reticuleref19_Status })]
noncomputable def reticulelaw19_CbwStatus_E : Env := { ty := Re.look tyTab, eq := fun n => memB n [35], fn := Re.look reticulelaw19_CbwStatus_fns, cut := fun n => memB n [], win := fun n => memB n [], parr := Re.look [] }
noncomputable def reticulelaw19_CbwStatus_an : An (Ds ((([.tmp 4 (.bool, .view)] : List RV).map RV.pm).map (·.1) ++ ioTys [.val T34, .val (.sl (.int .u8))])) :=
(.seq (.rg [] none)
(.seq (.seq (.rg [] none)
(.cond (.seq (.rg [] none)
.leaf) .leaf))
(.seq (.seq (.rg [] none)
(.cond (.seq (.rg [] none)
.leaf) .leaf))
(.seq (.rg [] none)
(.seq (.rg [] none)
(.seq (.rg [] (some (.op ⟨[32], []⟩ (.op ⟨[400], [400]⟩ (.op ⟨[400], []⟩ (.op ⟨[32], []⟩ (.op ⟨[448], [448]⟩ (.op ⟨[448], []⟩ (.op ⟨[], []⟩ (.op ⟨[], []⟩ (.split 31 [(35, .bool)] (.op ⟨[80], []⟩ (.op ⟨[112], []⟩ (.op ⟨[], []⟩ (.op ⟨[], []⟩ .done)))) (.op ⟨[], []⟩ (.split 36 [(40, .bool)] (.op ⟨[], []⟩ (.op ⟨[], []⟩ (.op ⟨[], []⟩ (.op ⟨[], []⟩ .done)))) (.op ⟨[], []⟩ .done))))))))))))))
.leaf))))))
theorem reticulelaw19_CbwStatus_Eok : EnvOk Try.prog reticulelaw19_CbwStatus_E := env_ok tab_ok (by intro t h; simp only [List.mem_cons, List.mem_nil_iff, or_false, List.not_mem_nil] at h; rcases h with rfl <;> exact ⟨by kernel_rfl, by kernel_rfl, by kernel_rfl⟩) (allFn_mem (show AllFn Try.prog reticulelaw19_CbwStatus_fns from ⟨reticulelaw19_alive_ok, cbw_ReadStatus_ok, reticuleref19_ReadStatus_ok, cbw_Status_ok, reticuleref19_Status_ok, trivial⟩)) mixed (by kernel_rfl)
theorem reticulelaw19_CbwStatus_eq (x : (BitVec 32 × (BitVec 32 × (Int × Unit))) × (List (BitVec 8))) : evF reticulelaw19_CbwStatus_E 41 (bd Try.f5) [.val T34, .val (.sl (.int .u8))] [.tmp 4 (.bool, .view)] reticulelaw19_CbwStatus_an x = reticulelaw19_CbwStatus x := by kernel_rfl
theorem reticulelaw19_CbwStatus_ok : FnOk Try.prog 5 { args := [.val T34, .val (.sl (.int .u8))], res := [(.bool, .view)], f := reticulelaw19_CbwStatus } :=
  fn_ok reticulelaw19_CbwStatus_Eok Try.func5 rfl (by kernel_rfl) (by kernel_rfl) (by kernel_rfl) (rs := [.tmp 4 (.bool, .view)]) (c := bd Try.f5) (an := reticulelaw19_CbwStatus_an) (ob_flat _ _ _ _ _ _ _ (by kernel_rfl)) reticulelaw19_CbwStatus_eq
/-! reticulelaw19_CbwBack: function 6 -/
noncomputable def reticulelaw19_CbwBack_fns : List (Nat × Fun) := [(8, { args := [], res := [(.bool, .view)], f := reticulelaw19_alive }), (14, { args := [.val T25], res := [((.sl (.int .u8)), .full), (.bool, .view)], f := cbw_Bytes }), (9, { args := [.val (.sl (.int .u8)), .val (.int .i64)], res := [(T25, .view), (.bool, .view)], f := cbw_Read }), (11, { args := [.val T25, .val T25], res := [(.bool, .view)], f := reticuleref19_Same }), (19, { args := [.val T34], res := [((.sl (.int .u8)), .full)], f := cbw_Status }), (17, { args := [.val (.sl (.int .u8))], res := [(T34, .view), (.bool, .view)], f := cbw_ReadStatus })]
noncomputable def reticulelaw19_CbwBack_E : Env := { ty := Re.look tyTab, eq := fun n => memB n [35], fn := Re.look reticulelaw19_CbwBack_fns, cut := fun n => memB n [], win := fun n => memB n [], parr := Re.look [] }
noncomputable def reticulelaw19_CbwBack_an : An (Ds ((([.tmp 6 (.bool, .view)] : List RV).map RV.pm).map (·.1) ++ ioTys [.val T25, .val T34, .val (.int .i64)])) :=
(.seq (.rg [] none)
(.seq (.seq (.rg [] none)
(.cond (.seq (.rg [] none)
.leaf) .leaf))
(.seq (.seq (.rg [] none)
(.cond (.seq (.rg [] none)
.leaf) .leaf))
(.seq (.rg [] none)
(.join [.box 4 T34]
(.seq (.rg [] none)
(.cond (.seq (.rg [] none)
(.seq (.rg [] (some (.op ⟨[], []⟩ (.op ⟨[48], []⟩ (.op ⟨[48], []⟩ (.op ⟨[], []⟩ (.op ⟨[], []⟩ (.op ⟨[], []⟩ (.op ⟨[], []⟩ (.split 37 [(45, .bool)] (.op ⟨[], []⟩ (.op ⟨[], []⟩ (.split 39 [(44, .bool)] (.op ⟨[48], []⟩ (.op ⟨[144], []⟩ (.op ⟨[672], []⟩ (.op ⟨[], []⟩ (.op ⟨[], []⟩ .done))))) (.op ⟨[], []⟩ .done)))) .done))))))))))
(.cond (.seq (.rg [] none)
.leaf) .leaf))) .leaf))
(.seq (.rg [] none)
(.seq (.seq (.rg [] (some (.op ⟨[64], []⟩ (.op ⟨[64], []⟩ (.op ⟨[], []⟩ (.op ⟨[], []⟩ (.split 55 [(59, .bool)] (.op ⟨[64], []⟩ (.op ⟨[64], []⟩ (.op ⟨[], []⟩ (.op ⟨[], []⟩ .done)))) .done)))))))
(.cond (.seq (.rg [] (some (.op ⟨[], []⟩ (.op ⟨[], []⟩ (.split 61 [(65, .bool)] (.op ⟨[176], []⟩ (.op ⟨[64], []⟩ (.op ⟨[], []⟩ (.op ⟨[], []⟩ .done)))) (.op ⟨[], []⟩ .done))))))
.leaf) .leaf))
(.seq (.rg [] (some (.op ⟨[], []⟩ (.op ⟨[], []⟩ (.op ⟨[], []⟩ (.split 68 [(89, .bool)] (.op ⟨[176], []⟩ (.op ⟨[176], []⟩ (.op ⟨[64], []⟩ (.op ⟨[64], []⟩ (.op ⟨[], []⟩ (.op ⟨[], []⟩ (.split 74 [(80, .bool)] (.op ⟨[176], []⟩ (.op ⟨[176], []⟩ (.op ⟨[64], []⟩ (.op ⟨[64], []⟩ (.op ⟨[], []⟩ (.op ⟨[], []⟩ .done)))))) (.op ⟨[], []⟩ (.split 81 [(88, .bool)] (.op ⟨[176], []⟩ (.op ⟨[176], []⟩ (.op ⟨[64], []⟩ (.op ⟨[64], []⟩ (.op ⟨[], []⟩ (.op ⟨[], []⟩ (.op ⟨[], []⟩ .done))))))) (.op ⟨[], []⟩ .done)))))))))) (.op ⟨[], []⟩ .done)))))))
.leaf))))))))
theorem reticulelaw19_CbwBack_Eok : EnvOk Try.prog reticulelaw19_CbwBack_E := env_ok tab_ok (by intro t h; simp only [List.mem_cons, List.mem_nil_iff, or_false, List.not_mem_nil] at h; rcases h with rfl <;> exact ⟨by kernel_rfl, by kernel_rfl, by kernel_rfl⟩) (allFn_mem (show AllFn Try.prog reticulelaw19_CbwBack_fns from ⟨reticulelaw19_alive_ok, cbw_Bytes_ok, cbw_Read_ok, reticuleref19_Same_ok, cbw_Status_ok, cbw_ReadStatus_ok, trivial⟩)) mixed (by kernel_rfl)
theorem reticulelaw19_CbwBack_eq (x : (BitVec 32 × (BitVec 32 × (Bool × (Int × (List (BitVec 8) × Unit))))) × (BitVec 32 × (BitVec 32 × (Int × Unit))) × Int) : evF reticulelaw19_CbwBack_E 90 (bd Try.f6) [.val T25, .val T34, .val (.int .i64)] [.tmp 6 (.bool, .view)] reticulelaw19_CbwBack_an x = reticulelaw19_CbwBack x := by kernel_rfl
theorem reticulelaw19_CbwBack_ok : FnOk Try.prog 6 { args := [.val T25, .val T34, .val (.int .i64)], res := [(.bool, .view)], f := reticulelaw19_CbwBack } :=
  fn_ok reticulelaw19_CbwBack_Eok Try.func6 rfl (by kernel_rfl) (by kernel_rfl) (by kernel_rfl) (rs := [.tmp 6 (.bool, .view)]) (c := bd Try.f6) (an := reticulelaw19_CbwBack_an) (ob_flat _ _ _ _ _ _ _ (by kernel_rfl)) reticulelaw19_CbwBack_eq
/-! reticuleref01_Join: function 21 -/
noncomputable def reticuleref01_Join_fns : List (Nat × Fun) := []
noncomputable def reticuleref01_Join_E : Env := { ty := Re.look tyTab, eq := fun n => memB n [], fn := Re.look reticuleref01_Join_fns, cut := fun n => memB n [], win := fun n => memB n [], parr := Re.look [] }
noncomputable def reticuleref01_Join_an : An (Ds ((([.tmp 4 ((.sl (.int .u8)), .full)] : List RV).map RV.pm).map (·.1) ++ ioTys [.val (.sl (.int .u8)), .val (.sl (.int .u8))])) :=
(.seq (.rg [] none)
(.seq (.rg [] none)
.leaf))
theorem reticuleref01_Join_Eok : EnvOk Try.prog reticuleref01_Join_E := env_ok tab_ok (by simp) (allFn_mem (show AllFn Try.prog reticuleref01_Join_fns from trivial)) mixed (by kernel_rfl)
theorem reticuleref01_Join_eq (x : (List (BitVec 8)) × (List (BitVec 8))) : evF reticuleref01_Join_E 10 (bd Try.f21) [.val (.sl (.int .u8)), .val (.sl (.int .u8))] [.tmp 4 ((.sl (.int .u8)), .full)] reticuleref01_Join_an x = reticuleref01_Join x := by kernel_rfl
theorem reticuleref01_Join_ok : FnOk Try.prog 21 { args := [.val (.sl (.int .u8)), .val (.sl (.int .u8))], res := [((.sl (.int .u8)), .full)], f := reticuleref01_Join } :=
  fn_ok reticuleref01_Join_Eok Try.func21 rfl (by kernel_rfl) (by kernel_rfl) (by kernel_rfl) (rs := [.tmp 4 ((.sl (.int .u8)), .full)]) (c := bd Try.f21) (an := reticuleref01_Join_an) (ob_flat _ _ _ _ _ _ _ (by kernel_rfl)) reticuleref01_Join_eq
/-! reticulelaw19_CbwTurned: function 7 -/
noncomputable def reticulelaw19_CbwTurned_fns : List (Nat × Fun) := [(8, { args := [], res := [(.bool, .view)], f := reticulelaw19_alive }), (14, { args := [.val T25], res := [((.sl (.int .u8)), .full), (.bool, .view)], f := cbw_Bytes }), (21, { args := [.val (.sl (.int .u8)), .val (.sl (.int .u8))], res := [((.sl (.int .u8)), .full)], f := reticuleref01_Join }), (9, { args := [.val (.sl (.int .u8)), .val (.int .i64)], res := [(T25, .view), (.bool, .view)], f := cbw_Read }), (11, { args := [.val T25, .val T25], res := [(.bool, .view)], f := reticuleref19_Same })]
noncomputable def reticulelaw19_CbwTurned_E : Env := { ty := Re.look tyTab, eq := fun n => memB n [], fn := Re.look reticulelaw19_CbwTurned_fns, cut := fun n => memB n [], win := fun n => memB n [], parr := Re.look [] }
noncomputable def reticulelaw19_CbwTurned_an : An (Ds ((([.tmp 6 (.bool, .view)] : List RV).map RV.pm).map (·.1) ++ ioTys [.val T25, .val (.int .u8), .val (.int .u8)])) :=
(.seq (.rg [] none)
(.seq (.seq (.rg [] none)
(.cond (.seq (.rg [] none)
.leaf) .leaf))
(.seq (.seq (.rg [] (some (.op ⟨[48], []⟩ (.op ⟨[48], []⟩ (.op ⟨[], []⟩ (.op ⟨[], []⟩ (.op ⟨[], []⟩ (.split 19 [(22, .bool)] (.op ⟨[], []⟩ (.op ⟨[], []⟩ (.op ⟨[], []⟩ .done))) .done))))))))
(.cond (.seq (.rg [] none)
.leaf) .leaf))
(.seq (.rg [] none)
(.seq (.seq (.rg [] (some (.op ⟨[], []⟩ (.op ⟨[], []⟩ (.op ⟨[], []⟩ (.split 30 [(34, .bool)] (.op ⟨[], []⟩ (.op ⟨[400], []⟩ (.op ⟨[], []⟩ (.op ⟨[], []⟩ .done)))) .done))))))
(.cond (.seq (.rg [] (some (.op ⟨[], []⟩ (.op ⟨[], []⟩ (.op ⟨[], []⟩ (.split 37 [(41, .bool)] (.op ⟨[], []⟩ (.op ⟨[400], []⟩ (.op ⟨[], []⟩ (.op ⟨[], []⟩ .done)))) (.op ⟨[], []⟩ .done)))))))
.leaf) .leaf))
(.seq (.rg [] none)
(.seq (.rg [] none)
(.seq (.rg [] none)
(.seq (.rg [] none)
(.seq (.seq (.rg [] none)
(.cond (.seq (.rg [] (some (.op ⟨[], []⟩ (.op ⟨[], []⟩ (.split 68 [(72, .bool)] (.op ⟨[48], []⟩ (.op ⟨[176], []⟩ (.op ⟨[1136], []⟩ (.op ⟨[], []⟩ .done)))) (.op ⟨[], []⟩ .done))))))
.leaf) .leaf))
(.seq (.rg [] (some (.op ⟨[], []⟩ (.op ⟨[], []⟩ (.op ⟨[], []⟩ (.split 75 [(80, .bool)] (.op ⟨[48], []⟩ (.op ⟨[176], []⟩ (.op ⟨[1248], []⟩ (.op ⟨[], []⟩ (.op ⟨[], []⟩ .done))))) (.op ⟨[], []⟩ .done)))))))
.leaf)))))))))))
theorem reticulelaw19_CbwTurned_Eok : EnvOk Try.prog reticulelaw19_CbwTurned_E := env_ok tab_ok (by simp) (allFn_mem (show AllFn Try.prog reticulelaw19_CbwTurned_fns from ⟨reticulelaw19_alive_ok, cbw_Bytes_ok, reticuleref01_Join_ok, cbw_Read_ok, reticuleref19_Same_ok, trivial⟩)) mixed (by kernel_rfl)
theorem reticulelaw19_CbwTurned_eq (x : (BitVec 32 × (BitVec 32 × (Bool × (Int × (List (BitVec 8) × Unit))))) × (BitVec 8) × (BitVec 8)) : evF reticulelaw19_CbwTurned_E 81 (bd Try.f7) [.val T25, .val (.int .u8), .val (.int .u8)] [.tmp 6 (.bool, .view)] reticulelaw19_CbwTurned_an x = reticulelaw19_CbwTurned x := by kernel_rfl
theorem reticulelaw19_CbwTurned_ok : FnOk Try.prog 7 { args := [.val T25, .val (.int .u8), .val (.int .u8)], res := [(.bool, .view)], f := reticulelaw19_CbwTurned } :=
  fn_ok reticulelaw19_CbwTurned_Eok Try.func7 rfl (by kernel_rfl) (by kernel_rfl) (by kernel_rfl) (rs := [.tmp 6 (.bool, .view)]) (c := bd Try.f7) (an := reticulelaw19_CbwTurned_an) (ob_flat _ _ _ _ _ _ _ (by kernel_rfl)) reticulelaw19_CbwTurned_eq
end Go.Proofs.Ytkceolaolmfeaaa
