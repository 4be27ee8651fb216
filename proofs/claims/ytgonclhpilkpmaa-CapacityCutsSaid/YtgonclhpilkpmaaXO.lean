/- Each function does what its plain one tells. Printed by the session's own program. -/
import Derived.Test.YtgonclhpilkpmaaXT
import Derived.Test.YtgonclhpilkpmaaXF
namespace Go.Proofs.Ytgonclhpilkpmaa
open Go Go.Re
set_option linter.unusedVariables false
set_option linter.unusedSimpArgs false
set_option maxRecDepth 100000
/-! number_PutLittle: function 21 -/
noncomputable def number_PutLittle_fns : List (Nat × Fun) := []
noncomputable def number_PutLittle_E : Env := { ty := Re.look tyTab, eq := fun n => memB n [], fn := Re.look number_PutLittle_fns, cut := fun n => memB n [], win := fun n => memB n [], parr := Re.look [] }
noncomputable def number_PutLittle_an : An (Ds ((([.tmp 4 ((.sl (.int .u8)), .full)] : List RV).map RV.pm).map (·.1) ++ ioTys [.val (.int .u64), .val (.int .i64)])) :=
(.seq (.rg [] none)
(.seq (.seq (.rg [] (some (.op ⟨[], []⟩ (.op ⟨[], []⟩ (.op ⟨[], []⟩ (.split 7 [(10, .bool)] (.op ⟨[], []⟩ (.op ⟨[], []⟩ (.op ⟨[], []⟩ .done))) .done))))))
(.cond (.seq (.rg [] none)
.leaf) .leaf))
(.seq (.seq (.rg [] none)
(.loop [.val 0 (.int .u64), .row 4 (.int .u8) .full, .val 11 (.int .i64), .val 12 (.int .i64)] [.row 4 (.int .u8) .full] number_PutLittle_L0
(.seq (.rg [] none)
(.seq (.cond .leaf .leaf)
(.seq (.block (.seq (.rg [] none)
(.rg [] none)))
(.rg [] none))))))
(.seq (.rg [] none)
.leaf))))
theorem number_PutLittle_Eok : EnvOk Try.prog number_PutLittle_E := env_ok tab_ok (by simp) (allFn_mem (show AllFn Try.prog number_PutLittle_fns from trivial)) mixed (by kernel_rfl)
theorem number_PutLittle_eq (x : (BitVec 64) × Int) : evF number_PutLittle_E 23 (bd Try.f21) [.val (.int .u64), .val (.int .i64)] [.tmp 4 ((.sl (.int .u8)), .full)] number_PutLittle_an x = number_PutLittle x := by kernel_rfl
theorem number_PutLittle_ok : FnOk Try.prog 21 { args := [.val (.int .u64), .val (.int .i64)], res := [((.sl (.int .u8)), .full)], f := number_PutLittle } :=
  fn_ok number_PutLittle_Eok Try.func21 rfl (by kernel_rfl) (by kernel_rfl) (by kernel_rfl) (rs := [.tmp 4 ((.sl (.int .u8)), .full)]) (c := bd Try.f21) (an := number_PutLittle_an) (show obF number_PutLittle_E 23 (bd Try.f21) [.val (.int .u64), .val (.int .i64)] [.tmp 4 ((.sl (.int .u8)), .full)] number_PutLittle_an from (And.intro trivial (And.intro (And.intro trivial (And.intro (And.intro trivial trivial) trivial)) (And.intro (And.intro trivial (And.intro (fun _ => rfl) (And.intro (fun n j => by kernel_rfl) (fun n => (And.intro trivial (And.intro (And.intro trivial trivial) (And.intro (And.intro trivial trivial) trivial))))))) (And.intro trivial trivial))))) number_PutLittle_eq
/-! slices_Reverse_byte: function 22 -/
noncomputable def slices_Reverse_byte_fns : List (Nat × Fun) := []
noncomputable def slices_Reverse_byte_E : Env := { ty := Re.look tyTab, eq := fun n => memB n [], fn := Re.look slices_Reverse_byte_fns, cut := fun n => memB n [], win := fun n => memB n [], parr := Re.look [] }
noncomputable def slices_Reverse_byte_an : An (Ds ((([] : List RV).map RV.pm).map (·.1) ++ ioTys [.row (.int .u8)])) :=
(.seq (.rg [] none)
(.loop [.prow 0 (.int .u8), .val 2 (.int .i64), .val 3 (.int .i64)] [.prow 0 (.int .u8)] slices_Reverse_byte_L0
(.seq (.seq (.rg [] none)
(.cond .leaf .leaf))
(.seq (.block (.rg [] (some (.op ⟨[], []⟩ (.op ⟨[], []⟩ (.op ⟨[], []⟩ (.op ⟨[], []⟩ (.op ⟨[], []⟩ (.op ⟨[], []⟩ (.op ⟨[0], []⟩ (.op ⟨[0], []⟩ (.op ⟨[], []⟩ (.op ⟨[], []⟩ (.op ⟨[0], []⟩ (.op ⟨[0], []⟩ (.op ⟨[0], []⟩ (.op ⟨[0], [0]⟩ (.op ⟨[0], []⟩ (.op ⟨[0], [0]⟩ .done)))))))))))))))))))
(.rg [] none)))))
theorem slices_Reverse_byte_Eok : EnvOk Try.prog slices_Reverse_byte_E := env_ok tab_ok (by simp) (allFn_mem (show AllFn Try.prog slices_Reverse_byte_fns from trivial)) mixed (by kernel_rfl)
theorem slices_Reverse_byte_eq (x : (List (BitVec 8))) : evF slices_Reverse_byte_E 28 (bd Try.f22) [.row (.int .u8)] [] slices_Reverse_byte_an x = slices_Reverse_byte x := by kernel_rfl
theorem slices_Reverse_byte_ok : FnOk Try.prog 22 { args := [.row (.int .u8)], res := [], f := slices_Reverse_byte } :=
  fn_ok slices_Reverse_byte_Eok Try.func22 rfl (by kernel_rfl) (by kernel_rfl) (by kernel_rfl) (rs := []) (c := bd Try.f22) (an := slices_Reverse_byte_an) (show obF slices_Reverse_byte_E 28 (bd Try.f22) [.row (.int .u8)] [] slices_Reverse_byte_an from (And.intro trivial (And.intro (fun _ => rfl) (And.intro (fun n j => by kernel_rfl) (fun n => (And.intro (And.intro trivial (And.intro trivial trivial)) (And.intro trivial trivial))))))) slices_Reverse_byte_eq
/-! number_PutBig: function 19 -/
noncomputable def number_PutBig_fns : List (Nat × Fun) := [(21, { args := [.val (.int .u64), .val (.int .i64)], res := [((.sl (.int .u8)), .full)], f := number_PutLittle }), (22, { args := [.row (.int .u8)], res := [], f := slices_Reverse_byte })]
noncomputable def number_PutBig_E : Env := { ty := Re.look tyTab, eq := fun n => memB n [], fn := Re.look number_PutBig_fns, cut := fun n => memB n [], win := fun n => memB n [], parr := Re.look [] }
noncomputable def number_PutBig_an : An (Ds ((([.tmp 4 ((.sl (.int .u8)), .full)] : List RV).map RV.pm).map (·.1) ++ ioTys [.val (.int .u64), .val (.int .i64)])) :=
(.seq (.rg [] none)
(.seq (.rg [] none)
(.seq (.rg [] none)
(.seq (.rg [] none)
.leaf))))
theorem number_PutBig_Eok : EnvOk Try.prog number_PutBig_E := env_ok tab_ok (by simp) (allFn_mem (show AllFn Try.prog number_PutBig_fns from ⟨number_PutLittle_ok, slices_Reverse_byte_ok, trivial⟩)) mixed (by kernel_rfl)
theorem number_PutBig_eq (x : (BitVec 64) × Int) : evF number_PutBig_E 12 (bd Try.f19) [.val (.int .u64), .val (.int .i64)] [.tmp 4 ((.sl (.int .u8)), .full)] number_PutBig_an x = number_PutBig x := by kernel_rfl
theorem number_PutBig_ok : FnOk Try.prog 19 { args := [.val (.int .u64), .val (.int .i64)], res := [((.sl (.int .u8)), .full)], f := number_PutBig } :=
  fn_ok number_PutBig_Eok Try.func19 rfl (by kernel_rfl) (by kernel_rfl) (by kernel_rfl) (rs := [.tmp 4 ((.sl (.int .u8)), .full)]) (c := bd Try.f19) (an := number_PutBig_an) (ob_flat _ _ _ _ _ _ _ (by kernel_rfl)) number_PutBig_eq
/-! slices_Grow_byte: function 20 -/
noncomputable def slices_Grow_byte_fns : List (Nat × Fun) := []
noncomputable def slices_Grow_byte_E : Env := { ty := Re.look tyTab, eq := fun n => memB n [], fn := Re.look slices_Grow_byte_fns, cut := fun n => memB n [25], win := fun n => memB n [], parr := Re.look [] }
noncomputable def slices_Grow_byte_an : An (Ds ((([.tmp 4 ((.sl (.int .u8)), .full)] : List RV).map RV.pm).map (·.1) ++ ioTys [.nils (.int .u8), .val (.int .i64)])) :=
(.seq (.rg [] none)
(.seq (.seq (.rg [] none)
(.cond .leaf .leaf))
(.join [.row 0 (.int .u8) .full]
(.seq (.rg [] none)
(.seq (.rg [] none)
(.cond (.rg [] none) .leaf)))
(.seq (.rg [] none)
.leaf))))
theorem slices_Grow_byte_Eok : EnvOk Try.prog slices_Grow_byte_E := env_ok tab_ok (by simp) (allFn_mem (show AllFn Try.prog slices_Grow_byte_fns from trivial)) mixed (by kernel_rfl)
theorem slices_Grow_byte_eq (x : Unit × Int) : evF slices_Grow_byte_E 27 (bd Try.f20) [.nils (.int .u8), .val (.int .i64)] [.tmp 4 ((.sl (.int .u8)), .full)] slices_Grow_byte_an x = slices_Grow_byte x := by kernel_rfl
theorem slices_Grow_byte_ok : FnOk Try.prog 20 { args := [.nils (.int .u8), .val (.int .i64)], res := [((.sl (.int .u8)), .full)], f := slices_Grow_byte } :=
  fn_ok slices_Grow_byte_Eok Try.func20 rfl (by kernel_rfl) (by kernel_rfl) (by kernel_rfl) (rs := [.tmp 4 ((.sl (.int .u8)), .full)]) (c := bd Try.f20) (an := slices_Grow_byte_an) (ob_flat _ _ _ _ _ _ _ (by kernel_rfl)) slices_Grow_byte_eq
/-! slices_Concat_byte: function 17 -/
noncomputable def slices_Concat_byte_fns : List (Nat × Fun) := [(20, { args := [.nils (.int .u8), .val (.int .i64)], res := [((.sl (.int .u8)), .full)], f := slices_Grow_byte })]
noncomputable def slices_Concat_byte_E : Env := { ty := Re.look tyTab, eq := fun n => memB n [], fn := Re.look slices_Concat_byte_fns, cut := fun n => memB n [], win := fun n => memB n [], parr := Re.look [] }
noncomputable def slices_Concat_byte_an : An (Ds ((([.tmp 2 ((.sl (.int .u8)), .full)] : List RV).map RV.pm).map (·.1) ++ ioTys [.val (.sl (.sl (.int .u8)))])) :=
(.seq (.rg [] none)
(.seq (.rg [] none)
(.seq (.seq (.rg [] none)
(.loop [.val 0 (.sl (.sl (.int .u8))), .val 3 (.int .i64), .val 9 (.sl (.sl (.int .u8))), .val 10 (.int .i64), .val 11 (.int .i64)] [.val 0 (.sl (.sl (.int .u8))), .val 3 (.int .i64)] slices_Concat_byte_L0
(.seq (.rg [] none)
(.seq (.cond .leaf .leaf)
(.seq (.block (.seq (.rg [] none)
(.seq (.rg [] none)
(.seq (.rg [] none)
(.cond .leaf .leaf)))))
(.rg [] none))))))
(.seq (.rg [] none)
(.seq (.seq (.rg [] none)
(.loop [.row 6 (.int .u8) .full, .val 25 (.sl (.sl (.int .u8))), .val 26 (.int .i64), .val 27 (.int .i64)] [.row 6 (.int .u8) .full] slices_Concat_byte_L1
(.seq (.rg [] none)
(.seq (.cond .leaf .leaf)
(.seq (.block (.seq (.rg [] none)
(.rg [] none)))
(.rg [] none))))))
(.seq (.rg [] none)
.leaf))))))
theorem slices_Concat_byte_Eok : EnvOk Try.prog slices_Concat_byte_E := env_ok tab_ok (by simp) (allFn_mem (show AllFn Try.prog slices_Concat_byte_fns from ⟨slices_Grow_byte_ok, trivial⟩)) mixed (by kernel_rfl)
theorem slices_Concat_byte_eq (x : (List (List (BitVec 8)))) : evF slices_Concat_byte_E 36 (bd Try.f17) [.val (.sl (.sl (.int .u8)))] [.tmp 2 ((.sl (.int .u8)), .full)] slices_Concat_byte_an x = slices_Concat_byte x := by kernel_rfl
theorem slices_Concat_byte_ok : FnOk Try.prog 17 { args := [.val (.sl (.sl (.int .u8)))], res := [((.sl (.int .u8)), .full)], f := slices_Concat_byte } :=
  fn_ok slices_Concat_byte_Eok Try.func17 rfl (by kernel_rfl) (by kernel_rfl) (by kernel_rfl) (rs := [.tmp 2 ((.sl (.int .u8)), .full)]) (c := bd Try.f17) (an := slices_Concat_byte_an) (show obF slices_Concat_byte_E 36 (bd Try.f17) [.val (.sl (.sl (.int .u8)))] [.tmp 2 ((.sl (.int .u8)), .full)] slices_Concat_byte_an from (And.intro trivial (And.intro trivial (And.intro (And.intro trivial (And.intro (fun _ => rfl) (And.intro (fun n j => by kernel_rfl) (fun n => (And.intro trivial (And.intro (And.intro trivial trivial) (And.intro (And.intro trivial (And.intro trivial (And.intro trivial (And.intro trivial trivial)))) trivial))))))) (And.intro trivial (And.intro (And.intro trivial (And.intro (fun _ => rfl) (And.intro (fun n j => by kernel_rfl) (fun n => (And.intro trivial (And.intro (And.intro trivial trivial) (And.intro (And.intro trivial trivial) trivial))))))) (And.intro trivial trivial))))))) slices_Concat_byte_eq
/-! capacity_told: function 14 -/
noncomputable def capacity_told_fns : List (Nat × Fun) := [(19, { args := [.val (.int .u64), .val (.int .i64)], res := [((.sl (.int .u8)), .full)], f := number_PutBig }), (17, { args := [.val (.sl (.sl (.int .u8)))], res := [((.sl (.int .u8)), .full)], f := slices_Concat_byte })]
noncomputable def capacity_told_E : Env := { ty := Re.look tyTab, eq := fun n => memB n [], fn := Re.look capacity_told_fns, cut := fun n => memB n [], win := fun n => memB n [], parr := Re.look [] }
noncomputable def capacity_told_an : An (Ds ((([.tmp 4 ((.sl (.int .u8)), .full)] : List RV).map RV.pm).map (·.1) ++ ioTys [.val (.int .i64), .val (.int .i64)])) :=
(.seq (.rg [] none)
(.seq (.rg [] none)
.leaf))
theorem capacity_told_Eok : EnvOk Try.prog capacity_told_E := env_ok tab_ok (by simp) (allFn_mem (show AllFn Try.prog capacity_told_fns from ⟨number_PutBig_ok, slices_Concat_byte_ok, trivial⟩)) mixed (by kernel_rfl)
theorem capacity_told_eq (x : Int × Int) : evF capacity_told_E 13 (bd Try.f14) [.val (.int .i64), .val (.int .i64)] [.tmp 4 ((.sl (.int .u8)), .full)] capacity_told_an x = capacity_told x := by kernel_rfl
theorem capacity_told_ok : FnOk Try.prog 14 { args := [.val (.int .i64), .val (.int .i64)], res := [((.sl (.int .u8)), .full)], f := capacity_told } :=
  fn_ok capacity_told_Eok Try.func14 rfl (by kernel_rfl) (by kernel_rfl) (by kernel_rfl) (rs := [.tmp 4 ((.sl (.int .u8)), .full)]) (c := bd Try.f14) (an := capacity_told_an) (ob_flat _ _ _ _ _ _ _ (by kernel_rfl)) capacity_told_eq
/-! capacity_Ten: function 7 -/
noncomputable def capacity_Ten_fns : List (Nat × Fun) := [(14, { args := [.val (.int .i64), .val (.int .i64)], res := [((.sl (.int .u8)), .full)], f := capacity_told })]
noncomputable def capacity_Ten_E : Env := { ty := Re.look tyTab, eq := fun n => memB n [], fn := Re.look capacity_Ten_fns, cut := fun n => memB n [], win := fun n => memB n [], parr := Re.look [] }
noncomputable def capacity_Ten_an : An (Ds ((([.tmp 2 ((.sl (.int .u8)), .full)] : List RV).map RV.pm).map (·.1) ++ ioTys [.val (.int .i64)])) :=
(.seq (.rg [] none)
(.seq (.rg [] none)
.leaf))
theorem capacity_Ten_Eok : EnvOk Try.prog capacity_Ten_E := env_ok tab_ok (by simp) (allFn_mem (show AllFn Try.prog capacity_Ten_fns from ⟨capacity_told_ok, trivial⟩)) mixed (by kernel_rfl)
theorem capacity_Ten_eq (x : Int) : evF capacity_Ten_E 5 (bd Try.f7) [.val (.int .i64)] [.tmp 2 ((.sl (.int .u8)), .full)] capacity_Ten_an x = capacity_Ten x := by kernel_rfl
theorem capacity_Ten_ok : FnOk Try.prog 7 { args := [.val (.int .i64)], res := [((.sl (.int .u8)), .full)], f := capacity_Ten } :=
  fn_ok capacity_Ten_Eok Try.func7 rfl (by kernel_rfl) (by kernel_rfl) (by kernel_rfl) (rs := [.tmp 2 ((.sl (.int .u8)), .full)]) (c := bd Try.f7) (an := capacity_Ten_an) (ob_flat _ _ _ _ _ _ _ (by kernel_rfl)) capacity_Ten_eq
/-! inquiry_Cut: function 16 -/
noncomputable def inquiry_Cut_fns : List (Nat × Fun) := []
noncomputable def inquiry_Cut_E : Env := { ty := Re.look tyTab, eq := fun n => memB n [], fn := Re.look inquiry_Cut_fns, cut := fun n => memB n [], win := fun n => memB n [], parr := Re.look [] }
noncomputable def inquiry_Cut_an : An (Ds ((([.tmp 4 ((.sl (.int .u8)), .tail)] : List RV).map RV.pm).map (·.1) ++ ioTys [.val (.sl (.int .u8)), .val (.int .i64)])) :=
(.seq (.rg [] none)
(.seq (.seq (.rg [] none)
(.cond (.seq (.rg [] none)
.leaf) .leaf))
(.seq (.rg [] none)
.leaf)))
theorem inquiry_Cut_Eok : EnvOk Try.prog inquiry_Cut_E := env_ok tab_ok (by simp) (allFn_mem (show AllFn Try.prog inquiry_Cut_fns from trivial)) mixed (by kernel_rfl)
theorem inquiry_Cut_eq (x : (List (BitVec 8)) × Int) : evF inquiry_Cut_E 17 (bd Try.f16) [.val (.sl (.int .u8)), .val (.int .i64)] [.tmp 4 ((.sl (.int .u8)), .tail)] inquiry_Cut_an x = inquiry_Cut x := by kernel_rfl
theorem inquiry_Cut_ok : FnOk Try.prog 16 { args := [.val (.sl (.int .u8)), .val (.int .i64)], res := [((.sl (.int .u8)), .tail)], f := inquiry_Cut } :=
  fn_ok inquiry_Cut_Eok Try.func16 rfl (by kernel_rfl) (by kernel_rfl) (by kernel_rfl) (rs := [.tmp 4 ((.sl (.int .u8)), .tail)]) (c := bd Try.f16) (an := inquiry_Cut_an) (ob_flat _ _ _ _ _ _ _ (by kernel_rfl)) inquiry_Cut_eq
/-! capacity_Sixteen: function 9 -/
noncomputable def capacity_Sixteen_fns : List (Nat × Fun) := [(14, { args := [.val (.int .i64), .val (.int .i64)], res := [((.sl (.int .u8)), .full)], f := capacity_told }), (17, { args := [.val (.sl (.sl (.int .u8)))], res := [((.sl (.int .u8)), .full)], f := slices_Concat_byte }), (16, { args := [.val (.sl (.int .u8)), .val (.int .i64)], res := [((.sl (.int .u8)), .tail)], f := inquiry_Cut })]
noncomputable def capacity_Sixteen_E : Env := { ty := Re.look tyTab, eq := fun n => memB n [], fn := Re.look capacity_Sixteen_fns, cut := fun n => memB n [], win := fun n => memB n [], parr := Re.look [] }
noncomputable def capacity_Sixteen_an : An (Ds ((([.tmp 4 ((.sl (.int .u8)), .tail)] : List RV).map RV.pm).map (·.1) ++ ioTys [.val (.int .i64), .val (.int .i64)])) :=
(.seq (.rg [] none)
(.seq (.rg [96, 112, 128, 144] (some (.op ⟨[], []⟩ (.op ⟨[96], [96]⟩ (.op ⟨[112], [112]⟩ (.op ⟨[96, 112, 128], [96, 112, 128]⟩ (.op ⟨[128, 144], [128, 144]⟩ (.op ⟨[], []⟩ (.op ⟨[144, 176], [144, 176]⟩ (.op ⟨[], []⟩ .done))))))))))
.leaf))
theorem capacity_Sixteen_Eok : EnvOk Try.prog capacity_Sixteen_E := env_ok tab_ok (by simp) (allFn_mem (show AllFn Try.prog capacity_Sixteen_fns from ⟨capacity_told_ok, slices_Concat_byte_ok, inquiry_Cut_ok, trivial⟩)) mixed (by kernel_rfl)
theorem capacity_Sixteen_eq (x : Int × Int) : evF capacity_Sixteen_E 12 (bd Try.f9) [.val (.int .i64), .val (.int .i64)] [.tmp 4 ((.sl (.int .u8)), .tail)] capacity_Sixteen_an x = capacity_Sixteen x := by kernel_rfl
theorem capacity_Sixteen_ok : FnOk Try.prog 9 { args := [.val (.int .i64), .val (.int .i64)], res := [((.sl (.int .u8)), .tail)], f := capacity_Sixteen } :=
  fn_ok capacity_Sixteen_Eok Try.func9 rfl (by kernel_rfl) (by kernel_rfl) (by kernel_rfl) (rs := [.tmp 4 ((.sl (.int .u8)), .tail)]) (c := bd Try.f9) (an := capacity_Sixteen_an) (ob_flat _ _ _ _ _ _ _ (by kernel_rfl)) capacity_Sixteen_eq
/-! capacity_Luns: function 11 -/
noncomputable def capacity_Luns_fns : List (Nat × Fun) := [(19, { args := [.val (.int .u64), .val (.int .i64)], res := [((.sl (.int .u8)), .full)], f := number_PutBig }), (16, { args := [.val (.sl (.int .u8)), .val (.int .i64)], res := [((.sl (.int .u8)), .tail)], f := inquiry_Cut })]
noncomputable def capacity_Luns_E : Env := { ty := Re.look tyTab, eq := fun n => memB n [], fn := Re.look capacity_Luns_fns, cut := fun n => memB n [], win := fun n => memB n [], parr := Re.look [] }
noncomputable def capacity_Luns_an : An (Ds ((([.tmp 4 ((.sl (.int .u8)), .tail)] : List RV).map RV.pm).map (·.1) ++ ioTys [.val (.int .i64), .val (.int .i64)])) :=
(.seq (.rg [] none)
(.seq (.rg [] none)
(.seq (.rg [] none)
(.seq (.rg [] none)
(.seq (.seq (.rg [] none)
(.loop [.val 1 (.int .i64), .row 6 (.int .u8) .full, .val 21 (.int .i64), .val 22 (.int .i64)] [.val 1 (.int .i64), .row 6 (.int .u8) .full] capacity_Luns_L0
(.seq (.rg [] none)
(.seq (.cond .leaf .leaf)
(.seq (.block (.seq (.rg [] none)
(.rg [] none)))
(.rg [] none))))))
(.seq (.rg [] none)
.leaf))))))
theorem capacity_Luns_Eok : EnvOk Try.prog capacity_Luns_E := env_ok tab_ok (by simp) (allFn_mem (show AllFn Try.prog capacity_Luns_fns from ⟨number_PutBig_ok, inquiry_Cut_ok, trivial⟩)) mixed (by kernel_rfl)
theorem capacity_Luns_eq (x : Int × Int) : evF capacity_Luns_E 37 (bd Try.f11) [.val (.int .i64), .val (.int .i64)] [.tmp 4 ((.sl (.int .u8)), .tail)] capacity_Luns_an x = capacity_Luns x := by kernel_rfl
theorem capacity_Luns_ok : FnOk Try.prog 11 { args := [.val (.int .i64), .val (.int .i64)], res := [((.sl (.int .u8)), .tail)], f := capacity_Luns } :=
  fn_ok capacity_Luns_Eok Try.func11 rfl (by kernel_rfl) (by kernel_rfl) (by kernel_rfl) (rs := [.tmp 4 ((.sl (.int .u8)), .tail)]) (c := bd Try.f11) (an := capacity_Luns_an) (show obF capacity_Luns_E 37 (bd Try.f11) [.val (.int .i64), .val (.int .i64)] [.tmp 4 ((.sl (.int .u8)), .tail)] capacity_Luns_an from (And.intro trivial (And.intro trivial (And.intro trivial (And.intro trivial (And.intro (And.intro trivial (And.intro (fun _ => rfl) (And.intro (fun n j => by kernel_rfl) (fun n => (And.intro trivial (And.intro (And.intro trivial trivial) (And.intro (And.intro trivial trivial) trivial))))))) (And.intro trivial trivial))))))) capacity_Luns_eq
/-! reticulelaw09_alive: function 6 -/
noncomputable def reticulelaw09_alive_fns : List (Nat × Fun) := [(7, { args := [.val (.int .i64)], res := [((.sl (.int .u8)), .full)], f := capacity_Ten }), (9, { args := [.val (.int .i64), .val (.int .i64)], res := [((.sl (.int .u8)), .tail)], f := capacity_Sixteen }), (11, { args := [.val (.int .i64), .val (.int .i64)], res := [((.sl (.int .u8)), .tail)], f := capacity_Luns })]
noncomputable def reticulelaw09_alive_E : Env := { ty := Re.look tyTab, eq := fun n => memB n [], fn := Re.look reticulelaw09_alive_fns, cut := fun n => memB n [], win := fun n => memB n [], parr := Re.look [] }
noncomputable def reticulelaw09_alive_an : An (Ds ((([.tmp 0 (.bool, .view)] : List RV).map RV.pm).map (·.1) ++ ioTys [])) :=
(.seq (.rg [] none)
(.seq (.rg [] (some (.op ⟨[16], [16]⟩ (.op ⟨[16], []⟩ (.op ⟨[], []⟩ (.op ⟨[], []⟩ (.split 4 [(8, .bool)] (.op ⟨[80], [80]⟩ (.op ⟨[80], []⟩ (.op ⟨[], []⟩ (.op ⟨[], []⟩ .done)))) (.op ⟨[], []⟩ (.split 9 [(13, .bool)] (.op ⟨[160], [160]⟩ (.op ⟨[160], []⟩ (.op ⟨[], []⟩ (.op ⟨[], []⟩ .done)))) (.op ⟨[], []⟩ .done))))))))))
.leaf))
theorem reticulelaw09_alive_Eok : EnvOk Try.prog reticulelaw09_alive_E := env_ok tab_ok (by simp) (allFn_mem (show AllFn Try.prog reticulelaw09_alive_fns from ⟨capacity_Ten_ok, capacity_Sixteen_ok, capacity_Luns_ok, trivial⟩)) mixed (by kernel_rfl)
theorem reticulelaw09_alive_eq (x : Unit) : evF reticulelaw09_alive_E 14 (bd Try.f6) [] [.tmp 0 (.bool, .view)] reticulelaw09_alive_an x = reticulelaw09_alive x := by kernel_rfl
theorem reticulelaw09_alive_ok : FnOk Try.prog 6 { args := [], res := [(.bool, .view)], f := reticulelaw09_alive } :=
  fn_ok reticulelaw09_alive_Eok Try.func6 rfl (by kernel_rfl) (by kernel_rfl) (by kernel_rfl) (rs := [.tmp 0 (.bool, .view)]) (c := bd Try.f6) (an := reticulelaw09_alive_an) (ob_flat _ _ _ _ _ _ _ (by kernel_rfl)) reticulelaw09_alive_eq
/-! reticuleref01_PutBig: function 15 -/
noncomputable def reticuleref01_PutBig_fns : List (Nat × Fun) := []
noncomputable def reticuleref01_PutBig_E : Env := { ty := Re.look tyTab, eq := fun n => memB n [], fn := Re.look reticuleref01_PutBig_fns, cut := fun n => memB n [], win := fun n => memB n [], parr := Re.look [] }
noncomputable def reticuleref01_PutBig_an : An (Ds ((([.tmp 4 ((.sl (.int .u8)), .full)] : List RV).map RV.pm).map (·.1) ++ ioTys [.val (.int .u64), .val (.int .i64)])) :=
(.seq (.rg [] none)
(.seq (.seq (.rg [] (some (.op ⟨[], []⟩ (.op ⟨[], []⟩ (.op ⟨[], []⟩ (.split 9 [(12, .bool)] (.op ⟨[], []⟩ (.op ⟨[], []⟩ (.op ⟨[], []⟩ .done))) .done))))))
(.cond (.seq (.rg [] none)
.leaf) .leaf))
(.seq (.rg [] none)
(.seq (.seq (.rg [] none)
(.loop [.val 0 (.int .u64), .row 5 (.int .u8) .full, .val 6 (.int .i64)] [.row 5 (.int .u8) .full] reticuleref01_PutBig_L0
(.seq (.seq (.rg [] none)
(.cond .leaf .leaf))
(.seq (.block (.seq (.rg [] none)
(.rg [] none)))
(.rg [] none)))))
(.seq (.rg [] none)
.leaf)))))
theorem reticuleref01_PutBig_Eok : EnvOk Try.prog reticuleref01_PutBig_E := env_ok tab_ok (by simp) (allFn_mem (show AllFn Try.prog reticuleref01_PutBig_fns from trivial)) mixed (by kernel_rfl)
theorem reticuleref01_PutBig_eq (x : (BitVec 64) × Int) : evF reticuleref01_PutBig_E 30 (bd Try.f15) [.val (.int .u64), .val (.int .i64)] [.tmp 4 ((.sl (.int .u8)), .full)] reticuleref01_PutBig_an x = reticuleref01_PutBig x := by kernel_rfl
theorem reticuleref01_PutBig_ok : FnOk Try.prog 15 { args := [.val (.int .u64), .val (.int .i64)], res := [((.sl (.int .u8)), .full)], f := reticuleref01_PutBig } :=
  fn_ok reticuleref01_PutBig_Eok Try.func15 rfl (by kernel_rfl) (by kernel_rfl) (by kernel_rfl) (rs := [.tmp 4 ((.sl (.int .u8)), .full)]) (c := bd Try.f15) (an := reticuleref01_PutBig_an) (show obF reticuleref01_PutBig_E 30 (bd Try.f15) [.val (.int .u64), .val (.int .i64)] [.tmp 4 ((.sl (.int .u8)), .full)] reticuleref01_PutBig_an from (And.intro trivial (And.intro (And.intro trivial (And.intro (And.intro trivial trivial) trivial)) (And.intro trivial (And.intro (And.intro trivial (And.intro (fun _ => rfl) (And.intro (fun n j => by kernel_rfl) (fun n => (And.intro (And.intro trivial (And.intro trivial trivial)) (And.intro (And.intro trivial trivial) trivial)))))) (And.intro trivial trivial)))))) reticuleref01_PutBig_eq
/-! reticuleref09_Ten: function 8 -/
noncomputable def reticuleref09_Ten_fns : List (Nat × Fun) := [(15, { args := [.val (.int .u64), .val (.int .i64)], res := [((.sl (.int .u8)), .full)], f := reticuleref01_PutBig })]
noncomputable def reticuleref09_Ten_E : Env := { ty := Re.look tyTab, eq := fun n => memB n [], fn := Re.look reticuleref09_Ten_fns, cut := fun n => memB n [], win := fun n => memB n [], parr := Re.look [] }
noncomputable def reticuleref09_Ten_an : An (Ds ((([.tmp 2 ((.sl (.int .u8)), .full)] : List RV).map RV.pm).map (·.1) ++ ioTys [.val (.int .i64)])) :=
(.seq (.rg [] none)
(.seq (.rg [] none)
.leaf))
theorem reticuleref09_Ten_Eok : EnvOk Try.prog reticuleref09_Ten_E := env_ok tab_ok (by simp) (allFn_mem (show AllFn Try.prog reticuleref09_Ten_fns from ⟨reticuleref01_PutBig_ok, trivial⟩)) mixed (by kernel_rfl)
theorem reticuleref09_Ten_eq (x : Int) : evF reticuleref09_Ten_E 9 (bd Try.f8) [.val (.int .i64)] [.tmp 2 ((.sl (.int .u8)), .full)] reticuleref09_Ten_an x = reticuleref09_Ten x := by kernel_rfl
theorem reticuleref09_Ten_ok : FnOk Try.prog 8 { args := [.val (.int .i64)], res := [((.sl (.int .u8)), .full)], f := reticuleref09_Ten } :=
  fn_ok reticuleref09_Ten_Eok Try.func8 rfl (by kernel_rfl) (by kernel_rfl) (by kernel_rfl) (rs := [.tmp 2 ((.sl (.int .u8)), .full)]) (c := bd Try.f8) (an := reticuleref09_Ten_an) (ob_flat _ _ _ _ _ _ _ (by kernel_rfl)) reticuleref09_Ten_eq
/-! reticuleref07_Cut: function 18 -/
noncomputable def reticuleref07_Cut_fns : List (Nat × Fun) := []
noncomputable def reticuleref07_Cut_E : Env := { ty := Re.look tyTab, eq := fun n => memB n [], fn := Re.look reticuleref07_Cut_fns, cut := fun n => memB n [], win := fun n => memB n [], parr := Re.look [] }
noncomputable def reticuleref07_Cut_an : An (Ds ((([.tmp 4 ((.sl (.int .u8)), .full)] : List RV).map RV.pm).map (·.1) ++ ioTys [.val (.sl (.int .u8)), .val (.int .i64)])) :=
(.seq (.rg [] none)
(.seq (.seq (.rg [] none)
(.cond (.seq (.rg [] none)
.leaf) .leaf))
(.join [.val 0 (.sl (.int .u8)), .val 1 (.int .i64)]
(.seq (.rg [] none)
(.cond (.rg [] none) .leaf))
(.seq (.rg [] none)
.leaf))))
theorem reticuleref07_Cut_Eok : EnvOk Try.prog reticuleref07_Cut_E := env_ok tab_ok (by simp) (allFn_mem (show AllFn Try.prog reticuleref07_Cut_fns from trivial)) mixed (by kernel_rfl)
theorem reticuleref07_Cut_eq (x : (List (BitVec 8)) × Int) : evF reticuleref07_Cut_E 18 (bd Try.f18) [.val (.sl (.int .u8)), .val (.int .i64)] [.tmp 4 ((.sl (.int .u8)), .full)] reticuleref07_Cut_an x = reticuleref07_Cut x := by kernel_rfl
theorem reticuleref07_Cut_ok : FnOk Try.prog 18 { args := [.val (.sl (.int .u8)), .val (.int .i64)], res := [((.sl (.int .u8)), .full)], f := reticuleref07_Cut } :=
  fn_ok reticuleref07_Cut_Eok Try.func18 rfl (by kernel_rfl) (by kernel_rfl) (by kernel_rfl) (rs := [.tmp 4 ((.sl (.int .u8)), .full)]) (c := bd Try.f18) (an := reticuleref07_Cut_an) (ob_flat _ _ _ _ _ _ _ (by kernel_rfl)) reticuleref07_Cut_eq
/-! reticuleref09_Sixteen: function 10 -/
noncomputable def reticuleref09_Sixteen_fns : List (Nat × Fun) := [(15, { args := [.val (.int .u64), .val (.int .i64)], res := [((.sl (.int .u8)), .full)], f := reticuleref01_PutBig }), (18, { args := [.val (.sl (.int .u8)), .val (.int .i64)], res := [((.sl (.int .u8)), .full)], f := reticuleref07_Cut })]
noncomputable def reticuleref09_Sixteen_E : Env := { ty := Re.look tyTab, eq := fun n => memB n [], fn := Re.look reticuleref09_Sixteen_fns, cut := fun n => memB n [], win := fun n => memB n [], parr := Re.look [] }
noncomputable def reticuleref09_Sixteen_an : An (Ds ((([.tmp 4 ((.sl (.int .u8)), .full)] : List RV).map RV.pm).map (·.1) ++ ioTys [.val (.int .i64), .val (.int .i64)])) :=
(.seq (.rg [] none)
(.seq (.rg [] none)
(.seq (.rg [] none)
.leaf)))
theorem reticuleref09_Sixteen_Eok : EnvOk Try.prog reticuleref09_Sixteen_E := env_ok tab_ok (by simp) (allFn_mem (show AllFn Try.prog reticuleref09_Sixteen_fns from ⟨reticuleref01_PutBig_ok, reticuleref07_Cut_ok, trivial⟩)) mixed (by kernel_rfl)
theorem reticuleref09_Sixteen_eq (x : Int × Int) : evF reticuleref09_Sixteen_E 16 (bd Try.f10) [.val (.int .i64), .val (.int .i64)] [.tmp 4 ((.sl (.int .u8)), .full)] reticuleref09_Sixteen_an x = reticuleref09_Sixteen x := by kernel_rfl
theorem reticuleref09_Sixteen_ok : FnOk Try.prog 10 { args := [.val (.int .i64), .val (.int .i64)], res := [((.sl (.int .u8)), .full)], f := reticuleref09_Sixteen } :=
  fn_ok reticuleref09_Sixteen_Eok Try.func10 rfl (by kernel_rfl) (by kernel_rfl) (by kernel_rfl) (rs := [.tmp 4 ((.sl (.int .u8)), .full)]) (c := bd Try.f10) (an := reticuleref09_Sixteen_an) (ob_flat _ _ _ _ _ _ _ (by kernel_rfl)) reticuleref09_Sixteen_eq
/-! reticuleref09_Luns: function 12 -/
noncomputable def reticuleref09_Luns_fns : List (Nat × Fun) := [(18, { args := [.val (.sl (.int .u8)), .val (.int .i64)], res := [((.sl (.int .u8)), .full)], f := reticuleref07_Cut })]
noncomputable def reticuleref09_Luns_E : Env := { ty := Re.look tyTab, eq := fun n => memB n [], fn := Re.look reticuleref09_Luns_fns, cut := fun n => memB n [], win := fun n => memB n [], parr := Re.look [] }
noncomputable def reticuleref09_Luns_an : An (Ds ((([.tmp 4 ((.sl (.int .u8)), .full)] : List RV).map RV.pm).map (·.1) ++ ioTys [.val (.int .i64), .val (.int .i64)])) :=
(.seq (.rg [] none)
(.join [.val 0 (.int .i64), .val 1 (.int .i64)]
(.seq (.rg [] none)
(.cond (.rg [] none) .leaf))
(.join [.val 0 (.int .i64), .val 1 (.int .i64)]
(.seq (.rg [] none)
(.cond (.rg [] none) .leaf))
(.seq (.rg [] none)
(.seq (.seq (.rg [] none)
(.loop [.val 0 (.int .i64), .val 1 (.int .i64), .row 5 (.int .u8) .full, .val 6 (.int .i64)] [.val 1 (.int .i64), .row 5 (.int .u8) .full] reticuleref09_Luns_L0
(.seq (.seq (.rg [] none)
(.cond .leaf .leaf))
(.seq (.block (.rg [] none))
(.rg [] none)))))
(.seq (.rg [] none)
.leaf))))))
theorem reticuleref09_Luns_Eok : EnvOk Try.prog reticuleref09_Luns_E := env_ok tab_ok (by simp) (allFn_mem (show AllFn Try.prog reticuleref09_Luns_fns from ⟨reticuleref07_Cut_ok, trivial⟩)) mixed (by kernel_rfl)
theorem reticuleref09_Luns_eq (x : Int × Int) : evF reticuleref09_Luns_E 28 (bd Try.f12) [.val (.int .i64), .val (.int .i64)] [.tmp 4 ((.sl (.int .u8)), .full)] reticuleref09_Luns_an x = reticuleref09_Luns x := by kernel_rfl
theorem reticuleref09_Luns_ok : FnOk Try.prog 12 { args := [.val (.int .i64), .val (.int .i64)], res := [((.sl (.int .u8)), .full)], f := reticuleref09_Luns } :=
  fn_ok reticuleref09_Luns_Eok Try.func12 rfl (by kernel_rfl) (by kernel_rfl) (by kernel_rfl) (rs := [.tmp 4 ((.sl (.int .u8)), .full)]) (c := bd Try.f12) (an := reticuleref09_Luns_an) (show obF reticuleref09_Luns_E 28 (bd Try.f12) [.val (.int .i64), .val (.int .i64)] [.tmp 4 ((.sl (.int .u8)), .full)] reticuleref09_Luns_an from (And.intro trivial (And.intro (And.intro trivial (And.intro trivial trivial)) (And.intro (And.intro trivial (And.intro trivial trivial)) (And.intro trivial (And.intro (And.intro trivial (And.intro (fun _ => rfl) (And.intro (fun n j => by kernel_rfl) (fun n => (And.intro (And.intro trivial (And.intro trivial trivial)) (And.intro trivial trivial)))))) (And.intro trivial trivial))))))) reticuleref09_Luns_eq
/-! reticulelaw09_CapacityTells: function 3 -/
noncomputable def reticulelaw09_CapacityTells_fns : List (Nat × Fun) := [(6, { args := [], res := [(.bool, .view)], f := reticulelaw09_alive }), (7, { args := [.val (.int .i64)], res := [((.sl (.int .u8)), .full)], f := capacity_Ten }), (8, { args := [.val (.int .i64)], res := [((.sl (.int .u8)), .full)], f := reticuleref09_Ten }), (9, { args := [.val (.int .i64), .val (.int .i64)], res := [((.sl (.int .u8)), .tail)], f := capacity_Sixteen }), (10, { args := [.val (.int .i64), .val (.int .i64)], res := [((.sl (.int .u8)), .full)], f := reticuleref09_Sixteen }), (11, { args := [.val (.int .i64), .val (.int .i64)], res := [((.sl (.int .u8)), .tail)], f := capacity_Luns }), (12, { args := [.val (.int .i64), .val (.int .i64)], res := [((.sl (.int .u8)), .full)], f := reticuleref09_Luns })]
noncomputable def reticulelaw09_CapacityTells_E : Env := { ty := Re.look tyTab, eq := fun n => memB n [], fn := Re.look reticulelaw09_CapacityTells_fns, cut := fun n => memB n [], win := fun n => memB n [], parr := Re.look [] }
noncomputable def reticulelaw09_CapacityTells_an : An (Ds ((([.tmp 6 (.bool, .view)] : List RV).map RV.pm).map (·.1) ++ ioTys [.val (.int .i64), .val (.int .i64), .val (.int .i64)])) :=
(.seq (.rg [] none)
(.seq (.seq (.rg [] none)
(.cond (.seq (.rg [] none)
.leaf) .leaf))
(.seq (.rg [] (some (.op ⟨[], []⟩ (.op ⟨[160], [160]⟩ (.op ⟨[160], []⟩ (.op ⟨[], []⟩ (.op ⟨[208], [208]⟩ (.op ⟨[208], []⟩ (.op ⟨[], []⟩ (.op ⟨[], []⟩ (.split 16 [(26, .bool)] (.op ⟨[], []⟩ (.op ⟨[], []⟩ (.op ⟨[304], [304]⟩ (.op ⟨[304], []⟩ (.op ⟨[], []⟩ (.op ⟨[], []⟩ (.op ⟨[368], [368]⟩ (.op ⟨[368], []⟩ (.op ⟨[], []⟩ (.op ⟨[], []⟩ .done)))))))))) (.op ⟨[], []⟩ (.split 27 [(37, .bool)] (.op ⟨[], []⟩ (.op ⟨[], []⟩ (.op ⟨[480], [480]⟩ (.op ⟨[480], []⟩ (.op ⟨[], []⟩ (.op ⟨[], []⟩ (.op ⟨[544], [544]⟩ (.op ⟨[544], []⟩ (.op ⟨[], []⟩ (.op ⟨[], []⟩ .done)))))))))) (.op ⟨[], []⟩ .done))))))))))))))
.leaf)))
theorem reticulelaw09_CapacityTells_Eok : EnvOk Try.prog reticulelaw09_CapacityTells_E := env_ok tab_ok (by simp) (allFn_mem (show AllFn Try.prog reticulelaw09_CapacityTells_fns from ⟨reticulelaw09_alive_ok, capacity_Ten_ok, reticuleref09_Ten_ok, capacity_Sixteen_ok, reticuleref09_Sixteen_ok, capacity_Luns_ok, reticuleref09_Luns_ok, trivial⟩)) mixed (by kernel_rfl)
theorem reticulelaw09_CapacityTells_eq (x : Int × Int × Int) : evF reticulelaw09_CapacityTells_E 38 (bd Try.f3) [.val (.int .i64), .val (.int .i64), .val (.int .i64)] [.tmp 6 (.bool, .view)] reticulelaw09_CapacityTells_an x = reticulelaw09_CapacityTells x := by kernel_rfl
theorem reticulelaw09_CapacityTells_ok : FnOk Try.prog 3 { args := [.val (.int .i64), .val (.int .i64), .val (.int .i64)], res := [(.bool, .view)], f := reticulelaw09_CapacityTells } :=
  fn_ok reticulelaw09_CapacityTells_Eok Try.func3 rfl (by kernel_rfl) (by kernel_rfl) (by kernel_rfl) (rs := [.tmp 6 (.bool, .view)]) (c := bd Try.f3) (an := reticulelaw09_CapacityTells_an) (ob_flat _ _ _ _ _ _ _ (by kernel_rfl)) reticulelaw09_CapacityTells_eq
/-! reticuleref01_Big: function 13 -/
noncomputable def reticuleref01_Big_fns : List (Nat × Fun) := []
noncomputable def reticuleref01_Big_E : Env := { ty := Re.look tyTab, eq := fun n => memB n [], fn := Re.look reticuleref01_Big_fns, cut := fun n => memB n [], win := fun n => memB n [], parr := Re.look [] }
noncomputable def reticuleref01_Big_an : An (Ds ((([.tmp 6 ((.int .u64), .view), .tmp 7 (.bool, .view)] : List RV).map RV.pm).map (·.1) ++ ioTys [.val (.sl (.int .u8)), .val (.int .i64), .val (.int .i64)])) :=
(.seq (.rg [] none)
(.seq (.seq (.rg [] (some (.op ⟨[], []⟩ (.op ⟨[], []⟩ (.op ⟨[], []⟩ (.split 12 [(15, .bool)] (.op ⟨[], []⟩ (.op ⟨[], []⟩ (.op ⟨[], []⟩ .done))) (.op ⟨[], []⟩ (.split 16 [(19, .bool)] (.op ⟨[], []⟩ (.op ⟨[], []⟩ (.op ⟨[], []⟩ .done))) (.op ⟨[], []⟩ (.split 20 [(25, .bool)] (.op ⟨[], []⟩ (.op ⟨[], []⟩ (.op ⟨[], []⟩ (.op ⟨[], []⟩ (.op ⟨[], []⟩ .done))))) (.op ⟨[], []⟩ (.split 26 [(33, .bool)] (.op ⟨[], []⟩ (.op ⟨[], []⟩ (.op ⟨[], []⟩ (.op ⟨[], []⟩ (.op ⟨[], []⟩ (.op ⟨[], []⟩ (.op ⟨[], []⟩ .done))))))) .done))))))))))))
(.cond (.seq (.rg [] none)
.leaf) .leaf))
(.seq (.rg [] none)
(.seq (.seq (.rg [] none)
(.loop [.val 0 (.sl (.int .u8)), .val 1 (.int .i64), .val 2 (.int .i64), .val 8 (.int .u64), .val 9 (.int .i64)] [.val 8 (.int .u64)] reticuleref01_Big_L0
(.seq (.seq (.rg [] none)
(.cond .leaf .leaf))
(.seq (.block (.rg [] none))
(.rg [] none)))))
(.seq (.rg [] none)
.leaf)))))
theorem reticuleref01_Big_Eok : EnvOk Try.prog reticuleref01_Big_E := env_ok tab_ok (by simp) (allFn_mem (show AllFn Try.prog reticuleref01_Big_fns from trivial)) mixed (by kernel_rfl)
theorem reticuleref01_Big_eq (x : (List (BitVec 8)) × Int × Int) : evF reticuleref01_Big_E 50 (bd Try.f13) [.val (.sl (.int .u8)), .val (.int .i64), .val (.int .i64)] [.tmp 6 ((.int .u64), .view), .tmp 7 (.bool, .view)] reticuleref01_Big_an x = reticuleref01_Big x := by kernel_rfl
theorem reticuleref01_Big_ok : FnOk Try.prog 13 { args := [.val (.sl (.int .u8)), .val (.int .i64), .val (.int .i64)], res := [((.int .u64), .view), (.bool, .view)], f := reticuleref01_Big } :=
  fn_ok reticuleref01_Big_Eok Try.func13 rfl (by kernel_rfl) (by kernel_rfl) (by kernel_rfl) (rs := [.tmp 6 ((.int .u64), .view), .tmp 7 (.bool, .view)]) (c := bd Try.f13) (an := reticuleref01_Big_an) (show obF reticuleref01_Big_E 50 (bd Try.f13) [.val (.sl (.int .u8)), .val (.int .i64), .val (.int .i64)] [.tmp 6 ((.int .u64), .view), .tmp 7 (.bool, .view)] reticuleref01_Big_an from (And.intro trivial (And.intro (And.intro trivial (And.intro (And.intro trivial trivial) trivial)) (And.intro trivial (And.intro (And.intro trivial (And.intro (fun _ => rfl) (And.intro (fun n j => by kernel_rfl) (fun n => (And.intro (And.intro trivial (And.intro trivial trivial)) (And.intro trivial trivial)))))) (And.intro trivial trivial)))))) reticuleref01_Big_eq
/-! reticulelaw09_CapacityBack: function 4 -/
noncomputable def reticulelaw09_CapacityBack_fns : List (Nat × Fun) := [(6, { args := [], res := [(.bool, .view)], f := reticulelaw09_alive }), (7, { args := [.val (.int .i64)], res := [((.sl (.int .u8)), .full)], f := capacity_Ten }), (13, { args := [.val (.sl (.int .u8)), .val (.int .i64), .val (.int .i64)], res := [((.int .u64), .view), (.bool, .view)], f := reticuleref01_Big }), (9, { args := [.val (.int .i64), .val (.int .i64)], res := [((.sl (.int .u8)), .tail)], f := capacity_Sixteen }), (11, { args := [.val (.int .i64), .val (.int .i64)], res := [((.sl (.int .u8)), .tail)], f := capacity_Luns })]
noncomputable def reticulelaw09_CapacityBack_E : Env := { ty := Re.look tyTab, eq := fun n => memB n [], fn := Re.look reticulelaw09_CapacityBack_fns, cut := fun n => memB n [], win := fun n => memB n [], parr := Re.look [] }
noncomputable def reticulelaw09_CapacityBack_an : An (Ds ((([.tmp 4 (.bool, .view)] : List RV).map RV.pm).map (·.1) ++ ioTys [.val (.int .u16), .val (.int .u8)])) :=
(.seq (.rg [] none)
(.seq (.seq (.rg [] none)
(.cond (.seq (.rg [] none)
.leaf) .leaf))
(.seq (.rg [] none)
(.seq (.rg [] none)
(.seq (.rg [] none)
(.seq (.rg [] none)
(.seq (.rg [] none)
(.seq (.rg [] none)
(.seq (.seq (.rg [] (some (.op ⟨[], []⟩ (.op ⟨[], []⟩ (.op ⟨[], []⟩ (.split 44 [(47, .bool)] (.op ⟨[], []⟩ (.op ⟨[], []⟩ (.op ⟨[], []⟩ .done))) (.op ⟨[], []⟩ (.split 48 [(51, .bool)] (.op ⟨[], []⟩ (.op ⟨[], []⟩ (.op ⟨[], []⟩ .done))) (.op ⟨[], []⟩ (.split 52 [(58, .bool)] (.op ⟨[], []⟩ (.op ⟨[], []⟩ (.op ⟨[], []⟩ (.op ⟨[], []⟩ (.op ⟨[], []⟩ (.op ⟨[], []⟩ .done)))))) (.op ⟨[], []⟩ (.split 59 [(65, .bool)] (.op ⟨[], []⟩ (.op ⟨[], []⟩ (.op ⟨[], []⟩ (.op ⟨[], []⟩ (.op ⟨[], []⟩ (.op ⟨[], []⟩ .done)))))) (.op ⟨[], []⟩ (.split 66 [(72, .bool)] (.op ⟨[], []⟩ (.op ⟨[], []⟩ (.op ⟨[], []⟩ (.op ⟨[], []⟩ (.op ⟨[], []⟩ (.op ⟨[], []⟩ .done)))))) (.op ⟨[], []⟩ (.split 73 [(80, .bool)] (.op ⟨[], []⟩ (.op ⟨[576], []⟩ (.op ⟨[], []⟩ (.op ⟨[], []⟩ (.op ⟨[], []⟩ (.op ⟨[], []⟩ (.op ⟨[], []⟩ .done))))))) .done))))))))))))))))
(.cond (.seq (.rg [] none)
.leaf) .leaf))
(.seq (.seq (.rg [] none)
(.loop [.val 6 (.int .i64), .row 11 (.int .u8) .tail, .val 14 (.int .i64)] [] reticulelaw09_CapacityBack_L0
(.seq (.seq (.rg [] none)
(.cond .leaf .leaf))
(.seq (.block (.seq (.rg [] none)
(.cond (.seq (.rg [] none)
.leaf) .leaf)))
(.rg [] none)))))
(.seq (.rg [] none)
.leaf)))))))))))
theorem reticulelaw09_CapacityBack_Eok : EnvOk Try.prog reticulelaw09_CapacityBack_E := env_ok tab_ok (by simp) (allFn_mem (show AllFn Try.prog reticulelaw09_CapacityBack_fns from ⟨reticulelaw09_alive_ok, capacity_Ten_ok, reticuleref01_Big_ok, capacity_Sixteen_ok, capacity_Luns_ok, trivial⟩)) mixed (by kernel_rfl)
theorem reticulelaw09_CapacityBack_eq (x : (BitVec 16) × (BitVec 8)) : evF reticulelaw09_CapacityBack_E 96 (bd Try.f4) [.val (.int .u16), .val (.int .u8)] [.tmp 4 (.bool, .view)] reticulelaw09_CapacityBack_an x = reticulelaw09_CapacityBack x := by kernel_rfl
theorem reticulelaw09_CapacityBack_ok : FnOk Try.prog 4 { args := [.val (.int .u16), .val (.int .u8)], res := [(.bool, .view)], f := reticulelaw09_CapacityBack } :=
  fn_ok reticulelaw09_CapacityBack_Eok Try.func4 rfl (by kernel_rfl) (by kernel_rfl) (by kernel_rfl) (rs := [.tmp 4 (.bool, .view)]) (c := bd Try.f4) (an := reticulelaw09_CapacityBack_an) (show obF reticulelaw09_CapacityBack_E 96 (bd Try.f4) [.val (.int .u16), .val (.int .u8)] [.tmp 4 (.bool, .view)] reticulelaw09_CapacityBack_an from (And.intro trivial (And.intro (And.intro trivial (And.intro (And.intro trivial trivial) trivial)) (And.intro trivial (And.intro trivial (And.intro trivial (And.intro trivial (And.intro trivial (And.intro trivial (And.intro (And.intro trivial (And.intro (And.intro trivial trivial) trivial)) (And.intro (And.intro trivial (And.intro (fun _ => rfl) (And.intro (fun n j => by kernel_rfl) (fun n => (And.intro (And.intro trivial (And.intro trivial trivial)) (And.intro (And.intro trivial (And.intro (And.intro trivial trivial) trivial)) trivial)))))) (And.intro trivial trivial)))))))))))) reticulelaw09_CapacityBack_eq
/-! reticulelaw09_CapacityCuts: function 5 -/
noncomputable def reticulelaw09_CapacityCuts_fns : List (Nat × Fun) := [(6, { args := [], res := [(.bool, .view)], f := reticulelaw09_alive }), (9, { args := [.val (.int .i64), .val (.int .i64)], res := [((.sl (.int .u8)), .tail)], f := capacity_Sixteen }), (11, { args := [.val (.int .i64), .val (.int .i64)], res := [((.sl (.int .u8)), .tail)], f := capacity_Luns })]
noncomputable def reticulelaw09_CapacityCuts_E : Env := { ty := Re.look tyTab, eq := fun n => memB n [], fn := Re.look reticulelaw09_CapacityCuts_fns, cut := fun n => memB n [], win := fun n => memB n [], parr := Re.look [] }
noncomputable def reticulelaw09_CapacityCuts_an : An (Ds ((([.tmp 6 (.bool, .view)] : List RV).map RV.pm).map (·.1) ++ ioTys [.val (.int .i64), .val (.int .i64), .val (.int .i64)])) :=
(.seq (.rg [] none)
(.seq (.seq (.rg [] none)
(.cond (.seq (.rg [] none)
.leaf) .leaf))
(.seq (.rg [] none)
(.seq (.rg [] none)
(.seq (.seq (.rg [] (some (.op ⟨[], []⟩ (.op ⟨[240], []⟩ (.op ⟨[], []⟩ (.op ⟨[272], []⟩ (.op ⟨[], []⟩ (.op ⟨[], []⟩ (.split 28 [(34, .bool)] (.op ⟨[], []⟩ (.op ⟨[320], []⟩ (.op ⟨[], []⟩ (.op ⟨[352], []⟩ (.op ⟨[], []⟩ (.op ⟨[], []⟩ .done)))))) (.op ⟨[], []⟩ (.split 35 [(39, .bool)] (.op ⟨[], []⟩ (.op ⟨[272], []⟩ (.op ⟨[], []⟩ (.op ⟨[], []⟩ .done)))) .done)))))))))))
(.cond (.seq (.rg [] none)
.leaf) .leaf))
(.seq (.rg [] (some (.op ⟨[], []⟩ (.op ⟨[240], []⟩ (.op ⟨[], []⟩ (.op ⟨[], []⟩ (.op ⟨[240], []⟩ (.op ⟨[272], []⟩ (.op ⟨[], []⟩ (.op ⟨[], []⟩ (.op ⟨[], []⟩ (.split 48 [(57, .bool)] (.op ⟨[], []⟩ (.op ⟨[320], []⟩ (.op ⟨[], []⟩ (.op ⟨[], []⟩ (.op ⟨[320], []⟩ (.op ⟨[352], []⟩ (.op ⟨[], []⟩ (.op ⟨[], []⟩ (.op ⟨[], []⟩ .done))))))))) (.op ⟨[], []⟩ (.split 58 [(65, .bool)] (.op ⟨[], []⟩ (.op ⟨[240], []⟩ (.op ⟨[], []⟩ (.op ⟨[], []⟩ (.op ⟨[], []⟩ (.op ⟨[], []⟩ (.op ⟨[], []⟩ .done))))))) (.op ⟨[], []⟩ (.split 66 [(75, .bool)] (.op ⟨[], []⟩ (.op ⟨[320], []⟩ (.op ⟨[], []⟩ (.op ⟨[], []⟩ (.op ⟨[], []⟩ (.op ⟨[352], []⟩ (.op ⟨[], []⟩ (.op ⟨[], []⟩ (.op ⟨[], []⟩ .done))))))))) (.op ⟨[], []⟩ .done)))))))))))))))))
.leaf))))))
theorem reticulelaw09_CapacityCuts_Eok : EnvOk Try.prog reticulelaw09_CapacityCuts_E := env_ok tab_ok (by simp) (allFn_mem (show AllFn Try.prog reticulelaw09_CapacityCuts_fns from ⟨reticulelaw09_alive_ok, capacity_Sixteen_ok, capacity_Luns_ok, trivial⟩)) mixed (by kernel_rfl)
theorem reticulelaw09_CapacityCuts_eq (x : Int × Int × Int) : evF reticulelaw09_CapacityCuts_E 76 (bd Try.f5) [.val (.int .i64), .val (.int .i64), .val (.int .i64)] [.tmp 6 (.bool, .view)] reticulelaw09_CapacityCuts_an x = reticulelaw09_CapacityCuts x := by kernel_rfl
theorem reticulelaw09_CapacityCuts_ok : FnOk Try.prog 5 { args := [.val (.int .i64), .val (.int .i64), .val (.int .i64)], res := [(.bool, .view)], f := reticulelaw09_CapacityCuts } :=
  fn_ok reticulelaw09_CapacityCuts_Eok Try.func5 rfl (by kernel_rfl) (by kernel_rfl) (by kernel_rfl) (rs := [.tmp 6 (.bool, .view)]) (c := bd Try.f5) (an := reticulelaw09_CapacityCuts_an) (ob_flat _ _ _ _ _ _ _ (by kernel_rfl)) reticulelaw09_CapacityCuts_eq
end Go.Proofs.Ytgonclhpilkpmaa
