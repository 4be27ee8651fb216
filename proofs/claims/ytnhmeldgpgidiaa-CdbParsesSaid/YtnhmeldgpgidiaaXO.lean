/- Each function does what its plain one tells. Printed by the session's own program. -/
import Derived.Test.YtnhmeldgpgidiaaXT
import Derived.Test.YtnhmeldgpgidiaaXF
namespace Go.Proofs.Ytnhmeldgpgidiaa
open Go Go.Re
set_option linter.unusedVariables false
set_option linter.unusedSimpArgs false
set_option maxRecDepth 100000
set_option maxHeartbeats 1000000
/-! cdb_Class: function 14 -/
noncomputable def cdb_Class_fns : List (Nat × Fun) := []
noncomputable def cdb_Class_E : Env := { ty := Re.look tyTab, eq := fun n => memB n [], fn := Re.look cdb_Class_fns, cut := fun n => memB n [], win := fun n => memB n [], one := fun n => memB n [], onc := fun n => memB n [], pre := fun n => memB n [], ptr := fun n => memB n [], psl := fun n => memB n [], parr := Re.look [], mpt := Re.look [], lnd := fun n => memB n [], mfz := fun n => memB n [] }
noncomputable def cdb_Class_an : An (Ds ((([.tmp 2 ((.int .i64), .view)] : List RV).map RV.pm).map (·.1) ++ ioTys [.val (.int .i64)])) :=
(.seq (.rg [] none)
(.seq (.seq (.rg [] none)
(.block (.join [.val 3 (.int .i64), .val 4 .bool]
(.seq (.rg [] none)
(.cond .leaf (.seq (.rg [] none)
(.cond .leaf (.seq (.rg [] none)
(.cond .leaf (.rg [] none)))))))
(.cond (.seq (.rg [] none)
.leaf) (.join [.val 3 (.int .i64), .val 9 .bool]
(.seq (.rg [] none)
(.cond .leaf (.seq (.rg [] none)
(.cond .leaf (.seq (.rg [] none)
(.cond .leaf (.rg [] none)))))))
(.cond (.seq (.rg [] none)
.leaf) (.join [.val 3 (.int .i64), .val 14 .bool]
(.seq (.rg [] none)
(.cond .leaf (.seq (.rg [] none)
(.cond .leaf (.rg [] none)))))
(.cond (.seq (.rg [] none)
.leaf) (.join [.val 18 .bool]
(.seq (.rg [] none)
(.cond .leaf (.rg [] none)))
(.cond (.seq (.rg [] none)
.leaf) .leaf))))))))))
(.seq (.rg [] none)
.leaf)))
theorem cdb_Class_Eok : EnvOk Try.prog cdb_Class_E := env_ok tab_ok (by simp) (allFn_mem (show AllFn Try.prog cdb_Class_fns from trivial)) mixed (by kernel_rfl) (by kernel_rfl) (by kernel_rfl) (by kernel_rfl)
theorem cdb_Class_eq (x : Int) : evF cdb_Class_E 21 (bd Try.f14) [.val (.int .i64)] [.tmp 2 ((.int .i64), .view)] cdb_Class_an x = cdb_Class x := by kernel_rfl
theorem cdb_Class_ok : FnOk Try.prog 14 { args := [.val (.int .i64)], res := [((.int .i64), .view)], f := cdb_Class } :=
  fn_ok cdb_Class_Eok Try.func14 rfl (by kernel_rfl) (by kernel_rfl) (by kernel_rfl) (rs := [.tmp 2 ((.int .i64), .view)]) (c := bd Try.f14) (an := cdb_Class_an) (ob_flat _ _ _ _ _ _ _ (by kernel_rfl)) cdb_Class_eq
/-! cdb_Known: function 12 -/
noncomputable def cdb_Known_fns : List (Nat × Fun) := [(14, { args := [.val (.int .i64)], res := [((.int .i64), .view)], f := cdb_Class })]
noncomputable def cdb_Known_E : Env := { ty := Re.look tyTab, eq := fun n => memB n [], fn := Re.look cdb_Known_fns, cut := fun n => memB n [], win := fun n => memB n [], one := fun n => memB n [], onc := fun n => memB n [], pre := fun n => memB n [], ptr := fun n => memB n [], psl := fun n => memB n [], parr := Re.look [], mpt := Re.look [], lnd := fun n => memB n [], mfz := fun n => memB n [] }
noncomputable def cdb_Known_an : An (Ds ((([.tmp 2 (.bool, .view)] : List RV).map RV.pm).map (·.1) ++ ioTys [.val (.int .i64)])) :=
(.seq (.rg [] none)
(.seq (.seq (.rg [] none)
(.block (.join [.val 0 (.int .i64), .val 4 .bool]
(.seq (.rg [] none)
(.cond .leaf (.seq (.rg [] none)
(.cond .leaf (.seq (.rg [] none)
(.cond .leaf (.seq (.rg [] none)
(.cond .leaf (.seq (.rg [] none)
(.cond .leaf (.seq (.rg [] none)
(.cond .leaf (.seq (.rg [] none)
(.cond .leaf (.seq (.rg [] none)
(.cond .leaf (.seq (.rg [] none)
(.cond .leaf (.seq (.rg [] none)
(.cond .leaf (.seq (.rg [] none)
(.cond .leaf (.rg [] none)))))))))))))))))))))))
(.cond (.seq (.rg [] none)
.leaf) .leaf))))
(.seq (.rg [] none)
.leaf)))
theorem cdb_Known_Eok : EnvOk Try.prog cdb_Known_E := env_ok tab_ok (by simp) (allFn_mem (show AllFn Try.prog cdb_Known_fns from ⟨cdb_Class_ok, trivial⟩)) mixed (by kernel_rfl) (by kernel_rfl) (by kernel_rfl) (by kernel_rfl)
theorem cdb_Known_eq (x : Int) : evF cdb_Known_E 20 (bd Try.f12) [.val (.int .i64)] [.tmp 2 (.bool, .view)] cdb_Known_an x = cdb_Known x := by kernel_rfl
theorem cdb_Known_ok : FnOk Try.prog 12 { args := [.val (.int .i64)], res := [(.bool, .view)], f := cdb_Known } :=
  fn_ok cdb_Known_Eok Try.func12 rfl (by kernel_rfl) (by kernel_rfl) (by kernel_rfl) (rs := [.tmp 2 (.bool, .view)]) (c := bd Try.f12) (an := cdb_Known_an) (ob_flat _ _ _ _ _ _ _ (by kernel_rfl)) cdb_Known_eq
/-! sense_asked: function 30 -/
noncomputable def sense_asked_fns : List (Nat × Fun) := []
noncomputable def sense_asked_E : Env := { ty := Re.look tyTab, eq := fun n => memB n [], fn := Re.look sense_asked_fns, cut := fun n => memB n [], win := fun n => memB n [], one := fun n => memB n [], onc := fun n => memB n [], pre := fun n => memB n [], ptr := fun n => memB n [], psl := fun n => memB n [], parr := Re.look [], mpt := Re.look [], lnd := fun n => memB n [], mfz := fun n => memB n [] }
noncomputable def sense_asked_an : An (Ds ((([.cell 4 T27] : List RV).map RV.pm).map (·.1) ++ ioTys [.val (.int .i64), .val (.int .i64)])) :=
(.seq (.rg [] none)
(.seq (.rg [] none)
.leaf))
theorem sense_asked_Eok : EnvOk Try.prog sense_asked_E := env_ok tab_ok (by simp) (allFn_mem (show AllFn Try.prog sense_asked_fns from trivial)) mixed (by kernel_rfl) (by kernel_rfl) (by kernel_rfl) (by kernel_rfl)
theorem sense_asked_eq (x : Int × Int) : evF sense_asked_E 8 (bd Try.f30) [.val (.int .i64), .val (.int .i64)] [.cell 4 T27] sense_asked_an x = sense_asked x := by kernel_rfl
theorem sense_asked_ok : FnOk Try.prog 30 { args := [.val (.int .i64), .val (.int .i64)], res := [(T27, .view)], f := sense_asked } :=
  fn_ok sense_asked_Eok Try.func30 rfl (by kernel_rfl) (by kernel_rfl) (by kernel_rfl) (rs := [.cell 4 T27]) (c := bd Try.f30) (an := sense_asked_an) (ob_flat _ _ _ _ _ _ _ (by kernel_rfl)) sense_asked_eq
/-! sense_Unknown: function 19 -/
noncomputable def sense_Unknown_fns : List (Nat × Fun) := [(30, { args := [.val (.int .i64), .val (.int .i64)], res := [(T27, .view)], f := sense_asked })]
noncomputable def sense_Unknown_E : Env := { ty := Re.look tyTab, eq := fun n => memB n [], fn := Re.look sense_Unknown_fns, cut := fun n => memB n [], win := fun n => memB n [], one := fun n => memB n [], onc := fun n => memB n [], pre := fun n => memB n [], ptr := fun n => memB n [], psl := fun n => memB n [], parr := Re.look [], mpt := Re.look [], lnd := fun n => memB n [], mfz := fun n => memB n [] }
noncomputable def sense_Unknown_an : An (Ds ((([.cell 0 T27] : List RV).map RV.pm).map (·.1) ++ ioTys [])) :=
(.seq (.rg [] none)
(.seq (.rg [] none)
.leaf))
theorem sense_Unknown_Eok : EnvOk Try.prog sense_Unknown_E := env_ok tab_ok (by simp) (allFn_mem (show AllFn Try.prog sense_Unknown_fns from ⟨sense_asked_ok, trivial⟩)) mixed (by kernel_rfl) (by kernel_rfl) (by kernel_rfl) (by kernel_rfl)
theorem sense_Unknown_eq (x : Unit) : evF sense_Unknown_E 2 (bd Try.f19) [] [.cell 0 T27] sense_Unknown_an x = sense_Unknown x := by kernel_rfl
theorem sense_Unknown_ok : FnOk Try.prog 19 { args := [], res := [(T27, .view)], f := sense_Unknown } :=
  fn_ok sense_Unknown_Eok Try.func19 rfl (by kernel_rfl) (by kernel_rfl) (by kernel_rfl) (rs := [.cell 0 T27]) (c := bd Try.f19) (an := sense_Unknown_an) (ob_flat _ _ _ _ _ _ _ (by kernel_rfl)) sense_Unknown_eq
/-! cdb_Size: function 10 -/
noncomputable def cdb_Size_fns : List (Nat × Fun) := [(12, { args := [.val (.int .i64)], res := [(.bool, .view)], f := cdb_Known })]
noncomputable def cdb_Size_E : Env := { ty := Re.look tyTab, eq := fun n => memB n [], fn := Re.look cdb_Size_fns, cut := fun n => memB n [], win := fun n => memB n [], one := fun n => memB n [], onc := fun n => memB n [], pre := fun n => memB n [], ptr := fun n => memB n [], psl := fun n => memB n [], parr := Re.look [], mpt := Re.look [], lnd := fun n => memB n [], mfz := fun n => memB n [] }
noncomputable def cdb_Size_an : An (Ds ((([.tmp 2 ((.int .i64), .view)] : List RV).map RV.pm).map (·.1) ++ ioTys [.val (.int .i64)])) :=
(.seq (.rg [] none)
(.seq (.seq (.rg [] none)
(.cond (.seq (.rg [] none)
.leaf) .leaf))
(.seq (.seq (.rg [] none)
(.block (.seq (.rg [] none)
(.cond (.seq (.rg [] none)
.leaf) (.seq (.rg [] none)
(.cond (.seq (.rg [] none)
.leaf) (.seq (.rg [] none)
(.cond (.seq (.rg [] none)
.leaf) .leaf))))))))
(.seq (.rg [] none)
.leaf))))
theorem cdb_Size_Eok : EnvOk Try.prog cdb_Size_E := env_ok tab_ok (by simp) (allFn_mem (show AllFn Try.prog cdb_Size_fns from ⟨cdb_Known_ok, trivial⟩)) mixed (by kernel_rfl) (by kernel_rfl) (by kernel_rfl) (by kernel_rfl)
theorem cdb_Size_eq (x : Int) : evF cdb_Size_E 14 (bd Try.f10) [.val (.int .i64)] [.tmp 2 ((.int .i64), .view)] cdb_Size_an x = cdb_Size x := by kernel_rfl
theorem cdb_Size_ok : FnOk Try.prog 10 { args := [.val (.int .i64)], res := [((.int .i64), .view)], f := cdb_Size } :=
  fn_ok cdb_Size_Eok Try.func10 rfl (by kernel_rfl) (by kernel_rfl) (by kernel_rfl) (rs := [.tmp 2 ((.int .i64), .view)]) (c := bd Try.f10) (an := cdb_Size_an) (ob_flat _ _ _ _ _ _ _ (by kernel_rfl)) cdb_Size_eq
/-! cdb_whole: function 31 -/
noncomputable def cdb_whole_fns : List (Nat × Fun) := []
noncomputable def cdb_whole_E : Env := { ty := Re.look tyTab, eq := fun n => memB n [], fn := Re.look cdb_whole_fns, cut := fun n => memB n [], win := fun n => memB n [], one := fun n => memB n [], onc := fun n => memB n [], pre := fun n => memB n [], ptr := fun n => memB n [], psl := fun n => memB n [], parr := Re.look [], mpt := Re.look [], lnd := fun n => memB n [], mfz := fun n => memB n [] }
noncomputable def cdb_whole_an : An (Ds ((([.cell 4 T43] : List RV).map RV.pm).map (·.1) ++ ioTys [.val (.int .i64), .val (.int .i64)])) :=
(.seq (.rg [] none)
(.seq (.rg [] none)
.leaf))
theorem cdb_whole_Eok : EnvOk Try.prog cdb_whole_E := env_ok tab_ok (by simp) (allFn_mem (show AllFn Try.prog cdb_whole_fns from trivial)) mixed (by kernel_rfl) (by kernel_rfl) (by kernel_rfl) (by kernel_rfl)
theorem cdb_whole_eq (x : Int × Int) : evF cdb_whole_E 8 (bd Try.f31) [.val (.int .i64), .val (.int .i64)] [.cell 4 T43] cdb_whole_an x = cdb_whole x := by kernel_rfl
theorem cdb_whole_ok : FnOk Try.prog 31 { args := [.val (.int .i64), .val (.int .i64)], res := [(T43, .view)], f := cdb_whole } :=
  fn_ok cdb_whole_Eok Try.func31 rfl (by kernel_rfl) (by kernel_rfl) (by kernel_rfl) (rs := [.cell 4 T43]) (c := bd Try.f31) (an := cdb_whole_an) (ob_flat _ _ _ _ _ _ _ (by kernel_rfl)) cdb_whole_eq
/-! cdb_one: function 32 -/
noncomputable def cdb_one_fns : List (Nat × Fun) := []
noncomputable def cdb_one_E : Env := { ty := Re.look tyTab, eq := fun n => memB n [], fn := Re.look cdb_one_fns, cut := fun n => memB n [], win := fun n => memB n [], one := fun n => memB n [], onc := fun n => memB n [], pre := fun n => memB n [], ptr := fun n => memB n [], psl := fun n => memB n [], parr := Re.look [], mpt := Re.look [], lnd := fun n => memB n [], mfz := fun n => memB n [] }
noncomputable def cdb_one_an : An (Ds ((([.cell 6 T43] : List RV).map RV.pm).map (·.1) ++ ioTys [.val (.int .i64), .val (.int .i64), .val (.int .i64)])) :=
(.seq (.rg [] none)
(.seq (.rg [] none)
.leaf))
theorem cdb_one_Eok : EnvOk Try.prog cdb_one_E := env_ok tab_ok (by simp) (allFn_mem (show AllFn Try.prog cdb_one_fns from trivial)) mixed (by kernel_rfl) (by kernel_rfl) (by kernel_rfl) (by kernel_rfl)
theorem cdb_one_eq (x : Int × Int × Int) : evF cdb_one_E 11 (bd Try.f32) [.val (.int .i64), .val (.int .i64), .val (.int .i64)] [.cell 6 T43] cdb_one_an x = cdb_one x := by kernel_rfl
theorem cdb_one_ok : FnOk Try.prog 32 { args := [.val (.int .i64), .val (.int .i64), .val (.int .i64)], res := [(T43, .view)], f := cdb_one } :=
  fn_ok cdb_one_Eok Try.func32 rfl (by kernel_rfl) (by kernel_rfl) (by kernel_rfl) (rs := [.cell 6 T43]) (c := bd Try.f32) (an := cdb_one_an) (ob_flat _ _ _ _ _ _ _ (by kernel_rfl)) cdb_one_eq
/-! cdb_blocks: function 33 -/
noncomputable def cdb_blocks_fns : List (Nat × Fun) := [(10, { args := [.val (.int .i64)], res := [((.int .i64), .view)], f := cdb_Size }), (31, { args := [.val (.int .i64), .val (.int .i64)], res := [(T43, .view)], f := cdb_whole }), (14, { args := [.val (.int .i64)], res := [((.int .i64), .view)], f := cdb_Class }), (32, { args := [.val (.int .i64), .val (.int .i64), .val (.int .i64)], res := [(T43, .view)], f := cdb_one })]
noncomputable def cdb_blocks_E : Env := { ty := Re.look tyTab, eq := fun n => memB n [44], fn := Re.look cdb_blocks_fns, cut := fun n => memB n [], win := fun n => memB n [], one := fun n => memB n [], onc := fun n => memB n [], pre := fun n => memB n [], ptr := fun n => memB n [], psl := fun n => memB n [], parr := Re.look [], mpt := Re.look [(45, (T43, (.int .u64)))], lnd := fun n => memB n [], mfz := fun n => memB n [35] }
noncomputable def cdb_blocks_an : An (Ds ((([.cell 2 T46] : List RV).map RV.pm).map (·.1) ++ ioTys [.val (.int .i64)])) :=
(.seq (.rg [] none)
(.join [.val 0 (.int .i64), .box 2 T46]
(.seq (.rg [] none)
(.block (.seq (.rg [] none)
(.cond (.seq (.rg [] none)
.leaf) (.seq (.rg [] none)
(.cond (.rg [] none) (.seq (.rg [] none)
(.cond (.rg [] none) (.rg [] none)))))))))
(.join [.box 2 T46]
(.seq (.rg [] none)
(.block (.join [.box 2 T46, .val 24 (.int .i64), .val 25 .bool]
(.seq (.rg [] none)
(.cond .leaf (.rg [] none)))
(.cond (.rg [] none) (.seq (.rg [] none)
(.cond (.rg [] (some (.op ⟨[512], []⟩ (.op ⟨[528], [528]⟩ (.op ⟨[544], []⟩ (.op ⟨[528], [528]⟩ (.op ⟨[528], [528]⟩ (.op ⟨[32], []⟩ (.op ⟨[32], [32]⟩ (.op ⟨[32], []⟩ (.op ⟨[32], [32]⟩ .done))))))))))) .leaf))))))
(.seq (.rg [] none)
.leaf))))
theorem cdb_blocks_Eok : EnvOk Try.prog cdb_blocks_E := env_ok tab_ok (by intro t h; simp only [List.mem_cons, List.mem_nil_iff, or_false, List.not_mem_nil] at h; rcases h with rfl <;> exact ⟨by kernel_rfl, by kernel_rfl, by kernel_rfl⟩) (allFn_mem (show AllFn Try.prog cdb_blocks_fns from ⟨cdb_Size_ok, cdb_whole_ok, cdb_Class_ok, cdb_one_ok, trivial⟩)) mixed (by kernel_rfl) (by kernel_rfl) (by kernel_rfl) (by kernel_rfl)
theorem cdb_blocks_eq (x : Int) : evF cdb_blocks_E 39 (bd Try.f33) [.val (.int .i64)] [.cell 2 T46] cdb_blocks_an x = cdb_blocks x := by kernel_rfl
theorem cdb_blocks_ok : FnOk Try.prog 33 { args := [.val (.int .i64)], res := [(T46, .view)], f := cdb_blocks } :=
  fn_ok cdb_blocks_Eok Try.func33 rfl (by kernel_rfl) (by kernel_rfl) (by kernel_rfl) (rs := [.cell 2 T46]) (c := bd Try.f33) (an := cdb_blocks_an) (ob_flat _ _ _ _ _ _ _ (by kernel_rfl)) cdb_blocks_eq
/-! cdb_of: function 20 -/
noncomputable def cdb_of_fns : List (Nat × Fun) := [(31, { args := [.val (.int .i64), .val (.int .i64)], res := [(T43, .view)], f := cdb_whole }), (32, { args := [.val (.int .i64), .val (.int .i64), .val (.int .i64)], res := [(T43, .view)], f := cdb_one }), (14, { args := [.val (.int .i64)], res := [((.int .i64), .view)], f := cdb_Class }), (33, { args := [.val (.int .i64)], res := [(T46, .view)], f := cdb_blocks })]
noncomputable def cdb_of_E : Env := { ty := Re.look tyTab, eq := fun n => memB n [44], fn := Re.look cdb_of_fns, cut := fun n => memB n [], win := fun n => memB n [], one := fun n => memB n [], onc := fun n => memB n [], pre := fun n => memB n [], ptr := fun n => memB n [], psl := fun n => memB n [], parr := Re.look [], mpt := Re.look [(45, (T43, (.int .u64)))], lnd := fun n => memB n [], mfz := fun n => memB n [9, 23, 31, 40, 49, 56, 67, 74] }
noncomputable def cdb_of_an : An (Ds ((([.cell 2 T46] : List RV).map RV.pm).map (·.1) ++ ioTys [.val (.int .i64)])) :=
(.seq (.rg [] none)
(.seq (.seq (.rg [] none)
(.block (.seq (.rg [] none)
(.cond (.seq (.rg [] none)
.leaf) (.seq (.rg [] none)
(.cond (.seq (.rg [] none)
.leaf) (.seq (.rg [] none)
(.cond (.seq (.rg [] (some (.op ⟨[304], []⟩ (.op ⟨[320], [320]⟩ (.op ⟨[336], []⟩ (.op ⟨[320], [320]⟩ (.op ⟨[352], []⟩ (.op ⟨[320], [320]⟩ (.op ⟨[320], [320]⟩ (.op ⟨[], []⟩ (.op ⟨[32], [32]⟩ .done)))))))))))
.leaf) (.seq (.rg [] none)
(.cond (.seq (.rg [] (some (.op ⟨[432], []⟩ (.op ⟨[448], [448]⟩ (.op ⟨[464], []⟩ (.op ⟨[448], [448]⟩ (.op ⟨[480], []⟩ (.op ⟨[448], [448]⟩ (.op ⟨[448], [448]⟩ (.op ⟨[], []⟩ (.op ⟨[32], [32]⟩ .done)))))))))))
.leaf) (.seq (.rg [] none)
(.cond (.seq (.rg [] none)
.leaf) (.seq (.rg [] none)
(.cond (.seq (.rg [] none)
.leaf) (.seq (.rg [] none)
(.cond (.seq (.rg [] none)
.leaf) (.seq (.rg [] none)
(.cond (.seq (.rg [] none)
.leaf) (.seq (.rg [] none)
(.cond (.seq (.rg [] (some (.op ⟨[1024], [1024]⟩ (.op ⟨[1040], []⟩ (.op ⟨[1024], [1024]⟩ (.op ⟨[1056], []⟩ (.op ⟨[1024], [1024]⟩ (.op ⟨[1024], [1024]⟩ (.op ⟨[], []⟩ (.op ⟨[32], [32]⟩ .done))))))))))
.leaf) (.seq (.rg [] none)
(.cond (.seq (.rg [] none)
.leaf) (.seq (.rg [] none)
(.cond (.seq (.rg [] none)
.leaf) .leaf))))))))))))))))))))))))
(.seq (.seq (.rg [] none)
(.cond (.seq (.rg [] none)
.leaf) .leaf))
(.seq (.rg [] none)
.leaf))))
theorem cdb_of_Eok : EnvOk Try.prog cdb_of_E := env_ok tab_ok (by intro t h; simp only [List.mem_cons, List.mem_nil_iff, or_false, List.not_mem_nil] at h; rcases h with rfl <;> exact ⟨by kernel_rfl, by kernel_rfl, by kernel_rfl⟩) (allFn_mem (show AllFn Try.prog cdb_of_fns from ⟨cdb_whole_ok, cdb_one_ok, cdb_Class_ok, cdb_blocks_ok, trivial⟩)) mixed (by kernel_rfl) (by kernel_rfl) (by kernel_rfl) (by kernel_rfl)
theorem cdb_of_eq (x : Int) : evF cdb_of_E 86 (bd Try.f20) [.val (.int .i64)] [.cell 2 T46] cdb_of_an x = cdb_of x := by kernel_rfl
theorem cdb_of_ok : FnOk Try.prog 20 { args := [.val (.int .i64)], res := [(T46, .view)], f := cdb_of } :=
  fn_ok cdb_of_Eok Try.func20 rfl (by kernel_rfl) (by kernel_rfl) (by kernel_rfl) (rs := [.cell 2 T46]) (c := bd Try.f20) (an := cdb_of_an) (ob_flat _ _ _ _ _ _ _ (by kernel_rfl)) cdb_of_eq
/-! sense_Field: function 21 -/
noncomputable def sense_Field_fns : List (Nat × Fun) := [(30, { args := [.val (.int .i64), .val (.int .i64)], res := [(T27, .view)], f := sense_asked })]
noncomputable def sense_Field_E : Env := { ty := Re.look tyTab, eq := fun n => memB n [], fn := Re.look sense_Field_fns, cut := fun n => memB n [], win := fun n => memB n [], one := fun n => memB n [], onc := fun n => memB n [], pre := fun n => memB n [], ptr := fun n => memB n [], psl := fun n => memB n [], parr := Re.look [], mpt := Re.look [], lnd := fun n => memB n [], mfz := fun n => memB n [] }
noncomputable def sense_Field_an : An (Ds ((([.cell 0 T27] : List RV).map RV.pm).map (·.1) ++ ioTys [])) :=
(.seq (.rg [] none)
(.seq (.rg [] none)
.leaf))
theorem sense_Field_Eok : EnvOk Try.prog sense_Field_E := env_ok tab_ok (by simp) (allFn_mem (show AllFn Try.prog sense_Field_fns from ⟨sense_asked_ok, trivial⟩)) mixed (by kernel_rfl) (by kernel_rfl) (by kernel_rfl) (by kernel_rfl)
theorem sense_Field_eq (x : Unit) : evF sense_Field_E 2 (bd Try.f21) [] [.cell 0 T27] sense_Field_an x = sense_Field x := by kernel_rfl
theorem sense_Field_ok : FnOk Try.prog 21 { args := [], res := [(T27, .view)], f := sense_Field } :=
  fn_ok sense_Field_Eok Try.func21 rfl (by kernel_rfl) (by kernel_rfl) (by kernel_rfl) (rs := [.cell 0 T27]) (c := bd Try.f21) (an := sense_Field_an) (ob_flat _ _ _ _ _ _ _ (by kernel_rfl)) sense_Field_eq
/-! number_cut: function 39 -/
noncomputable def number_cut_fns : List (Nat × Fun) := []
noncomputable def number_cut_E : Env := { ty := Re.look tyTab, eq := fun n => memB n [], fn := Re.look number_cut_fns, cut := fun n => memB n [], win := fun n => memB n [], one := fun n => memB n [], onc := fun n => memB n [], pre := fun n => memB n [], ptr := fun n => memB n [], psl := fun n => memB n [], parr := Re.look [], mpt := Re.look [], lnd := fun n => memB n [], mfz := fun n => memB n [] }
noncomputable def number_cut_an : An (Ds ((([.tmp 6 ((.sl (.int .u8)), .view), .tmp 7 (.bool, .view)] : List RV).map RV.pm).map (·.1) ++ ioTys [.val (.sl (.int .u8)), .val (.int .i64), .val (.int .i64)])) :=
(.seq (.rg [] none)
(.seq (.seq (.rg [] (some (.op ⟨[], []⟩ (.op ⟨[], []⟩ (.op ⟨[], []⟩ (.split 10 [(13, .bool)] (.op ⟨[], []⟩ (.op ⟨[], []⟩ (.op ⟨[], []⟩ .done))) (.op ⟨[], []⟩ (.split 14 [(17, .bool)] (.op ⟨[], []⟩ (.op ⟨[], []⟩ (.op ⟨[], []⟩ .done))) (.op ⟨[], []⟩ (.split 18 [(25, .bool)] (.op ⟨[], []⟩ (.op ⟨[], []⟩ (.op ⟨[], []⟩ (.op ⟨[], []⟩ (.op ⟨[], []⟩ (.op ⟨[], []⟩ (.op ⟨[], []⟩ .done))))))) .done))))))))))
(.cond (.seq (.rg [] none)
.leaf) .leaf))
(.seq (.rg [] none)
.leaf)))
theorem number_cut_Eok : EnvOk Try.prog number_cut_E := env_ok tab_ok (by simp) (allFn_mem (show AllFn Try.prog number_cut_fns from trivial)) mixed (by kernel_rfl) (by kernel_rfl) (by kernel_rfl) (by kernel_rfl)
theorem number_cut_eq (x : (List (BitVec 8)) × Int × Int) : evF number_cut_E 32 (bd Try.f39) [.val (.sl (.int .u8)), .val (.int .i64), .val (.int .i64)] [.tmp 6 ((.sl (.int .u8)), .view), .tmp 7 (.bool, .view)] number_cut_an x = number_cut x := by kernel_rfl
theorem number_cut_ok : FnOk Try.prog 39 { args := [.val (.sl (.int .u8)), .val (.int .i64), .val (.int .i64)], res := [((.sl (.int .u8)), .view), (.bool, .view)], f := number_cut } :=
  fn_ok number_cut_Eok Try.func39 rfl (by kernel_rfl) (by kernel_rfl) (by kernel_rfl) (rs := [.tmp 6 ((.sl (.int .u8)), .view), .tmp 7 (.bool, .view)]) (c := bd Try.f39) (an := number_cut_an) (ob_flat _ _ _ _ _ _ _ (by kernel_rfl)) number_cut_eq
/-! number_Big: function 34 -/
noncomputable def number_Big_fns : List (Nat × Fun) := [(39, { args := [.val (.sl (.int .u8)), .val (.int .i64), .val (.int .i64)], res := [((.sl (.int .u8)), .view), (.bool, .view)], f := number_cut })]
noncomputable def number_Big_E : Env := { ty := Re.look tyTab, eq := fun n => memB n [], fn := Re.look number_Big_fns, cut := fun n => memB n [], win := fun n => memB n [], one := fun n => memB n [], onc := fun n => memB n [], pre := fun n => memB n [], ptr := fun n => memB n [], psl := fun n => memB n [], parr := Re.look [], mpt := Re.look [], lnd := fun n => memB n [], mfz := fun n => memB n [] }
noncomputable def number_Big_an : An (Ds ((([.tmp 6 ((.int .u64), .view), .tmp 7 (.bool, .view)] : List RV).map RV.pm).map (·.1) ++ ioTys [.val (.sl (.int .u8)), .val (.int .i64), .val (.int .i64)])) :=
(.seq (.rg [] none)
(.seq (.rg [] none)
(.seq (.seq (.rg [] none)
(.loop [.val 6 (.int .u64), .val 7 .bool, .val 18 (.sl (.int .u8)), .val 19 (.int .i64), .val 20 (.int .i64)] [.val 6 (.int .u64), .val 7 .bool] number_Big_L0
(.seq (.rg [] none)
(.seq (.cond .leaf .leaf)
(.seq (.block (.seq (.rg [] none)
(.rg [] none)))
(.rg [] none))))))
(.seq (.rg [] none)
.leaf))))
theorem number_Big_Eok : EnvOk Try.prog number_Big_E := env_ok tab_ok (by simp) (allFn_mem (show AllFn Try.prog number_Big_fns from ⟨number_cut_ok, trivial⟩)) mixed (by kernel_rfl) (by kernel_rfl) (by kernel_rfl) (by kernel_rfl)
theorem number_Big_eq (x : (List (BitVec 8)) × Int × Int) : evF number_Big_E 32 (bd Try.f34) [.val (.sl (.int .u8)), .val (.int .i64), .val (.int .i64)] [.tmp 6 ((.int .u64), .view), .tmp 7 (.bool, .view)] number_Big_an x = number_Big x := by kernel_rfl
theorem number_Big_ok : FnOk Try.prog 34 { args := [.val (.sl (.int .u8)), .val (.int .i64), .val (.int .i64)], res := [((.int .u64), .view), (.bool, .view)], f := number_Big } :=
  fn_ok number_Big_Eok Try.func34 rfl (by kernel_rfl) (by kernel_rfl) (by kernel_rfl) (rs := [.tmp 6 ((.int .u64), .view), .tmp 7 (.bool, .view)]) (c := bd Try.f34) (an := number_Big_an) (show obF number_Big_E 32 (bd Try.f34) [.val (.sl (.int .u8)), .val (.int .i64), .val (.int .i64)] [.tmp 6 ((.int .u64), .view), .tmp 7 (.bool, .view)] number_Big_an from (And.intro trivial (And.intro trivial (And.intro (And.intro trivial (And.intro (fun _ => rfl) (And.intro (fun n j => by kernel_rfl) (fun n => (And.intro trivial (And.intro (And.intro trivial trivial) (And.intro (And.intro trivial trivial) trivial))))))) (And.intro trivial trivial))))) number_Big_eq
/-! number_mask: function 40 -/
noncomputable def number_mask_fns : List (Nat × Fun) := []
noncomputable def number_mask_E : Env := { ty := Re.look tyTab, eq := fun n => memB n [], fn := Re.look number_mask_fns, cut := fun n => memB n [], win := fun n => memB n [], one := fun n => memB n [], onc := fun n => memB n [], pre := fun n => memB n [], ptr := fun n => memB n [], psl := fun n => memB n [], parr := Re.look [], mpt := Re.look [], lnd := fun n => memB n [], mfz := fun n => memB n [] }
noncomputable def number_mask_an : An (Ds ((([.tmp 4 ((.int .u64), .view)] : List RV).map RV.pm).map (·.1) ++ ioTys [.val (.int .i64), .val (.int .i64)])) :=
(.seq (.rg [] none)
(.seq (.seq (.rg [] (some (.op ⟨[], []⟩ (.op ⟨[], []⟩ (.op ⟨[], []⟩ (.split 7 [(10, .bool)] (.op ⟨[], []⟩ (.op ⟨[], []⟩ (.op ⟨[], []⟩ .done))) (.op ⟨[], []⟩ (.split 11 [(14, .bool)] (.op ⟨[], []⟩ (.op ⟨[], []⟩ (.op ⟨[], []⟩ .done))) (.op ⟨[], []⟩ (.split 15 [(20, .bool)] (.op ⟨[], []⟩ (.op ⟨[], []⟩ (.op ⟨[], []⟩ (.op ⟨[], []⟩ (.op ⟨[], []⟩ .done))))) .done))))))))))
(.cond (.seq (.rg [] none)
.leaf) .leaf))
(.seq (.rg [] none)
.leaf)))
theorem number_mask_Eok : EnvOk Try.prog number_mask_E := env_ok tab_ok (by simp) (allFn_mem (show AllFn Try.prog number_mask_fns from trivial)) mixed (by kernel_rfl) (by kernel_rfl) (by kernel_rfl) (by kernel_rfl)
theorem number_mask_eq (x : Int × Int) : evF number_mask_E 26 (bd Try.f40) [.val (.int .i64), .val (.int .i64)] [.tmp 4 ((.int .u64), .view)] number_mask_an x = number_mask x := by kernel_rfl
theorem number_mask_ok : FnOk Try.prog 40 { args := [.val (.int .i64), .val (.int .i64)], res := [((.int .u64), .view)], f := number_mask } :=
  fn_ok number_mask_Eok Try.func40 rfl (by kernel_rfl) (by kernel_rfl) (by kernel_rfl) (rs := [.tmp 4 ((.int .u64), .view)]) (c := bd Try.f40) (an := number_mask_an) (ob_flat _ _ _ _ _ _ _ (by kernel_rfl)) number_mask_eq
/-! number_Bits: function 35 -/
noncomputable def number_Bits_fns : List (Nat × Fun) := [(40, { args := [.val (.int .i64), .val (.int .i64)], res := [((.int .u64), .view)], f := number_mask })]
noncomputable def number_Bits_E : Env := { ty := Re.look tyTab, eq := fun n => memB n [], fn := Re.look number_Bits_fns, cut := fun n => memB n [], win := fun n => memB n [], one := fun n => memB n [], onc := fun n => memB n [], pre := fun n => memB n [], ptr := fun n => memB n [], psl := fun n => memB n [], parr := Re.look [], mpt := Re.look [], lnd := fun n => memB n [], mfz := fun n => memB n [] }
noncomputable def number_Bits_an : An (Ds ((([.tmp 6 ((.int .u64), .view)] : List RV).map RV.pm).map (·.1) ++ ioTys [.val (.int .u64), .val (.int .i64), .val (.int .i64)])) :=
(.seq (.rg [] none)
(.seq (.rg [] none)
(.seq (.seq (.rg [] none)
(.cond (.seq (.rg [] none)
.leaf) .leaf))
(.seq (.rg [] none)
.leaf))))
theorem number_Bits_Eok : EnvOk Try.prog number_Bits_E := env_ok tab_ok (by simp) (allFn_mem (show AllFn Try.prog number_Bits_fns from ⟨number_mask_ok, trivial⟩)) mixed (by kernel_rfl) (by kernel_rfl) (by kernel_rfl) (by kernel_rfl)
theorem number_Bits_eq (x : (BitVec 64) × Int × Int) : evF number_Bits_E 18 (bd Try.f35) [.val (.int .u64), .val (.int .i64), .val (.int .i64)] [.tmp 6 ((.int .u64), .view)] number_Bits_an x = number_Bits x := by kernel_rfl
theorem number_Bits_ok : FnOk Try.prog 35 { args := [.val (.int .u64), .val (.int .i64), .val (.int .i64)], res := [((.int .u64), .view)], f := number_Bits } :=
  fn_ok number_Bits_Eok Try.func35 rfl (by kernel_rfl) (by kernel_rfl) (by kernel_rfl) (rs := [.tmp 6 ((.int .u64), .view)]) (c := bd Try.f35) (an := number_Bits_an) (ob_flat _ _ _ _ _ _ _ (by kernel_rfl)) number_Bits_eq
/-! cdb_span_get: function 22 -/
noncomputable def cdb_span_get_fns : List (Nat × Fun) := [(34, { args := [.val (.sl (.int .u8)), .val (.int .i64), .val (.int .i64)], res := [((.int .u64), .view), (.bool, .view)], f := number_Big }), (35, { args := [.val (.int .u64), .val (.int .i64), .val (.int .i64)], res := [((.int .u64), .view)], f := number_Bits })]
noncomputable def cdb_span_get_E : Env := { ty := Re.look tyTab, eq := fun n => memB n [], fn := Re.look cdb_span_get_fns, cut := fun n => memB n [], win := fun n => memB n [], one := fun n => memB n [], onc := fun n => memB n [], pre := fun n => memB n [], ptr := fun n => memB n [], psl := fun n => memB n [], parr := Re.look [], mpt := Re.look [], lnd := fun n => memB n [], mfz := fun n => memB n [] }
noncomputable def cdb_span_get_an : An (Ds ((([.tmp 4 ((.int .u64), .view)] : List RV).map RV.pm).map (·.1) ++ ioTys [.val T43, .val (.sl (.int .u8))])) :=
(.seq (.rg [] none)
(.seq (.rg [] none)
(.join [.val 5 (.int .u64)]
(.seq (.rg [] none)
(.cond (.rg [] none) .leaf))
(.seq (.rg [] none)
.leaf))))
theorem cdb_span_get_Eok : EnvOk Try.prog cdb_span_get_E := env_ok tab_ok (by simp) (allFn_mem (show AllFn Try.prog cdb_span_get_fns from ⟨number_Big_ok, number_Bits_ok, trivial⟩)) mixed (by kernel_rfl) (by kernel_rfl) (by kernel_rfl) (by kernel_rfl)
theorem cdb_span_get_eq (x : (Int × (Int × (Int × (Int × Unit)))) × (List (BitVec 8))) : evF cdb_span_get_E 26 (bd Try.f22) [.val T43, .val (.sl (.int .u8))] [.tmp 4 ((.int .u64), .view)] cdb_span_get_an x = cdb_span_get x := by kernel_rfl
theorem cdb_span_get_ok : FnOk Try.prog 22 { args := [.val T43, .val (.sl (.int .u8))], res := [((.int .u64), .view)], f := cdb_span_get } :=
  fn_ok cdb_span_get_Eok Try.func22 rfl (by kernel_rfl) (by kernel_rfl) (by kernel_rfl) (rs := [.tmp 4 ((.int .u64), .view)]) (c := bd Try.f22) (an := cdb_span_get_an) (ob_flat _ _ _ _ _ _ _ (by kernel_rfl)) cdb_span_get_eq
/-! cdb_fine: function 23 -/
noncomputable def cdb_fine_fns : List (Nat × Fun) := []
noncomputable def cdb_fine_E : Env := { ty := Re.look tyTab, eq := fun n => memB n [], fn := Re.look cdb_fine_fns, cut := fun n => memB n [], win := fun n => memB n [], one := fun n => memB n [], onc := fun n => memB n [], pre := fun n => memB n [], ptr := fun n => memB n [], psl := fun n => memB n [], parr := Re.look [], mpt := Re.look [], lnd := fun n => memB n [], mfz := fun n => memB n [] }
noncomputable def cdb_fine_an : An (Ds ((([.tmp 4 (.bool, .view)] : List RV).map RV.pm).map (·.1) ++ ioTys [.val T25, .val (.sl (.int .u8))])) :=
(.seq (.rg [] none)
(.seq (.seq (.rg [] none)
(.block (.seq (.rg [] none)
(.cond (.seq (.rg [] (some (.op ⟨[32], []⟩ (.op ⟨[32], []⟩ (.op ⟨[], []⟩ (.op ⟨[], []⟩ (.split 12 [(16, .bool)] (.op ⟨[32], []⟩ (.op ⟨[32], []⟩ (.op ⟨[], []⟩ (.op ⟨[], []⟩ .done)))) (.op ⟨[], []⟩ .done))))))))
.leaf) (.seq (.rg [] none)
(.cond (.seq (.rg [] none)
.leaf) (.seq (.rg [] none)
(.cond (.seq (.rg [] (some (.op ⟨[], []⟩ (.op ⟨[], []⟩ (.op ⟨[], []⟩ (.op ⟨[], []⟩ (.op ⟨[], []⟩ (.split 28 [(32, .bool)] (.op ⟨[32], []⟩ (.op ⟨[32], []⟩ (.op ⟨[], []⟩ (.op ⟨[], []⟩ .done)))) (.op ⟨[], []⟩ .done)))))))))
.leaf) .leaf))))))))
(.seq (.rg [] none)
.leaf)))
theorem cdb_fine_Eok : EnvOk Try.prog cdb_fine_E := env_ok tab_ok (by simp) (allFn_mem (show AllFn Try.prog cdb_fine_fns from trivial)) mixed (by kernel_rfl) (by kernel_rfl) (by kernel_rfl) (by kernel_rfl)
theorem cdb_fine_eq (x : (Int × (BitVec 64 × (Int × (Int × (Int × Unit))))) × (List (BitVec 8))) : evF cdb_fine_E 33 (bd Try.f23) [.val T25, .val (.sl (.int .u8))] [.tmp 4 (.bool, .view)] cdb_fine_an x = cdb_fine x := by kernel_rfl
theorem cdb_fine_ok : FnOk Try.prog 23 { args := [.val T25, .val (.sl (.int .u8))], res := [(.bool, .view)], f := cdb_fine } :=
  fn_ok cdb_fine_Eok Try.func23 rfl (by kernel_rfl) (by kernel_rfl) (by kernel_rfl) (rs := [.tmp 4 (.bool, .view)]) (c := bd Try.f23) (an := cdb_fine_an) (ob_flat _ _ _ _ _ _ _ (by kernel_rfl)) cdb_fine_eq
/-! cdb_Parse: function 8 -/
noncomputable def cdb_Parse_fns : List (Nat × Fun) := [(12, { args := [.val (.int .i64)], res := [(.bool, .view)], f := cdb_Known }), (19, { args := [], res := [(T27, .view)], f := sense_Unknown }), (10, { args := [.val (.int .i64)], res := [((.int .i64), .view)], f := cdb_Size }), (20, { args := [.val (.int .i64)], res := [(T46, .view)], f := cdb_of }), (21, { args := [], res := [(T27, .view)], f := sense_Field }), (22, { args := [.val T43, .val (.sl (.int .u8))], res := [((.int .u64), .view)], f := cdb_span_get }), (14, { args := [.val (.int .i64)], res := [((.int .i64), .view)], f := cdb_Class }), (23, { args := [.val T25, .val (.sl (.int .u8))], res := [(.bool, .view)], f := cdb_fine })]
noncomputable def cdb_Parse_E : Env := { ty := Re.look tyTab, eq := fun n => memB n [], fn := Re.look cdb_Parse_fns, cut := fun n => memB n [], win := fun n => memB n [], one := fun n => memB n [], onc := fun n => memB n [], pre := fun n => memB n [], ptr := fun n => memB n [], psl := fun n => memB n [], parr := Re.look [], mpt := Re.look [], lnd := fun n => memB n [], mfz := fun n => memB n [] }
noncomputable def cdb_Parse_an : An (Ds ((([.cell 2 T25, .cell 3 T27] : List RV).map RV.pm).map (·.1) ++ ioTys [.val (.sl (.int .u8))])) :=
(.seq (.rg [] none)
(.seq (.seq (.rg [] (some (.op ⟨[], []⟩ (.op ⟨[], []⟩ (.op ⟨[], []⟩ (.op ⟨[], []⟩ (.split 13 [(20, .bool)] (.op ⟨[], []⟩ (.op ⟨[], []⟩ (.op ⟨[], []⟩ (.op ⟨[], []⟩ (.op ⟨[288], []⟩ (.op ⟨[], []⟩ (.op ⟨[], []⟩ .done))))))) .done)))))))
(.cond (.seq (.rg [] none)
.leaf) .leaf))
(.seq (.rg [] none)
(.seq (.rg [] none)
(.seq (.seq (.rg [] (some (.op ⟨[], []⟩ (.op ⟨[], []⟩ (.op ⟨[], []⟩ (.op ⟨[], []⟩ (.op ⟨[], []⟩ (.split 35 [(42, .bool)] (.op ⟨[], []⟩ (.op ⟨[], []⟩ (.op ⟨[], []⟩ (.op ⟨[], []⟩ (.op ⟨[], []⟩ (.op ⟨[], []⟩ (.op ⟨[], []⟩ .done))))))) .done))))))))
(.cond (.seq (.rg [] none)
.leaf) .leaf))
(.seq (.seq (.rg [] none)
(.loop [.val 0 (.sl (.int .u8)), .box 2 T25, .box 3 T27, .val 4 (.int .i64), .val 5 (.int .i64), .box 6 T46, .row 47 (.pair T43 (.int .u64)) (.it false)] [.val 0 (.sl (.int .u8)), .box 2 T25, .box 3 T27, .val 4 (.int .i64), .val 5 (.int .i64), .box 6 T46] cdb_Parse_L0
(.seq .nx
(.seq (.cond .leaf .leaf)
(.block (.seq (.rg [] none)
(.seq (.rg [] none)
(.cond (.seq (.rg [] none)
.leaf) .leaf))))))))
(.seq (.rg [] (some (.op ⟨[], []⟩ (.op ⟨[96], []⟩ (.op ⟨[96], []⟩ (.op ⟨[], []⟩ (.op ⟨[1024], []⟩ (.op ⟨[96], []⟩ (.op ⟨[96], []⟩ (.op ⟨[], []⟩ (.op ⟨[1088], []⟩ (.op ⟨[], []⟩ (.op ⟨[96], []⟩ (.op ⟨[96], []⟩ (.op ⟨[], []⟩ (.op ⟨[1168], []⟩ (.op ⟨[], []⟩ (.op ⟨[96], []⟩ (.op ⟨[96], []⟩ (.op ⟨[], []⟩ (.op ⟨[1248], []⟩ (.op ⟨[], []⟩ (.op ⟨[], []⟩ (.op ⟨[144], [144]⟩ (.op ⟨[144], [144]⟩ .done)))))))))))))))))))))))))
(.join [.val 0 (.sl (.int .u8)), .box 2 T25, .box 3 T27, .box 9 T25]
(.seq (.rg [] (some (.op ⟨[], []⟩ (.op ⟨[], []⟩ (.op ⟨[], []⟩ (.split 83 [(87, .bool)] (.op ⟨[], []⟩ (.op ⟨[1360], []⟩ (.op ⟨[], []⟩ (.op ⟨[], []⟩ .done)))) (.op ⟨[], []⟩ (.split 88 [(92, .bool)] (.op ⟨[144], []⟩ (.op ⟨[144], []⟩ (.op ⟨[], []⟩ (.op ⟨[], []⟩ .done)))) .done))))))))
(.cond (.rg [] none) .leaf))
(.seq (.seq (.rg [] none)
(.cond (.seq (.rg [] none)
.leaf) .leaf))
(.seq (.rg [] none)
.leaf))))))))))
theorem cdb_Parse_Eok : EnvOk Try.prog cdb_Parse_E := env_ok tab_ok (by simp) (allFn_mem (show AllFn Try.prog cdb_Parse_fns from ⟨cdb_Known_ok, sense_Unknown_ok, cdb_Size_ok, cdb_of_ok, sense_Field_ok, cdb_span_get_ok, cdb_Class_ok, cdb_fine_ok, trivial⟩)) mixed (by kernel_rfl) (by kernel_rfl) (by kernel_rfl) (by kernel_rfl)
theorem cdb_Parse_eq (x : (List (BitVec 8))) : evF cdb_Parse_E 102 (bd Try.f8) [.val (.sl (.int .u8))] [.cell 2 T25, .cell 3 T27] cdb_Parse_an x = cdb_Parse x := by kernel_rfl
theorem cdb_Parse_ok : FnOk Try.prog 8 { args := [.val (.sl (.int .u8))], res := [(T25, .view), (T27, .view)], f := cdb_Parse } :=
  fn_ok cdb_Parse_Eok Try.func8 rfl (by kernel_rfl) (by kernel_rfl) (by kernel_rfl) (rs := [.cell 2 T25, .cell 3 T27]) (c := bd Try.f8) (an := cdb_Parse_an) (show obF cdb_Parse_E 102 (bd Try.f8) [.val (.sl (.int .u8))] [.cell 2 T25, .cell 3 T27] cdb_Parse_an from (And.intro trivial (And.intro (And.intro trivial (And.intro (And.intro trivial trivial) trivial)) (And.intro trivial (And.intro trivial (And.intro (And.intro trivial (And.intro (And.intro trivial trivial) trivial)) (And.intro (And.intro trivial (And.intro (fun _ => rfl) (And.intro (fun n j => by kernel_rfl) (fun n => (And.intro trivial (And.intro (And.intro trivial trivial) (And.intro trivial (And.intro trivial (And.intro (And.intro trivial trivial) trivial))))))))) (And.intro trivial (And.intro (And.intro trivial (And.intro trivial trivial)) (And.intro (And.intro trivial (And.intro (And.intro trivial trivial) trivial)) (And.intro trivial trivial))))))))))) cdb_Parse_eq
/-! number_Set: function 38 -/
noncomputable def number_Set_fns : List (Nat × Fun) := [(40, { args := [.val (.int .i64), .val (.int .i64)], res := [((.int .u64), .view)], f := number_mask })]
noncomputable def number_Set_E : Env := { ty := Re.look tyTab, eq := fun n => memB n [], fn := Re.look number_Set_fns, cut := fun n => memB n [], win := fun n => memB n [], one := fun n => memB n [], onc := fun n => memB n [], pre := fun n => memB n [], ptr := fun n => memB n [], psl := fun n => memB n [], parr := Re.look [], mpt := Re.look [], lnd := fun n => memB n [], mfz := fun n => memB n [] }
noncomputable def number_Set_an : An (Ds ((([.tmp 8 ((.int .u64), .view)] : List RV).map RV.pm).map (·.1) ++ ioTys [.val (.int .u64), .val (.int .i64), .val (.int .i64), .val (.int .u64)])) :=
(.seq (.rg [] none)
(.seq (.rg [] none)
(.seq (.seq (.rg [] none)
(.cond (.seq (.rg [] none)
.leaf) .leaf))
(.seq (.rg [] none)
.leaf))))
theorem number_Set_Eok : EnvOk Try.prog number_Set_E := env_ok tab_ok (by simp) (allFn_mem (show AllFn Try.prog number_Set_fns from ⟨number_mask_ok, trivial⟩)) mixed (by kernel_rfl) (by kernel_rfl) (by kernel_rfl) (by kernel_rfl)
theorem number_Set_eq (x : (BitVec 64) × Int × Int × (BitVec 64)) : evF number_Set_E 25 (bd Try.f38) [.val (.int .u64), .val (.int .i64), .val (.int .i64), .val (.int .u64)] [.tmp 8 ((.int .u64), .view)] number_Set_an x = number_Set x := by kernel_rfl
theorem number_Set_ok : FnOk Try.prog 38 { args := [.val (.int .u64), .val (.int .i64), .val (.int .i64), .val (.int .u64)], res := [((.int .u64), .view)], f := number_Set } :=
  fn_ok number_Set_Eok Try.func38 rfl (by kernel_rfl) (by kernel_rfl) (by kernel_rfl) (rs := [.tmp 8 ((.int .u64), .view)]) (c := bd Try.f38) (an := number_Set_an) (ob_flat _ _ _ _ _ _ _ (by kernel_rfl)) number_Set_eq
/-! number_PutLittle: function 42 -/
noncomputable def number_PutLittle_fns : List (Nat × Fun) := []
noncomputable def number_PutLittle_E : Env := { ty := Re.look tyTab, eq := fun n => memB n [], fn := Re.look number_PutLittle_fns, cut := fun n => memB n [], win := fun n => memB n [], one := fun n => memB n [], onc := fun n => memB n [], pre := fun n => memB n [], ptr := fun n => memB n [], psl := fun n => memB n [], parr := Re.look [], mpt := Re.look [], lnd := fun n => memB n [], mfz := fun n => memB n [] }
noncomputable def number_PutLittle_an : An (Ds ((([.tmp 4 ((.sl (.int .u8)), .full)] : List RV).map RV.pm).map (·.1) ++ ioTys [.val (.int .u64), .val (.int .i64)])) :=
(.seq (.rg [] none)
(.seq (.seq (.rg [] (some (.op ⟨[], []⟩ (.op ⟨[], []⟩ (.op ⟨[], []⟩ (.split 7 [(10, .bool)] (.op ⟨[], []⟩ (.op ⟨[], []⟩ (.op ⟨[], []⟩ .done))) .done))))))
(.cond (.seq (.rg [] none)
.leaf) .leaf))
(.seq (.seq (.rg [] none)
(.loop [.val 0 (.int .u64), .row 4 (.int .u8) .full, .val 11 (.int .i64), .val 12 (.int .i64)] [.row 4 (.int .u8) .full] number_PutLittle_L0
(.seq (.rg [] none)
(.seq (.cond .leaf .leaf)
(.seq (.block (.seq (.rg [] none)
(.rg [] none)))
(.rg [] none))))))
(.seq (.rg [] none)
.leaf))))
theorem number_PutLittle_Eok : EnvOk Try.prog number_PutLittle_E := env_ok tab_ok (by simp) (allFn_mem (show AllFn Try.prog number_PutLittle_fns from trivial)) mixed (by kernel_rfl) (by kernel_rfl) (by kernel_rfl) (by kernel_rfl)
theorem number_PutLittle_eq (x : (BitVec 64) × Int) : evF number_PutLittle_E 23 (bd Try.f42) [.val (.int .u64), .val (.int .i64)] [.tmp 4 ((.sl (.int .u8)), .full)] number_PutLittle_an x = number_PutLittle x := by kernel_rfl
theorem number_PutLittle_ok : FnOk Try.prog 42 { args := [.val (.int .u64), .val (.int .i64)], res := [((.sl (.int .u8)), .full)], f := number_PutLittle } :=
  fn_ok number_PutLittle_Eok Try.func42 rfl (by kernel_rfl) (by kernel_rfl) (by kernel_rfl) (rs := [.tmp 4 ((.sl (.int .u8)), .full)]) (c := bd Try.f42) (an := number_PutLittle_an) (show obF number_PutLittle_E 23 (bd Try.f42) [.val (.int .u64), .val (.int .i64)] [.tmp 4 ((.sl (.int .u8)), .full)] number_PutLittle_an from (And.intro trivial (And.intro (And.intro trivial (And.intro (And.intro trivial trivial) trivial)) (And.intro (And.intro trivial (And.intro (fun _ => rfl) (And.intro (fun n j => by kernel_rfl) (fun n => (And.intro trivial (And.intro (And.intro trivial trivial) (And.intro (And.intro trivial trivial) trivial))))))) (And.intro trivial trivial))))) number_PutLittle_eq
/-! slices_Reverse_byte: function 43 -/
noncomputable def slices_Reverse_byte_fns : List (Nat × Fun) := []
noncomputable def slices_Reverse_byte_E : Env := { ty := Re.look tyTab, eq := fun n => memB n [], fn := Re.look slices_Reverse_byte_fns, cut := fun n => memB n [], win := fun n => memB n [], one := fun n => memB n [], onc := fun n => memB n [], pre := fun n => memB n [], ptr := fun n => memB n [], psl := fun n => memB n [], parr := Re.look [], mpt := Re.look [], lnd := fun n => memB n [], mfz := fun n => memB n [] }
noncomputable def slices_Reverse_byte_an : An (Ds ((([] : List RV).map RV.pm).map (·.1) ++ ioTys [.row (.int .u8)])) :=
(.seq (.rg [] none)
(.loop [.prow 0 (.int .u8), .val 2 (.int .i64), .val 3 (.int .i64)] [.prow 0 (.int .u8)] slices_Reverse_byte_L0
(.seq (.seq (.rg [] none)
(.cond .leaf .leaf))
(.seq (.block (.rg [] (some (.op ⟨[], []⟩ (.op ⟨[], []⟩ (.op ⟨[], []⟩ (.op ⟨[], []⟩ (.op ⟨[], []⟩ (.op ⟨[], []⟩ (.op ⟨[0], []⟩ (.op ⟨[0], []⟩ (.op ⟨[], []⟩ (.op ⟨[], []⟩ (.op ⟨[0], []⟩ (.op ⟨[0], []⟩ (.op ⟨[0], []⟩ (.op ⟨[0], [0]⟩ (.op ⟨[0], []⟩ (.op ⟨[0], [0]⟩ .done)))))))))))))))))))
(.rg [] none)))))
theorem slices_Reverse_byte_Eok : EnvOk Try.prog slices_Reverse_byte_E := env_ok tab_ok (by simp) (allFn_mem (show AllFn Try.prog slices_Reverse_byte_fns from trivial)) mixed (by kernel_rfl) (by kernel_rfl) (by kernel_rfl) (by kernel_rfl)
theorem slices_Reverse_byte_eq (x : (List (BitVec 8))) : evF slices_Reverse_byte_E 28 (bd Try.f43) [.row (.int .u8)] [] slices_Reverse_byte_an x = slices_Reverse_byte x := by kernel_rfl
theorem slices_Reverse_byte_ok : FnOk Try.prog 43 { args := [.row (.int .u8)], res := [], f := slices_Reverse_byte } :=
  fn_ok slices_Reverse_byte_Eok Try.func43 rfl (by kernel_rfl) (by kernel_rfl) (by kernel_rfl) (rs := []) (c := bd Try.f43) (an := slices_Reverse_byte_an) (show obF slices_Reverse_byte_E 28 (bd Try.f43) [.row (.int .u8)] [] slices_Reverse_byte_an from (And.intro trivial (And.intro (fun _ => rfl) (And.intro (fun n j => by kernel_rfl) (fun n => (And.intro (And.intro trivial (And.intro trivial trivial)) (And.intro trivial trivial))))))) slices_Reverse_byte_eq
/-! number_PutBig: function 37 -/
noncomputable def number_PutBig_fns : List (Nat × Fun) := [(42, { args := [.val (.int .u64), .val (.int .i64)], res := [((.sl (.int .u8)), .full)], f := number_PutLittle }), (43, { args := [.row (.int .u8)], res := [], f := slices_Reverse_byte })]
noncomputable def number_PutBig_E : Env := { ty := Re.look tyTab, eq := fun n => memB n [], fn := Re.look number_PutBig_fns, cut := fun n => memB n [], win := fun n => memB n [], one := fun n => memB n [], onc := fun n => memB n [], pre := fun n => memB n [], ptr := fun n => memB n [], psl := fun n => memB n [], parr := Re.look [], mpt := Re.look [], lnd := fun n => memB n [], mfz := fun n => memB n [] }
noncomputable def number_PutBig_an : An (Ds ((([.tmp 4 ((.sl (.int .u8)), .full)] : List RV).map RV.pm).map (·.1) ++ ioTys [.val (.int .u64), .val (.int .i64)])) :=
(.seq (.rg [] none)
(.seq (.rg [] none)
(.seq (.rg [] none)
(.seq (.rg [] none)
.leaf))))
theorem number_PutBig_Eok : EnvOk Try.prog number_PutBig_E := env_ok tab_ok (by simp) (allFn_mem (show AllFn Try.prog number_PutBig_fns from ⟨number_PutLittle_ok, slices_Reverse_byte_ok, trivial⟩)) mixed (by kernel_rfl) (by kernel_rfl) (by kernel_rfl) (by kernel_rfl)
theorem number_PutBig_eq (x : (BitVec 64) × Int) : evF number_PutBig_E 12 (bd Try.f37) [.val (.int .u64), .val (.int .i64)] [.tmp 4 ((.sl (.int .u8)), .full)] number_PutBig_an x = number_PutBig x := by kernel_rfl
theorem number_PutBig_ok : FnOk Try.prog 37 { args := [.val (.int .u64), .val (.int .i64)], res := [((.sl (.int .u8)), .full)], f := number_PutBig } :=
  fn_ok number_PutBig_Eok Try.func37 rfl (by kernel_rfl) (by kernel_rfl) (by kernel_rfl) (rs := [.tmp 4 ((.sl (.int .u8)), .full)]) (c := bd Try.f37) (an := number_PutBig_an) (ob_flat _ _ _ _ _ _ _ (by kernel_rfl)) number_PutBig_eq
/-! cdb_span_put: function 27 -/
noncomputable def cdb_span_put_fns : List (Nat × Fun) := [(34, { args := [.val (.sl (.int .u8)), .val (.int .i64), .val (.int .i64)], res := [((.int .u64), .view), (.bool, .view)], f := number_Big }), (38, { args := [.val (.int .u64), .val (.int .i64), .val (.int .i64), .val (.int .u64)], res := [((.int .u64), .view)], f := number_Set }), (37, { args := [.val (.int .u64), .val (.int .i64)], res := [((.sl (.int .u8)), .full)], f := number_PutBig })]
noncomputable def cdb_span_put_E : Env := { ty := Re.look tyTab, eq := fun n => memB n [], fn := Re.look cdb_span_put_fns, cut := fun n => memB n [], win := fun n => memB n [28], one := fun n => memB n [], onc := fun n => memB n [], pre := fun n => memB n [], ptr := fun n => memB n [], psl := fun n => memB n [], parr := Re.look [], mpt := Re.look [], lnd := fun n => memB n [15], mfz := fun n => memB n [] }
noncomputable def cdb_span_put_an : An (Ds ((([] : List RV).map RV.pm).map (·.1) ++ ioTys [.val T43, .row (.int .u8), .val (.int .u64)])) :=
(.seq (.rg [] none)
(.seq (.rg [] none)
(.seq (.rg [] none)
(.join [.prow 1 (.int .u8), .val 2 (.int .u64), .box 3 T43, .val 6 (.int .u64), .val 8 (.int .i64)]
(.seq (.rg [] none)
(.cond (.rg [] none) .leaf))
(.rg [] (some (.op ⟨[], []⟩ (.op ⟨[48], []⟩ (.op ⟨[48], []⟩ (.op ⟨[16], []⟩ (.op ⟨[], []⟩ (.op ⟨[48], []⟩ (.op ⟨[48], []⟩ (.op ⟨[], []⟩ (.op ⟨[], []⟩ (.op ⟨[544], []⟩ (.op ⟨[48], []⟩ (.op ⟨[48], []⟩ (.op ⟨[592], [592]⟩ (.op ⟨[16, 592], [16]⟩ .done))))))))))))))))))))
theorem cdb_span_put_Eok : EnvOk Try.prog cdb_span_put_E := env_ok tab_ok (by simp) (allFn_mem (show AllFn Try.prog cdb_span_put_fns from ⟨number_Big_ok, number_Set_ok, number_PutBig_ok, trivial⟩)) mixed (by kernel_rfl) (by kernel_rfl) (by kernel_rfl) (by kernel_rfl)
theorem cdb_span_put_eq (x : (Int × (Int × (Int × (Int × Unit)))) × (List (BitVec 8)) × (BitVec 64)) : evF cdb_span_put_E 39 (bd Try.f27) [.val T43, .row (.int .u8), .val (.int .u64)] [] cdb_span_put_an x = cdb_span_put x := by kernel_rfl
theorem cdb_span_put_ok : FnOk Try.prog 27 { args := [.val T43, .row (.int .u8), .val (.int .u64)], res := [], f := cdb_span_put } :=
  fn_ok cdb_span_put_Eok Try.func27 rfl (by kernel_rfl) (by kernel_rfl) (by kernel_rfl) (rs := []) (c := bd Try.f27) (an := cdb_span_put_an) (ob_flat _ _ _ _ _ _ _ (by kernel_rfl)) cdb_span_put_eq
/-! sense_Good: function 28 -/
noncomputable def sense_Good_fns : List (Nat × Fun) := []
noncomputable def sense_Good_E : Env := { ty := Re.look tyTab, eq := fun n => memB n [28], fn := Re.look sense_Good_fns, cut := fun n => memB n [], win := fun n => memB n [], one := fun n => memB n [], onc := fun n => memB n [], pre := fun n => memB n [], ptr := fun n => memB n [], psl := fun n => memB n [], parr := Re.look [], mpt := Re.look [], lnd := fun n => memB n [], mfz := fun n => memB n [] }
noncomputable def sense_Good_an : An (Ds ((([.tmp 2 (.bool, .view)] : List RV).map RV.pm).map (·.1) ++ ioTys [.val T27])) :=
(.seq (.rg [] none)
(.seq (.rg [] none)
.leaf))
theorem sense_Good_Eok : EnvOk Try.prog sense_Good_E := env_ok tab_ok (by intro t h; simp only [List.mem_cons, List.mem_nil_iff, or_false, List.not_mem_nil] at h; rcases h with rfl <;> exact ⟨by kernel_rfl, by kernel_rfl, by kernel_rfl⟩) (allFn_mem (show AllFn Try.prog sense_Good_fns from trivial)) mixed (by kernel_rfl) (by kernel_rfl) (by kernel_rfl) (by kernel_rfl)
theorem sense_Good_eq (x : (Int × (Int × (Int × Unit)))) : evF sense_Good_E 6 (bd Try.f28) [.val T27] [.tmp 2 (.bool, .view)] sense_Good_an x = sense_Good x := by kernel_rfl
theorem sense_Good_ok : FnOk Try.prog 28 { args := [.val T27], res := [(.bool, .view)], f := sense_Good } :=
  fn_ok sense_Good_Eok Try.func28 rfl (by kernel_rfl) (by kernel_rfl) (by kernel_rfl) (rs := [.tmp 2 (.bool, .view)]) (c := bd Try.f28) (an := sense_Good_an) (ob_flat _ _ _ _ _ _ _ (by kernel_rfl)) sense_Good_eq
/-! cdb_Bytes: function 16 -/
noncomputable def cdb_Bytes_fns : List (Nat × Fun) := [(12, { args := [.val (.int .i64)], res := [(.bool, .view)], f := cdb_Known }), (10, { args := [.val (.int .i64)], res := [((.int .i64), .view)], f := cdb_Size }), (20, { args := [.val (.int .i64)], res := [(T46, .view)], f := cdb_of }), (27, { args := [.val T43, .row (.int .u8), .val (.int .u64)], res := [], f := cdb_span_put }), (8, { args := [.val (.sl (.int .u8))], res := [(T25, .view), (T27, .view)], f := cdb_Parse }), (28, { args := [.val T27], res := [(.bool, .view)], f := sense_Good })]
noncomputable def cdb_Bytes_E : Env := { ty := Re.look tyTab, eq := fun n => memB n [26, 44], fn := Re.look cdb_Bytes_fns, cut := fun n => memB n [], win := fun n => memB n [], one := fun n => memB n [], onc := fun n => memB n [], pre := fun n => memB n [], ptr := fun n => memB n [], psl := fun n => memB n [], parr := Re.look [], mpt := Re.look [(45, (T43, (.int .u64)))], lnd := fun n => memB n [77], mfz := fun n => memB n [61] }
noncomputable def cdb_Bytes_an : An (Ds ((([.tmp 2 ((.sl (.int .u8)), .full), .tmp 3 (.bool, .view)] : List RV).map RV.pm).map (·.1) ++ ioTys [.val T25])) :=
(.seq (.rg [] none)
(.seq (.seq (.rg [] none)
(.cond (.seq (.rg [] none)
.leaf) .leaf))
(.seq (.rg [] (some (.op ⟨[16], []⟩ (.op ⟨[16], []⟩ (.op ⟨[304], []⟩ (.op ⟨[320], [320]⟩ (.op ⟨[16], []⟩ (.op ⟨[16], []⟩ (.op ⟨[368], []⟩ (.op ⟨[80], [80]⟩ (.op ⟨[], []⟩ (.op ⟨[80], [80]⟩ .done))))))))))))
(.seq (.rg [] none)
(.seq (.rg [] (some (.op ⟨[464], [464]⟩ (.op ⟨[80], []⟩ (.op ⟨[80], []⟩ (.op ⟨[16], []⟩ (.op ⟨[16], []⟩ (.op ⟨[464], [464]⟩ (.op ⟨[80], []⟩ (.op ⟨[80], []⟩ (.op ⟨[16], []⟩ (.op ⟨[16], []⟩ (.op ⟨[], []⟩ (.op ⟨[464], [464]⟩ (.op ⟨[80], []⟩ (.op ⟨[80], []⟩ (.op ⟨[16], []⟩ (.op ⟨[16], []⟩ (.op ⟨[], []⟩ (.op ⟨[464], [464]⟩ (.op ⟨[80], []⟩ (.op ⟨[80], []⟩ (.op ⟨[16], []⟩ (.op ⟨[16], []⟩ (.op ⟨[], []⟩ (.op ⟨[464], [464]⟩ (.op ⟨[], []⟩ (.op ⟨[], []⟩ .done))))))))))))))))))))))))))))
(.seq (.seq (.rg [] none)
(.loop [.box 1 T25, .row 4 (.int .u8) .full, .row 6 (.pair T43 (.int .u64)) .bg, .row 52 (.pair T43 (.int .u64)) (.it false)] [.box 1 T25, .row 4 (.int .u8) .full, .row 6 (.pair T43 (.int .u64)) .bg] cdb_Bytes_L0
(.seq .nx
(.seq (.cond .leaf .leaf)
(.block (.seq (.rg [] none)
(.rg [] none)))))))
(.seq (.seq (.rg [] none)
(.loop [.box 1 T25, .row 4 (.int .u8) .full, .row 62 (.pair T43 (.int .u64)) (.it false)] [.box 1 T25, .row 4 (.int .u8) .full] cdb_Bytes_L1
(.seq .nx
(.seq (.cond .leaf .leaf)
(.block (.seq (.rg [] none)
(.seq (.rg [] none)
(.cond (.rg [] none) .leaf))))))))
(.seq (.seq (.rg [] none)
(.seq (.rg [] (some (.op ⟨[192], []⟩ (.op ⟨[1296], []⟩ (.op ⟨[], []⟩ (.op ⟨[], []⟩ (.split 83 [(87, .bool)] (.op ⟨[176], []⟩ (.op ⟨[16], []⟩ (.op ⟨[], []⟩ (.op ⟨[], []⟩ .done)))) .done)))))))
(.cond (.seq (.rg [] none)
.leaf) .leaf)))
(.seq (.rg [] none)
.leaf)))))))))
theorem cdb_Bytes_Eok : EnvOk Try.prog cdb_Bytes_E := env_ok tab_ok (by intro t h; simp only [List.mem_cons, List.mem_nil_iff, or_false, List.not_mem_nil] at h; rcases h with rfl | rfl <;> exact ⟨by kernel_rfl, by kernel_rfl, by kernel_rfl⟩) (allFn_mem (show AllFn Try.prog cdb_Bytes_fns from ⟨cdb_Known_ok, cdb_Size_ok, cdb_of_ok, cdb_span_put_ok, cdb_Parse_ok, sense_Good_ok, trivial⟩)) mixed (by kernel_rfl) (by kernel_rfl) (by kernel_rfl) (by kernel_rfl)
theorem cdb_Bytes_eq (x : (Int × (BitVec 64 × (Int × (Int × (Int × Unit)))))) : evF cdb_Bytes_E 89 (bd Try.f16) [.val T25] [.tmp 2 ((.sl (.int .u8)), .full), .tmp 3 (.bool, .view)] cdb_Bytes_an x = cdb_Bytes x := by kernel_rfl
theorem cdb_Bytes_ok : FnOk Try.prog 16 { args := [.val T25], res := [((.sl (.int .u8)), .full), (.bool, .view)], f := cdb_Bytes } :=
  fn_ok cdb_Bytes_Eok Try.func16 rfl (by kernel_rfl) (by kernel_rfl) (by kernel_rfl) (rs := [.tmp 2 ((.sl (.int .u8)), .full), .tmp 3 (.bool, .view)]) (c := bd Try.f16) (an := cdb_Bytes_an) (show obF cdb_Bytes_E 89 (bd Try.f16) [.val T25] [.tmp 2 ((.sl (.int .u8)), .full), .tmp 3 (.bool, .view)] cdb_Bytes_an from (And.intro trivial (And.intro (And.intro trivial (And.intro (And.intro trivial trivial) trivial)) (And.intro trivial (And.intro trivial (And.intro trivial (And.intro (And.intro trivial (And.intro (fun _ => rfl) (And.intro (fun n j => by kernel_rfl) (fun n => (And.intro trivial (And.intro (And.intro trivial trivial) (And.intro trivial trivial))))))) (And.intro (And.intro trivial (And.intro (fun _ => rfl) (And.intro (fun n j => by kernel_rfl) (fun n => (And.intro trivial (And.intro (And.intro trivial trivial) (And.intro trivial (And.intro trivial (And.intro trivial trivial))))))))) (And.intro (And.intro trivial (And.intro trivial (And.intro (And.intro trivial trivial) trivial))) (And.intro trivial trivial)))))))))) cdb_Bytes_eq
/-! reticuleref04_Of: function 18 -/
noncomputable def reticuleref04_Of_fns : List (Nat × Fun) := []
noncomputable def reticuleref04_Of_E : Env := { ty := Re.look tyTab, eq := fun n => memB n [], fn := Re.look reticuleref04_Of_fns, cut := fun n => memB n [], win := fun n => memB n [], one := fun n => memB n [], onc := fun n => memB n [], pre := fun n => memB n [], ptr := fun n => memB n [], psl := fun n => memB n [], parr := Re.look [], mpt := Re.look [], lnd := fun n => memB n [], mfz := fun n => memB n [] }
noncomputable def reticuleref04_Of_an : An (Ds ((([.cell 6 T27] : List RV).map RV.pm).map (·.1) ++ ioTys [.val (.int .i64), .val (.int .i64), .val (.int .i64)])) :=
(.seq (.rg [] none)
(.seq (.rg [] none)
.leaf))
theorem reticuleref04_Of_Eok : EnvOk Try.prog reticuleref04_Of_E := env_ok tab_ok (by simp) (allFn_mem (show AllFn Try.prog reticuleref04_Of_fns from trivial)) mixed (by kernel_rfl) (by kernel_rfl) (by kernel_rfl) (by kernel_rfl)
theorem reticuleref04_Of_eq (x : Int × Int × Int) : evF reticuleref04_Of_E 11 (bd Try.f18) [.val (.int .i64), .val (.int .i64), .val (.int .i64)] [.cell 6 T27] reticuleref04_Of_an x = reticuleref04_Of x := by kernel_rfl
theorem reticuleref04_Of_ok : FnOk Try.prog 18 { args := [.val (.int .i64), .val (.int .i64), .val (.int .i64)], res := [(T27, .view)], f := reticuleref04_Of } :=
  fn_ok reticuleref04_Of_Eok Try.func18 rfl (by kernel_rfl) (by kernel_rfl) (by kernel_rfl) (rs := [.cell 6 T27]) (c := bd Try.f18) (an := reticuleref04_Of_an) (ob_flat _ _ _ _ _ _ _ (by kernel_rfl)) reticuleref04_Of_eq
/-! reticulelaw06_alive: function 7 -/
noncomputable def reticulelaw06_alive_fns : List (Nat × Fun) := [(8, { args := [.val (.sl (.int .u8))], res := [(T25, .view), (T27, .view)], f := cdb_Parse }), (16, { args := [.val T25], res := [((.sl (.int .u8)), .full), (.bool, .view)], f := cdb_Bytes }), (18, { args := [.val (.int .i64), .val (.int .i64), .val (.int .i64)], res := [(T27, .view)], f := reticuleref04_Of }), (10, { args := [.val (.int .i64)], res := [((.int .i64), .view)], f := cdb_Size }), (12, { args := [.val (.int .i64)], res := [(.bool, .view)], f := cdb_Known }), (14, { args := [.val (.int .i64)], res := [((.int .i64), .view)], f := cdb_Class })]
noncomputable def reticulelaw06_alive_E : Env := { ty := Re.look tyTab, eq := fun n => memB n [26, 28], fn := Re.look reticulelaw06_alive_fns, cut := fun n => memB n [], win := fun n => memB n [], one := fun n => memB n [], onc := fun n => memB n [], pre := fun n => memB n [], ptr := fun n => memB n [], psl := fun n => memB n [], parr := Re.look [], mpt := Re.look [], lnd := fun n => memB n [15, 25, 30, 35], mfz := fun n => memB n [] }
noncomputable def reticulelaw06_alive_an : An (Ds ((([.tmp 0 (.bool, .view)] : List RV).map RV.pm).map (·.1) ++ ioTys [])) :=
(.seq (.rg [] none)
(.seq (.rg [] none)
(.seq (.rg [] none)
(.seq (.rg [] none)
(.seq (.rg [] none)
(.seq (.rg [] none)
(.seq (.rg [] none)
(.seq (.rg [] (some (.op ⟨[16], []⟩ (.op ⟨[], []⟩ (.op ⟨[], []⟩ (.op ⟨[], []⟩ (.split 46 [(50, .bool)] (.op ⟨[32], []⟩ (.op ⟨[], []⟩ (.op ⟨[], []⟩ (.op ⟨[], []⟩ .done)))) (.op ⟨[], []⟩ (.split 51 [(53, .bool)] (.op ⟨[], []⟩ (.op ⟨[], []⟩ .done)) (.op ⟨[], []⟩ (.split 54 [(58, .bool)] (.op ⟨[], []⟩ (.op ⟨[320], []⟩ (.op ⟨[], []⟩ (.op ⟨[], []⟩ .done)))) (.op ⟨[], []⟩ (.split 59 [(63, .bool)] (.op ⟨[96], []⟩ (.op ⟨[976], []⟩ (.op ⟨[], []⟩ (.op ⟨[], []⟩ .done)))) (.op ⟨[], []⟩ (.split 64 [(68, .bool)] (.op ⟨[128], []⟩ (.op ⟨[1056], []⟩ (.op ⟨[], []⟩ (.op ⟨[], []⟩ .done)))) (.op ⟨[], []⟩ (.split 69 [(73, .bool)] (.op ⟨[144], []⟩ (.op ⟨[], []⟩ (.op ⟨[], []⟩ (.op ⟨[], []⟩ .done)))) (.op ⟨[], []⟩ (.split 74 [(78, .bool)] (.op ⟨[160], []⟩ (.op ⟨[32], []⟩ (.op ⟨[], []⟩ (.op ⟨[], []⟩ .done)))) (.op ⟨[], []⟩ (.split 79 [(82, .bool)] (.op ⟨[], []⟩ (.op ⟨[], []⟩ (.op ⟨[], []⟩ .done))) (.op ⟨[], []⟩ (.split 83 [(86, .bool)] (.op ⟨[1344], []⟩ (.op ⟨[], []⟩ (.op ⟨[], []⟩ .done))) (.op ⟨[], []⟩ (.split 87 [(90, .bool)] (.op ⟨[1408], []⟩ (.op ⟨[], []⟩ (.op ⟨[], []⟩ .done))) (.op ⟨[], []⟩ (.split 91 [(93, .bool)] (.op ⟨[1472], []⟩ (.op ⟨[], []⟩ .done)) (.op ⟨[], []⟩ (.split 94 [(97, .bool)] (.op ⟨[1520], []⟩ (.op ⟨[], []⟩ (.op ⟨[], []⟩ .done))) (.op ⟨[], []⟩ .done))))))))))))))))))))))))))))))
.leaf))))))))
theorem reticulelaw06_alive_Eok : EnvOk Try.prog reticulelaw06_alive_E := env_ok tab_ok (by intro t h; simp only [List.mem_cons, List.mem_nil_iff, or_false, List.not_mem_nil] at h; rcases h with rfl | rfl <;> exact ⟨by kernel_rfl, by kernel_rfl, by kernel_rfl⟩) (allFn_mem (show AllFn Try.prog reticulelaw06_alive_fns from ⟨cdb_Parse_ok, cdb_Bytes_ok, reticuleref04_Of_ok, cdb_Size_ok, cdb_Known_ok, cdb_Class_ok, trivial⟩)) mixed (by kernel_rfl) (by kernel_rfl) (by kernel_rfl) (by kernel_rfl)
theorem reticulelaw06_alive_eq (x : Unit) : evF reticulelaw06_alive_E 98 (bd Try.f7) [] [.tmp 0 (.bool, .view)] reticulelaw06_alive_an x = reticulelaw06_alive x := by kernel_rfl
theorem reticulelaw06_alive_ok : FnOk Try.prog 7 { args := [], res := [(.bool, .view)], f := reticulelaw06_alive } :=
  fn_ok reticulelaw06_alive_Eok Try.func7 rfl (by kernel_rfl) (by kernel_rfl) (by kernel_rfl) (rs := [.tmp 0 (.bool, .view)]) (c := bd Try.f7) (an := reticulelaw06_alive_an) (ob_flat _ _ _ _ _ _ _ (by kernel_rfl)) reticulelaw06_alive_eq
/-! reticuleref06_Class: function 15 -/
noncomputable def reticuleref06_Class_fns : List (Nat × Fun) := []
noncomputable def reticuleref06_Class_E : Env := { ty := Re.look tyTab, eq := fun n => memB n [], fn := Re.look reticuleref06_Class_fns, cut := fun n => memB n [], win := fun n => memB n [], one := fun n => memB n [], onc := fun n => memB n [], pre := fun n => memB n [], ptr := fun n => memB n [], psl := fun n => memB n [], parr := Re.look [], mpt := Re.look [], lnd := fun n => memB n [], mfz := fun n => memB n [] }
noncomputable def reticuleref06_Class_an : An (Ds ((([.tmp 2 ((.int .i64), .view)] : List RV).map RV.pm).map (·.1) ++ ioTys [.val (.int .i64)])) :=
(.seq (.rg [] none)
(.seq (.seq (.rg [] none)
(.block (.join [.val 3 (.int .i64), .val 4 .bool]
(.seq (.rg [] none)
(.cond .leaf (.seq (.rg [] none)
(.cond .leaf (.seq (.rg [] none)
(.cond .leaf (.rg [] none)))))))
(.cond (.seq (.rg [] none)
.leaf) (.join [.val 3 (.int .i64), .val 9 .bool]
(.seq (.rg [] none)
(.cond .leaf (.seq (.rg [] none)
(.cond .leaf (.seq (.rg [] none)
(.cond .leaf (.rg [] none)))))))
(.cond (.seq (.rg [] none)
.leaf) (.join [.val 3 (.int .i64), .val 14 .bool]
(.seq (.rg [] none)
(.cond .leaf (.seq (.rg [] none)
(.cond .leaf (.rg [] none)))))
(.cond (.seq (.rg [] none)
.leaf) (.join [.val 18 .bool]
(.seq (.rg [] none)
(.cond .leaf (.rg [] none)))
(.cond (.seq (.rg [] none)
.leaf) .leaf))))))))))
(.seq (.rg [] none)
.leaf)))
theorem reticuleref06_Class_Eok : EnvOk Try.prog reticuleref06_Class_E := env_ok tab_ok (by simp) (allFn_mem (show AllFn Try.prog reticuleref06_Class_fns from trivial)) mixed (by kernel_rfl) (by kernel_rfl) (by kernel_rfl) (by kernel_rfl)
theorem reticuleref06_Class_eq (x : Int) : evF reticuleref06_Class_E 21 (bd Try.f15) [.val (.int .i64)] [.tmp 2 ((.int .i64), .view)] reticuleref06_Class_an x = reticuleref06_Class x := by kernel_rfl
theorem reticuleref06_Class_ok : FnOk Try.prog 15 { args := [.val (.int .i64)], res := [((.int .i64), .view)], f := reticuleref06_Class } :=
  fn_ok reticuleref06_Class_Eok Try.func15 rfl (by kernel_rfl) (by kernel_rfl) (by kernel_rfl) (rs := [.tmp 2 ((.int .i64), .view)]) (c := bd Try.f15) (an := reticuleref06_Class_an) (ob_flat _ _ _ _ _ _ _ (by kernel_rfl)) reticuleref06_Class_eq
/-! reticuleref01_Has: function 26 -/
noncomputable def reticuleref01_Has_fns : List (Nat × Fun) := []
noncomputable def reticuleref01_Has_E : Env := { ty := Re.look tyTab, eq := fun n => memB n [], fn := Re.look reticuleref01_Has_fns, cut := fun n => memB n [], win := fun n => memB n [], one := fun n => memB n [], onc := fun n => memB n [], pre := fun n => memB n [], ptr := fun n => memB n [], psl := fun n => memB n [], parr := Re.look [], mpt := Re.look [], lnd := fun n => memB n [], mfz := fun n => memB n [] }
noncomputable def reticuleref01_Has_an : An (Ds ((([.tmp 4 (.bool, .view)] : List RV).map RV.pm).map (·.1) ++ ioTys [.val (.sl (.int .i64)), .val (.int .i64)])) :=
(.seq (.rg [] none)
(.seq (.seq (.rg [] none)
(.loop [.val 0 (.sl (.int .i64)), .val 1 (.int .i64), .val 5 (.int .i64)] [] reticuleref01_Has_L0
(.seq (.seq (.rg [] none)
(.cond .leaf .leaf))
(.seq (.block (.seq (.rg [] none)
(.cond (.seq (.rg [] none)
.leaf) .leaf)))
(.rg [] none)))))
(.seq (.rg [] none)
.leaf)))
theorem reticuleref01_Has_Eok : EnvOk Try.prog reticuleref01_Has_E := env_ok tab_ok (by simp) (allFn_mem (show AllFn Try.prog reticuleref01_Has_fns from trivial)) mixed (by kernel_rfl) (by kernel_rfl) (by kernel_rfl) (by kernel_rfl)
theorem reticuleref01_Has_eq (x : (List Int) × Int) : evF reticuleref01_Has_E 18 (bd Try.f26) [.val (.sl (.int .i64)), .val (.int .i64)] [.tmp 4 (.bool, .view)] reticuleref01_Has_an x = reticuleref01_Has x := by kernel_rfl
theorem reticuleref01_Has_ok : FnOk Try.prog 26 { args := [.val (.sl (.int .i64)), .val (.int .i64)], res := [(.bool, .view)], f := reticuleref01_Has } :=
  fn_ok reticuleref01_Has_Eok Try.func26 rfl (by kernel_rfl) (by kernel_rfl) (by kernel_rfl) (rs := [.tmp 4 (.bool, .view)]) (c := bd Try.f26) (an := reticuleref01_Has_an) (show obF reticuleref01_Has_E 18 (bd Try.f26) [.val (.sl (.int .i64)), .val (.int .i64)] [.tmp 4 (.bool, .view)] reticuleref01_Has_an from (And.intro trivial (And.intro (And.intro trivial (And.intro (fun _ => rfl) (And.intro (fun n j => by kernel_rfl) (fun n => (And.intro (And.intro trivial (And.intro trivial trivial)) (And.intro (And.intro trivial (And.intro (And.intro trivial trivial) trivial)) trivial)))))) (And.intro trivial trivial)))) reticuleref01_Has_eq
/-! reticuleref06_Known: function 13 -/
noncomputable def reticuleref06_Known_fns : List (Nat × Fun) := [(15, { args := [.val (.int .i64)], res := [((.int .i64), .view)], f := reticuleref06_Class }), (26, { args := [.val (.sl (.int .i64)), .val (.int .i64)], res := [(.bool, .view)], f := reticuleref01_Has })]
noncomputable def reticuleref06_Known_E : Env := { ty := Re.look tyTab, eq := fun n => memB n [], fn := Re.look reticuleref06_Known_fns, cut := fun n => memB n [], win := fun n => memB n [], one := fun n => memB n [], onc := fun n => memB n [], pre := fun n => memB n [], ptr := fun n => memB n [], psl := fun n => memB n [], parr := Re.look [], mpt := Re.look [], lnd := fun n => memB n [11], mfz := fun n => memB n [] }
noncomputable def reticuleref06_Known_an : An (Ds ((([.tmp 2 (.bool, .view)] : List RV).map RV.pm).map (·.1) ++ ioTys [.val (.int .i64)])) :=
(.seq (.rg [] none)
(.seq (.rg [] none)
(.seq (.rg [] (some (.op ⟨[], []⟩ (.op ⟨[96], []⟩ (.op ⟨[], []⟩ (.op ⟨[], []⟩ (.split 8 [(12, .bool)] (.op ⟨[], []⟩ (.op ⟨[], []⟩ (.op ⟨[64, 176], []⟩ (.op ⟨[], []⟩ .done)))) (.op ⟨[], []⟩ .done))))))))
.leaf)))
theorem reticuleref06_Known_Eok : EnvOk Try.prog reticuleref06_Known_E := env_ok tab_ok (by simp) (allFn_mem (show AllFn Try.prog reticuleref06_Known_fns from ⟨reticuleref06_Class_ok, reticuleref01_Has_ok, trivial⟩)) mixed (by kernel_rfl) (by kernel_rfl) (by kernel_rfl) (by kernel_rfl)
theorem reticuleref06_Known_eq (x : Int) : evF reticuleref06_Known_E 13 (bd Try.f13) [.val (.int .i64)] [.tmp 2 (.bool, .view)] reticuleref06_Known_an x = reticuleref06_Known x := by kernel_rfl
theorem reticuleref06_Known_ok : FnOk Try.prog 13 { args := [.val (.int .i64)], res := [(.bool, .view)], f := reticuleref06_Known } :=
  fn_ok reticuleref06_Known_Eok Try.func13 rfl (by kernel_rfl) (by kernel_rfl) (by kernel_rfl) (rs := [.tmp 2 (.bool, .view)]) (c := bd Try.f13) (an := reticuleref06_Known_an) (ob_flat _ _ _ _ _ _ _ (by kernel_rfl)) reticuleref06_Known_eq
/-! reticuleref06_Size: function 11 -/
noncomputable def reticuleref06_Size_fns : List (Nat × Fun) := [(13, { args := [.val (.int .i64)], res := [(.bool, .view)], f := reticuleref06_Known })]
noncomputable def reticuleref06_Size_E : Env := { ty := Re.look tyTab, eq := fun n => memB n [], fn := Re.look reticuleref06_Size_fns, cut := fun n => memB n [], win := fun n => memB n [], one := fun n => memB n [], onc := fun n => memB n [], pre := fun n => memB n [], ptr := fun n => memB n [], psl := fun n => memB n [], parr := Re.look [], mpt := Re.look [], lnd := fun n => memB n [], mfz := fun n => memB n [] }
noncomputable def reticuleref06_Size_an : An (Ds ((([.tmp 2 ((.int .i64), .view)] : List RV).map RV.pm).map (·.1) ++ ioTys [.val (.int .i64)])) :=
(.seq (.rg [] none)
(.seq (.seq (.rg [] none)
(.cond (.seq (.rg [] none)
.leaf) .leaf))
(.seq (.seq (.rg [] none)
(.cond (.seq (.rg [] none)
.leaf) .leaf))
(.seq (.seq (.rg [] none)
(.cond (.seq (.rg [] none)
.leaf) .leaf))
(.seq (.seq (.rg [] none)
(.cond (.seq (.rg [] none)
.leaf) .leaf))
(.seq (.rg [] none)
.leaf))))))
theorem reticuleref06_Size_Eok : EnvOk Try.prog reticuleref06_Size_E := env_ok tab_ok (by simp) (allFn_mem (show AllFn Try.prog reticuleref06_Size_fns from ⟨reticuleref06_Known_ok, trivial⟩)) mixed (by kernel_rfl) (by kernel_rfl) (by kernel_rfl) (by kernel_rfl)
theorem reticuleref06_Size_eq (x : Int) : evF reticuleref06_Size_E 12 (bd Try.f11) [.val (.int .i64)] [.tmp 2 ((.int .i64), .view)] reticuleref06_Size_an x = reticuleref06_Size x := by kernel_rfl
theorem reticuleref06_Size_ok : FnOk Try.prog 11 { args := [.val (.int .i64)], res := [((.int .i64), .view)], f := reticuleref06_Size } :=
  fn_ok reticuleref06_Size_Eok Try.func11 rfl (by kernel_rfl) (by kernel_rfl) (by kernel_rfl) (rs := [.tmp 2 ((.int .i64), .view)]) (c := bd Try.f11) (an := reticuleref06_Size_an) (ob_flat _ _ _ _ _ _ _ (by kernel_rfl)) reticuleref06_Size_eq
/-! reticuleref01_Big: function 41 -/
noncomputable def reticuleref01_Big_fns : List (Nat × Fun) := []
noncomputable def reticuleref01_Big_E : Env := { ty := Re.look tyTab, eq := fun n => memB n [], fn := Re.look reticuleref01_Big_fns, cut := fun n => memB n [], win := fun n => memB n [], one := fun n => memB n [], onc := fun n => memB n [], pre := fun n => memB n [], ptr := fun n => memB n [], psl := fun n => memB n [], parr := Re.look [], mpt := Re.look [], lnd := fun n => memB n [], mfz := fun n => memB n [] }
noncomputable def reticuleref01_Big_an : An (Ds ((([.tmp 6 ((.int .u64), .view), .tmp 7 (.bool, .view)] : List RV).map RV.pm).map (·.1) ++ ioTys [.val (.sl (.int .u8)), .val (.int .i64), .val (.int .i64)])) :=
(.seq (.rg [] none)
(.seq (.seq (.rg [] (some (.op ⟨[], []⟩ (.op ⟨[], []⟩ (.op ⟨[], []⟩ (.split 12 [(15, .bool)] (.op ⟨[], []⟩ (.op ⟨[], []⟩ (.op ⟨[], []⟩ .done))) (.op ⟨[], []⟩ (.split 16 [(19, .bool)] (.op ⟨[], []⟩ (.op ⟨[], []⟩ (.op ⟨[], []⟩ .done))) (.op ⟨[], []⟩ (.split 20 [(25, .bool)] (.op ⟨[], []⟩ (.op ⟨[], []⟩ (.op ⟨[], []⟩ (.op ⟨[], []⟩ (.op ⟨[], []⟩ .done))))) (.op ⟨[], []⟩ (.split 26 [(33, .bool)] (.op ⟨[], []⟩ (.op ⟨[], []⟩ (.op ⟨[], []⟩ (.op ⟨[], []⟩ (.op ⟨[], []⟩ (.op ⟨[], []⟩ (.op ⟨[], []⟩ .done))))))) .done))))))))))))
(.cond (.seq (.rg [] none)
.leaf) .leaf))
(.seq (.rg [] none)
(.seq (.seq (.rg [] none)
(.loop [.val 0 (.sl (.int .u8)), .val 1 (.int .i64), .val 2 (.int .i64), .val 8 (.int .u64), .val 9 (.int .i64)] [.val 8 (.int .u64)] reticuleref01_Big_L0
(.seq (.seq (.rg [] none)
(.cond .leaf .leaf))
(.seq (.block (.rg [] none))
(.rg [] none)))))
(.seq (.rg [] none)
.leaf)))))
theorem reticuleref01_Big_Eok : EnvOk Try.prog reticuleref01_Big_E := env_ok tab_ok (by simp) (allFn_mem (show AllFn Try.prog reticuleref01_Big_fns from trivial)) mixed (by kernel_rfl) (by kernel_rfl) (by kernel_rfl) (by kernel_rfl)
theorem reticuleref01_Big_eq (x : (List (BitVec 8)) × Int × Int) : evF reticuleref01_Big_E 50 (bd Try.f41) [.val (.sl (.int .u8)), .val (.int .i64), .val (.int .i64)] [.tmp 6 ((.int .u64), .view), .tmp 7 (.bool, .view)] reticuleref01_Big_an x = reticuleref01_Big x := by kernel_rfl
theorem reticuleref01_Big_ok : FnOk Try.prog 41 { args := [.val (.sl (.int .u8)), .val (.int .i64), .val (.int .i64)], res := [((.int .u64), .view), (.bool, .view)], f := reticuleref01_Big } :=
  fn_ok reticuleref01_Big_Eok Try.func41 rfl (by kernel_rfl) (by kernel_rfl) (by kernel_rfl) (rs := [.tmp 6 ((.int .u64), .view), .tmp 7 (.bool, .view)]) (c := bd Try.f41) (an := reticuleref01_Big_an) (show obF reticuleref01_Big_E 50 (bd Try.f41) [.val (.sl (.int .u8)), .val (.int .i64), .val (.int .i64)] [.tmp 6 ((.int .u64), .view), .tmp 7 (.bool, .view)] reticuleref01_Big_an from (And.intro trivial (And.intro (And.intro trivial (And.intro (And.intro trivial trivial) trivial)) (And.intro trivial (And.intro (And.intro trivial (And.intro (fun _ => rfl) (And.intro (fun n j => by kernel_rfl) (fun n => (And.intro (And.intro trivial (And.intro trivial trivial)) (And.intro trivial trivial)))))) (And.intro trivial trivial)))))) reticuleref01_Big_eq
/-! reticuleref06_big: function 36 -/
noncomputable def reticuleref06_big_fns : List (Nat × Fun) := [(41, { args := [.val (.sl (.int .u8)), .val (.int .i64), .val (.int .i64)], res := [((.int .u64), .view), (.bool, .view)], f := reticuleref01_Big })]
noncomputable def reticuleref06_big_E : Env := { ty := Re.look tyTab, eq := fun n => memB n [], fn := Re.look reticuleref06_big_fns, cut := fun n => memB n [], win := fun n => memB n [], one := fun n => memB n [], onc := fun n => memB n [], pre := fun n => memB n [], ptr := fun n => memB n [], psl := fun n => memB n [], parr := Re.look [], mpt := Re.look [], lnd := fun n => memB n [], mfz := fun n => memB n [] }
noncomputable def reticuleref06_big_an : An (Ds ((([.tmp 6 ((.int .u64), .view)] : List RV).map RV.pm).map (·.1) ++ ioTys [.val (.sl (.int .u8)), .val (.int .i64), .val (.int .i64)])) :=
(.seq (.rg [] none)
(.seq (.rg [] none)
(.seq (.rg [] none)
.leaf)))
theorem reticuleref06_big_Eok : EnvOk Try.prog reticuleref06_big_E := env_ok tab_ok (by simp) (allFn_mem (show AllFn Try.prog reticuleref06_big_fns from ⟨reticuleref01_Big_ok, trivial⟩)) mixed (by kernel_rfl) (by kernel_rfl) (by kernel_rfl) (by kernel_rfl)
theorem reticuleref06_big_eq (x : (List (BitVec 8)) × Int × Int) : evF reticuleref06_big_E 17 (bd Try.f36) [.val (.sl (.int .u8)), .val (.int .i64), .val (.int .i64)] [.tmp 6 ((.int .u64), .view)] reticuleref06_big_an x = reticuleref06_big x := by kernel_rfl
theorem reticuleref06_big_ok : FnOk Try.prog 36 { args := [.val (.sl (.int .u8)), .val (.int .i64), .val (.int .i64)], res := [((.int .u64), .view)], f := reticuleref06_big } :=
  fn_ok reticuleref06_big_Eok Try.func36 rfl (by kernel_rfl) (by kernel_rfl) (by kernel_rfl) (rs := [.tmp 6 ((.int .u64), .view)]) (c := bd Try.f36) (an := reticuleref06_big_an) (ob_flat _ _ _ _ _ _ _ (by kernel_rfl)) reticuleref06_big_eq
/-! reticuleref06_rest: function 24 -/
noncomputable def reticuleref06_rest_fns : List (Nat × Fun) := [(36, { args := [.val (.sl (.int .u8)), .val (.int .i64), .val (.int .i64)], res := [((.int .u64), .view)], f := reticuleref06_big })]
noncomputable def reticuleref06_rest_E : Env := { ty := Re.look tyTab, eq := fun n => memB n [], fn := Re.look reticuleref06_rest_fns, cut := fun n => memB n [], win := fun n => memB n [], one := fun n => memB n [], onc := fun n => memB n [], pre := fun n => memB n [], ptr := fun n => memB n [], psl := fun n => memB n [], parr := Re.look [], mpt := Re.look [], lnd := fun n => memB n [], mfz := fun n => memB n [] }
noncomputable def reticuleref06_rest_an : An (Ds ((([.cell 4 T25, .tmp 5 (.bool, .view)] : List RV).map RV.pm).map (·.1) ++ ioTys [.val (.int .i64), .val (.sl (.int .u8))])) :=
(.seq (.rg [] none)
(.seq (.rg [] none)
(.seq (.rg [] none)
(.join [.box 4 T25, .box 6 T25, .val 7 .bool]
(.seq (.rg [] none)
(.block (.seq (.rg [] none)
(.cond (.rg [] (some (.op ⟨[], []⟩ (.op ⟨[], []⟩ (.op ⟨[], []⟩ (.op ⟨[], []⟩ (.op ⟨[], []⟩ (.op ⟨[], []⟩ (.op ⟨[], []⟩ (.op ⟨[], []⟩ (.op ⟨[], []⟩ (.op ⟨[96], []⟩ (.op ⟨[96], [96]⟩ (.op ⟨[], []⟩ .done)))))))))))))) (.seq (.rg [] none)
(.cond (.seq (.rg [] (some (.op ⟨[], []⟩ (.op ⟨[416], []⟩ (.op ⟨[], []⟩ (.op ⟨[], []⟩ (.op ⟨[], []⟩ (.op ⟨[], []⟩ (.op ⟨[], []⟩ (.op ⟨[], []⟩ (.op ⟨[], []⟩ (.op ⟨[], []⟩ (.op ⟨[], []⟩ (.op ⟨[], []⟩ (.op ⟨[96], []⟩ (.op ⟨[96], [96]⟩ (.op ⟨[96], []⟩ (.op ⟨[96], [96]⟩ (.op ⟨[96], []⟩ (.op ⟨[96], [96]⟩ .done))))))))))))))))))))
(.rg [] (some (.op ⟨[96], []⟩ (.op ⟨[96], []⟩ (.op ⟨[], []⟩ (.op ⟨[], []⟩ (.split 43 [(47, .bool)] (.op ⟨[96], []⟩ (.op ⟨[96], []⟩ (.op ⟨[], []⟩ (.op ⟨[], []⟩ .done)))) (.op ⟨[], []⟩ .done))))))))) (.seq (.rg [] none)
(.cond (.rg [] (some (.op ⟨[], []⟩ (.op ⟨[], []⟩ (.op ⟨[], []⟩ (.op ⟨[], []⟩ (.op ⟨[], []⟩ (.op ⟨[], []⟩ (.op ⟨[], []⟩ (.op ⟨[], []⟩ (.op ⟨[], []⟩ (.op ⟨[], []⟩ (.op ⟨[], []⟩ (.split 60 [(66, .bool)] (.op ⟨[], []⟩ (.op ⟨[], []⟩ (.op ⟨[], []⟩ (.op ⟨[], []⟩ (.op ⟨[], []⟩ (.op ⟨[], []⟩ .done)))))) (.op ⟨[96], []⟩ (.op ⟨[96], [96]⟩ (.op ⟨[], []⟩ .done))))))))))))))))) (.seq (.rg [] none)
(.cond (.rg [] (some (.op ⟨[], []⟩ (.op ⟨[1136], []⟩ (.op ⟨[], []⟩ (.op ⟨[], []⟩ (.op ⟨[], []⟩ (.op ⟨[], []⟩ (.op ⟨[], []⟩ (.op ⟨[], []⟩ (.op ⟨[], []⟩ (.op ⟨[], []⟩ (.split 79 [(85, .bool)] (.op ⟨[], []⟩ (.op ⟨[], []⟩ (.op ⟨[], []⟩ (.op ⟨[], []⟩ (.op ⟨[], []⟩ (.op ⟨[], []⟩ .done)))))) (.op ⟨[96], []⟩ (.op ⟨[96], [96]⟩ (.op ⟨[], []⟩ .done)))))))))))))))) (.seq (.rg [] none)
(.cond (.rg [] (some (.op ⟨[], []⟩ (.op ⟨[], []⟩ (.op ⟨[], []⟩ (.op ⟨[], []⟩ (.op ⟨[], []⟩ (.op ⟨[], []⟩ (.op ⟨[], []⟩ (.op ⟨[], []⟩ (.op ⟨[], []⟩ (.op ⟨[], []⟩ (.op ⟨[], []⟩ (.op ⟨[], []⟩ (.op ⟨[], []⟩ (.op ⟨[], []⟩ (.op ⟨[], []⟩ (.op ⟨[], []⟩ (.op ⟨[], []⟩ (.op ⟨[], []⟩ (.op ⟨[96], []⟩ (.op ⟨[96], [96]⟩ (.op ⟨[96], []⟩ (.op ⟨[96], [96]⟩ (.op ⟨[96], []⟩ (.op ⟨[96], [96]⟩ (.op ⟨[], []⟩ .done))))))))))))))))))))))))))) (.seq (.rg [] none)
(.cond (.rg [] (some (.op ⟨[], []⟩ (.op ⟨[1808], []⟩ (.op ⟨[], []⟩ (.op ⟨[], []⟩ (.op ⟨[], []⟩ (.op ⟨[], []⟩ (.op ⟨[], []⟩ (.op ⟨[], []⟩ (.op ⟨[], []⟩ (.op ⟨[], []⟩ (.op ⟨[], []⟩ (.op ⟨[], []⟩ (.op ⟨[], []⟩ (.op ⟨[], []⟩ (.op ⟨[], []⟩ (.op ⟨[], []⟩ (.op ⟨[], []⟩ (.op ⟨[96], []⟩ (.op ⟨[96], [96]⟩ (.op ⟨[96], []⟩ (.op ⟨[96], [96]⟩ (.op ⟨[96], []⟩ (.op ⟨[96], [96]⟩ (.op ⟨[], []⟩ .done)))))))))))))))))))))))))) (.seq (.rg [] none)
(.cond (.rg [] (some (.op ⟨[], []⟩ (.op ⟨[], []⟩ (.op ⟨[], []⟩ (.op ⟨[], []⟩ (.op ⟨[], []⟩ (.op ⟨[], []⟩ (.op ⟨[], []⟩ (.op ⟨[], []⟩ (.op ⟨[], []⟩ (.op ⟨[96], []⟩ (.op ⟨[96], [96]⟩ (.op ⟨[], []⟩ .done)))))))))))))) (.seq (.rg [] none)
(.cond (.rg [] (some (.op ⟨[], []⟩ (.op ⟨[], []⟩ (.op ⟨[], []⟩ (.op ⟨[], []⟩ (.op ⟨[], []⟩ (.op ⟨[], []⟩ (.op ⟨[], []⟩ (.op ⟨[], []⟩ (.op ⟨[], []⟩ (.op ⟨[], []⟩ (.op ⟨[96], []⟩ (.op ⟨[96], [96]⟩ (.op ⟨[], []⟩ .done))))))))))))))) (.seq (.rg [] none)
(.cond (.rg [] (some (.op ⟨[], []⟩ (.op ⟨[2560], []⟩ (.op ⟨[], []⟩ (.op ⟨[], []⟩ (.split 162 [(168, .bool)] (.op ⟨[], []⟩ (.op ⟨[], []⟩ (.op ⟨[], []⟩ (.op ⟨[], []⟩ (.op ⟨[], []⟩ (.op ⟨[], []⟩ .done)))))) (.op ⟨[], []⟩ .done)))))))) (.seq (.rg [] none)
(.cond (.rg [] (some (.op ⟨[], []⟩ (.op ⟨[2752], []⟩ (.op ⟨[], []⟩ (.op ⟨[], []⟩ (.op ⟨[], []⟩ (.op ⟨[], []⟩ (.op ⟨[], []⟩ (.op ⟨[], []⟩ (.op ⟨[96], []⟩ (.op ⟨[96], [96]⟩ (.op ⟨[], []⟩ .done))))))))))))) (.seq (.rg [] none)
(.cond (.seq (.rg [] none)
(.rg [] (some (.op ⟨[], []⟩ (.op ⟨[], []⟩ (.op ⟨[], []⟩ (.op ⟨[], []⟩ (.op ⟨[], []⟩ (.split 190 [(194, .bool)] (.op ⟨[96], []⟩ (.op ⟨[96], []⟩ (.op ⟨[], []⟩ (.op ⟨[], []⟩ .done)))) (.op ⟨[], []⟩ .done)))))))))) .leaf))))))))))))))))))))))))
(.seq (.rg [] none)
.leaf)))))
theorem reticuleref06_rest_Eok : EnvOk Try.prog reticuleref06_rest_E := env_ok tab_ok (by simp) (allFn_mem (show AllFn Try.prog reticuleref06_rest_fns from ⟨reticuleref06_big_ok, trivial⟩)) mixed (by kernel_rfl) (by kernel_rfl) (by kernel_rfl) (by kernel_rfl)
theorem reticuleref06_rest_eq (x : Int × (List (BitVec 8))) : evF reticuleref06_rest_E 197 (bd Try.f24) [.val (.int .i64), .val (.sl (.int .u8))] [.cell 4 T25, .tmp 5 (.bool, .view)] reticuleref06_rest_an x = reticuleref06_rest x := by kernel_rfl
theorem reticuleref06_rest_ok : FnOk Try.prog 24 { args := [.val (.int .i64), .val (.sl (.int .u8))], res := [(T25, .view), (.bool, .view)], f := reticuleref06_rest } :=
  fn_ok reticuleref06_rest_Eok Try.func24 rfl (by kernel_rfl) (by kernel_rfl) (by kernel_rfl) (rs := [.cell 4 T25, .tmp 5 (.bool, .view)]) (c := bd Try.f24) (an := reticuleref06_rest_an) (ob_flat _ _ _ _ _ _ _ (by kernel_rfl)) reticuleref06_rest_eq
/-! reticuleref06_blocks: function 25 -/
noncomputable def reticuleref06_blocks_fns : List (Nat × Fun) := [(15, { args := [.val (.int .i64)], res := [((.int .i64), .view)], f := reticuleref06_Class }), (36, { args := [.val (.sl (.int .u8)), .val (.int .i64), .val (.int .i64)], res := [((.int .u64), .view)], f := reticuleref06_big })]
noncomputable def reticuleref06_blocks_E : Env := { ty := Re.look tyTab, eq := fun n => memB n [], fn := Re.look reticuleref06_blocks_fns, cut := fun n => memB n [], win := fun n => memB n [], one := fun n => memB n [], onc := fun n => memB n [], pre := fun n => memB n [], ptr := fun n => memB n [], psl := fun n => memB n [], parr := Re.look [], mpt := Re.look [], lnd := fun n => memB n [], mfz := fun n => memB n [] }
noncomputable def reticuleref06_blocks_an : An (Ds ((([.cell 4 T25, .tmp 5 (.bool, .view)] : List RV).map RV.pm).map (·.1) ++ ioTys [.val (.int .i64), .val (.sl (.int .u8))])) :=
(.seq (.rg [] none)
(.seq (.rg [] none)
(.seq (.rg [] none)
(.seq (.seq (.rg [] none)
(.cond (.seq (.rg [] (some (.op ⟨[], []⟩ (.op ⟨[], []⟩ (.op ⟨[], []⟩ (.op ⟨[], []⟩ (.op ⟨[], []⟩ (.op ⟨[], []⟩ (.op ⟨[], []⟩ (.op ⟨[], []⟩ (.op ⟨[], []⟩ (.op ⟨[], []⟩ (.op ⟨[], []⟩ (.op ⟨[], []⟩ (.op ⟨[], []⟩ (.op ⟨[], []⟩ (.op ⟨[], []⟩ (.op ⟨[], []⟩ (.op ⟨[], []⟩ (.op ⟨[96], []⟩ (.op ⟨[96], [96]⟩ .done)))))))))))))))))))))
(.seq (.rg [] none)
(.join [.box 4 T25, .box 6 T25]
(.seq (.rg [] none)
(.cond (.rg [] none) .leaf))
(.seq (.rg [] none)
.leaf)))) .leaf))
(.join [.val 1 (.sl (.int .u8)), .box 4 T25, .box 6 T25, .val 7 (.int .i64)]
(.seq (.rg [] none)
(.block (.seq (.rg [] none)
(.cond (.rg [] none) (.seq (.rg [] none)
(.cond (.rg [] none) (.rg [] none)))))))
(.join [.val 1 (.sl (.int .u8)), .box 4 T25, .box 6 T25, .val 7 (.int .i64)]
(.seq (.rg [] (some (.op ⟨[], []⟩ (.op ⟨[], []⟩ (.op ⟨[], []⟩ (.split 72 [(75, .bool)] (.op ⟨[], []⟩ (.op ⟨[], []⟩ (.op ⟨[], []⟩ .done))) .done))))))
(.cond (.rg [] none) .leaf))
(.join [.val 1 (.sl (.int .u8)), .box 4 T25, .box 6 T25, .val 7 (.int .i64)]
(.seq (.rg [] none)
(.cond (.rg [] none) .leaf))
(.seq (.rg [] (some (.op ⟨[96], []⟩ (.op ⟨[], []⟩ (.op ⟨[], []⟩ (.op ⟨[], []⟩ (.split 95 [(102, .bool)] (.op ⟨[], []⟩ (.op ⟨[], []⟩ (.op ⟨[], []⟩ (.op ⟨[], []⟩ (.op ⟨[], []⟩ (.op ⟨[], []⟩ (.op ⟨[], []⟩ .done))))))) (.op ⟨[64], [64]⟩ (.op ⟨[], []⟩ .done)))))))))
.leaf))))))))
theorem reticuleref06_blocks_Eok : EnvOk Try.prog reticuleref06_blocks_E := env_ok tab_ok (by simp) (allFn_mem (show AllFn Try.prog reticuleref06_blocks_fns from ⟨reticuleref06_Class_ok, reticuleref06_big_ok, trivial⟩)) mixed (by kernel_rfl) (by kernel_rfl) (by kernel_rfl) (by kernel_rfl)
theorem reticuleref06_blocks_eq (x : Int × (List (BitVec 8))) : evF reticuleref06_blocks_E 103 (bd Try.f25) [.val (.int .i64), .val (.sl (.int .u8))] [.cell 4 T25, .tmp 5 (.bool, .view)] reticuleref06_blocks_an x = reticuleref06_blocks x := by kernel_rfl
theorem reticuleref06_blocks_ok : FnOk Try.prog 25 { args := [.val (.int .i64), .val (.sl (.int .u8))], res := [(T25, .view), (.bool, .view)], f := reticuleref06_blocks } :=
  fn_ok reticuleref06_blocks_Eok Try.func25 rfl (by kernel_rfl) (by kernel_rfl) (by kernel_rfl) (rs := [.cell 4 T25, .tmp 5 (.bool, .view)]) (c := bd Try.f25) (an := reticuleref06_blocks_an) (ob_flat _ _ _ _ _ _ _ (by kernel_rfl)) reticuleref06_blocks_eq
/-! reticuleref06_Parse: function 9 -/
noncomputable def reticuleref06_Parse_fns : List (Nat × Fun) := [(13, { args := [.val (.int .i64)], res := [(.bool, .view)], f := reticuleref06_Known }), (18, { args := [.val (.int .i64), .val (.int .i64), .val (.int .i64)], res := [(T27, .view)], f := reticuleref04_Of }), (11, { args := [.val (.int .i64)], res := [((.int .i64), .view)], f := reticuleref06_Size }), (24, { args := [.val (.int .i64), .val (.sl (.int .u8))], res := [(T25, .view), (.bool, .view)], f := reticuleref06_rest }), (15, { args := [.val (.int .i64)], res := [((.int .i64), .view)], f := reticuleref06_Class }), (25, { args := [.val (.int .i64), .val (.sl (.int .u8))], res := [(T25, .view), (.bool, .view)], f := reticuleref06_blocks })]
noncomputable def reticuleref06_Parse_E : Env := { ty := Re.look tyTab, eq := fun n => memB n [], fn := Re.look reticuleref06_Parse_fns, cut := fun n => memB n [], win := fun n => memB n [], one := fun n => memB n [], onc := fun n => memB n [], pre := fun n => memB n [], ptr := fun n => memB n [], psl := fun n => memB n [], parr := Re.look [], mpt := Re.look [], lnd := fun n => memB n [], mfz := fun n => memB n [] }
noncomputable def reticuleref06_Parse_an : An (Ds ((([.cell 2 T25, .cell 3 T27] : List RV).map RV.pm).map (·.1) ++ ioTys [.val (.sl (.int .u8))])) :=
(.seq (.rg [] none)
(.seq (.seq (.rg [] (some (.op ⟨[], []⟩ (.op ⟨[], []⟩ (.op ⟨[], []⟩ (.op ⟨[], []⟩ (.split 11 [(18, .bool)] (.op ⟨[], []⟩ (.op ⟨[], []⟩ (.op ⟨[], []⟩ (.op ⟨[], []⟩ (.op ⟨[256], []⟩ (.op ⟨[], []⟩ (.op ⟨[], []⟩ .done))))))) .done)))))))
(.cond (.seq (.rg [] none)
.leaf) .leaf))
(.seq (.rg [] none)
(.seq (.rg [] none)
(.seq (.seq (.rg [] (some (.op ⟨[], []⟩ (.op ⟨[], []⟩ (.op ⟨[], []⟩ (.op ⟨[], []⟩ (.op ⟨[], []⟩ (.split 31 [(38, .bool)] (.op ⟨[], []⟩ (.op ⟨[], []⟩ (.op ⟨[], []⟩ (.op ⟨[], []⟩ (.op ⟨[], []⟩ (.op ⟨[], []⟩ (.op ⟨[], []⟩ .done))))))) .done))))))))
(.cond (.seq (.rg [] none)
.leaf) .leaf))
(.seq (.rg [] none)
(.join [.box 2 T25, .box 3 T27, .box 6 T25, .val 7 .bool]
(.seq (.rg [] none)
(.cond (.rg [] none) .leaf))
(.seq (.seq (.rg [] none)
(.cond (.seq (.rg [] none)
.leaf) .leaf))
(.seq (.rg [] none)
.leaf)))))))))
theorem reticuleref06_Parse_Eok : EnvOk Try.prog reticuleref06_Parse_E := env_ok tab_ok (by simp) (allFn_mem (show AllFn Try.prog reticuleref06_Parse_fns from ⟨reticuleref06_Known_ok, reticuleref04_Of_ok, reticuleref06_Size_ok, reticuleref06_rest_ok, reticuleref06_Class_ok, reticuleref06_blocks_ok, trivial⟩)) mixed (by kernel_rfl) (by kernel_rfl) (by kernel_rfl) (by kernel_rfl)
theorem reticuleref06_Parse_eq (x : (List (BitVec 8))) : evF reticuleref06_Parse_E 66 (bd Try.f9) [.val (.sl (.int .u8))] [.cell 2 T25, .cell 3 T27] reticuleref06_Parse_an x = reticuleref06_Parse x := by kernel_rfl
theorem reticuleref06_Parse_ok : FnOk Try.prog 9 { args := [.val (.sl (.int .u8))], res := [(T25, .view), (T27, .view)], f := reticuleref06_Parse } :=
  fn_ok reticuleref06_Parse_Eok Try.func9 rfl (by kernel_rfl) (by kernel_rfl) (by kernel_rfl) (rs := [.cell 2 T25, .cell 3 T27]) (c := bd Try.f9) (an := reticuleref06_Parse_an) (ob_flat _ _ _ _ _ _ _ (by kernel_rfl)) reticuleref06_Parse_eq
/-! reticulelaw06_CdbParses: function 3 -/
noncomputable def reticulelaw06_CdbParses_fns : List (Nat × Fun) := [(7, { args := [], res := [(.bool, .view)], f := reticulelaw06_alive }), (8, { args := [.val (.sl (.int .u8))], res := [(T25, .view), (T27, .view)], f := cdb_Parse }), (9, { args := [.val (.sl (.int .u8))], res := [(T25, .view), (T27, .view)], f := reticuleref06_Parse }), (10, { args := [.val (.int .i64)], res := [((.int .i64), .view)], f := cdb_Size }), (11, { args := [.val (.int .i64)], res := [((.int .i64), .view)], f := reticuleref06_Size }), (12, { args := [.val (.int .i64)], res := [(.bool, .view)], f := cdb_Known }), (13, { args := [.val (.int .i64)], res := [(.bool, .view)], f := reticuleref06_Known }), (14, { args := [.val (.int .i64)], res := [((.int .i64), .view)], f := cdb_Class }), (15, { args := [.val (.int .i64)], res := [((.int .i64), .view)], f := reticuleref06_Class })]
noncomputable def reticulelaw06_CdbParses_E : Env := { ty := Re.look tyTab, eq := fun n => memB n [26, 28], fn := Re.look reticulelaw06_CdbParses_fns, cut := fun n => memB n [], win := fun n => memB n [], one := fun n => memB n [], onc := fun n => memB n [], pre := fun n => memB n [], ptr := fun n => memB n [], psl := fun n => memB n [], parr := Re.look [], mpt := Re.look [], lnd := fun n => memB n [], mfz := fun n => memB n [] }
noncomputable def reticulelaw06_CdbParses_an : An (Ds ((([.tmp 4 (.bool, .view)] : List RV).map RV.pm).map (·.1) ++ ioTys [.val (.sl (.int .u8)), .val (.int .i64)])) :=
(.seq (.rg [] none)
(.seq (.seq (.rg [] none)
(.cond (.seq (.rg [] none)
.leaf) .leaf))
(.seq (.seq (.rg [] none)
(.cond (.seq (.rg [] none)
.leaf) .leaf))
(.seq (.rg [] none)
(.seq (.rg [] none)
(.seq (.rg [] (some (.op ⟨[80], []⟩ (.op ⟨[112], []⟩ (.op ⟨[], []⟩ (.op ⟨[], []⟩ (.split 27 [(31, .bool)] (.op ⟨[96], []⟩ (.op ⟨[128], []⟩ (.op ⟨[], []⟩ (.op ⟨[], []⟩ .done)))) (.op ⟨[], []⟩ (.split 32 [(38, .bool)] (.op ⟨[], []⟩ (.op ⟨[544], []⟩ (.op ⟨[], []⟩ (.op ⟨[576], []⟩ (.op ⟨[], []⟩ (.op ⟨[], []⟩ .done)))))) (.op ⟨[], []⟩ (.split 39 [(45, .bool)] (.op ⟨[], []⟩ (.op ⟨[656], []⟩ (.op ⟨[], []⟩ (.op ⟨[688], []⟩ (.op ⟨[], []⟩ (.op ⟨[], []⟩ .done)))))) (.op ⟨[], []⟩ (.split 46 [(52, .bool)] (.op ⟨[], []⟩ (.op ⟨[768], []⟩ (.op ⟨[], []⟩ (.op ⟨[800], []⟩ (.op ⟨[], []⟩ (.op ⟨[], []⟩ .done)))))) (.op ⟨[], []⟩ .done))))))))))))))
.leaf))))))
theorem reticulelaw06_CdbParses_Eok : EnvOk Try.prog reticulelaw06_CdbParses_E := env_ok tab_ok (by intro t h; simp only [List.mem_cons, List.mem_nil_iff, or_false, List.not_mem_nil] at h; rcases h with rfl | rfl <;> exact ⟨by kernel_rfl, by kernel_rfl, by kernel_rfl⟩) (allFn_mem (show AllFn Try.prog reticulelaw06_CdbParses_fns from ⟨reticulelaw06_alive_ok, cdb_Parse_ok, reticuleref06_Parse_ok, cdb_Size_ok, reticuleref06_Size_ok, cdb_Known_ok, reticuleref06_Known_ok, cdb_Class_ok, reticuleref06_Class_ok, trivial⟩)) mixed (by kernel_rfl) (by kernel_rfl) (by kernel_rfl) (by kernel_rfl)
theorem reticulelaw06_CdbParses_eq (x : (List (BitVec 8)) × Int) : evF reticulelaw06_CdbParses_E 53 (bd Try.f3) [.val (.sl (.int .u8)), .val (.int .i64)] [.tmp 4 (.bool, .view)] reticulelaw06_CdbParses_an x = reticulelaw06_CdbParses x := by kernel_rfl
theorem reticulelaw06_CdbParses_ok : FnOk Try.prog 3 { args := [.val (.sl (.int .u8)), .val (.int .i64)], res := [(.bool, .view)], f := reticulelaw06_CdbParses } :=
  fn_ok reticulelaw06_CdbParses_Eok Try.func3 rfl (by kernel_rfl) (by kernel_rfl) (by kernel_rfl) (rs := [.tmp 4 (.bool, .view)]) (c := bd Try.f3) (an := reticulelaw06_CdbParses_an) (ob_flat _ _ _ _ _ _ _ (by kernel_rfl)) reticulelaw06_CdbParses_eq
/-! reticuleref06_lay: function 29 -/
noncomputable def reticuleref06_lay_fns : List (Nat × Fun) := []
noncomputable def reticuleref06_lay_E : Env := { ty := Re.look tyTab, eq := fun n => memB n [], fn := Re.look reticuleref06_lay_fns, cut := fun n => memB n [], win := fun n => memB n [], one := fun n => memB n [], onc := fun n => memB n [], pre := fun n => memB n [], ptr := fun n => memB n [], psl := fun n => memB n [], parr := Re.look [], mpt := Re.look [], lnd := fun n => memB n [], mfz := fun n => memB n [] }
noncomputable def reticuleref06_lay_an : An (Ds ((([] : List RV).map RV.pm).map (·.1) ++ ioTys [.row (.int .u8), .val (.int .i64), .val (.int .i64), .val (.int .u64)])) :=
(.seq (.rg [] none)
(.loop [.prow 0 (.int .u8), .val 1 (.int .i64), .val 3 (.int .u64), .val 8 (.int .i64)] [.prow 0 (.int .u8)] reticuleref06_lay_L0
(.seq (.seq (.rg [] none)
(.cond .leaf .leaf))
(.seq (.block (.seq (.rg [] none)
(.rg [] none)))
(.rg [] none)))))
theorem reticuleref06_lay_Eok : EnvOk Try.prog reticuleref06_lay_E := env_ok tab_ok (by simp) (allFn_mem (show AllFn Try.prog reticuleref06_lay_fns from trivial)) mixed (by kernel_rfl) (by kernel_rfl) (by kernel_rfl) (by kernel_rfl)
theorem reticuleref06_lay_eq (x : (List (BitVec 8)) × Int × Int × (BitVec 64)) : evF reticuleref06_lay_E 25 (bd Try.f29) [.row (.int .u8), .val (.int .i64), .val (.int .i64), .val (.int .u64)] [] reticuleref06_lay_an x = reticuleref06_lay x := by kernel_rfl
theorem reticuleref06_lay_ok : FnOk Try.prog 29 { args := [.row (.int .u8), .val (.int .i64), .val (.int .i64), .val (.int .u64)], res := [], f := reticuleref06_lay } :=
  fn_ok reticuleref06_lay_Eok Try.func29 rfl (by kernel_rfl) (by kernel_rfl) (by kernel_rfl) (rs := []) (c := bd Try.f29) (an := reticuleref06_lay_an) (show obF reticuleref06_lay_E 25 (bd Try.f29) [.row (.int .u8), .val (.int .i64), .val (.int .i64), .val (.int .u64)] [] reticuleref06_lay_an from (And.intro trivial (And.intro (fun _ => rfl) (And.intro (fun n j => by kernel_rfl) (fun n => (And.intro (And.intro trivial (And.intro trivial trivial)) (And.intro (And.intro trivial trivial) trivial))))))) reticuleref06_lay_eq
/-! reticuleref06_Bytes: function 17 -/
noncomputable def reticuleref06_Bytes_fns : List (Nat × Fun) := [(13, { args := [.val (.int .i64)], res := [(.bool, .view)], f := reticuleref06_Known }), (11, { args := [.val (.int .i64)], res := [((.int .i64), .view)], f := reticuleref06_Size }), (15, { args := [.val (.int .i64)], res := [((.int .i64), .view)], f := reticuleref06_Class }), (29, { args := [.row (.int .u8), .val (.int .i64), .val (.int .i64), .val (.int .u64)], res := [], f := reticuleref06_lay }), (9, { args := [.val (.sl (.int .u8))], res := [(T25, .view), (T27, .view)], f := reticuleref06_Parse })]
noncomputable def reticuleref06_Bytes_E : Env := { ty := Re.look tyTab, eq := fun n => memB n [26, 28], fn := Re.look reticuleref06_Bytes_fns, cut := fun n => memB n [], win := fun n => memB n [], one := fun n => memB n [], onc := fun n => memB n [], pre := fun n => memB n [], ptr := fun n => memB n [], psl := fun n => memB n [], parr := Re.look [], mpt := Re.look [], lnd := fun n => memB n [255], mfz := fun n => memB n [] }
noncomputable def reticuleref06_Bytes_an : An (Ds ((([.tmp 2 ((.sl (.int .u8)), .full), .tmp 3 (.bool, .view)] : List RV).map RV.pm).map (·.1) ++ ioTys [.val T25])) :=
(.seq (.rg [] none)
(.seq (.seq (.rg [] (some (.op ⟨[16], []⟩ (.op ⟨[16], []⟩ (.op ⟨[144], []⟩ (.op ⟨[], []⟩ (.op ⟨[], []⟩ (.split 11 [(15, .bool)] (.op ⟨[16], []⟩ (.op ⟨[16], []⟩ (.op ⟨[], []⟩ (.op ⟨[], []⟩ .done)))) (.op ⟨[], []⟩ (.split 16 [(20, .bool)] (.op ⟨[16], []⟩ (.op ⟨[16], []⟩ (.op ⟨[], []⟩ (.op ⟨[], []⟩ .done)))) (.op ⟨[], []⟩ (.split 21 [(25, .bool)] (.op ⟨[16], []⟩ (.op ⟨[16], []⟩ (.op ⟨[], []⟩ (.op ⟨[], []⟩ .done)))) (.op ⟨[], []⟩ (.split 26 [(30, .bool)] (.op ⟨[16], []⟩ (.op ⟨[16], []⟩ (.op ⟨[], []⟩ (.op ⟨[], []⟩ .done)))) (.op ⟨[], []⟩ (.split 31 [(35, .bool)] (.op ⟨[16], []⟩ (.op ⟨[16], []⟩ (.op ⟨[], []⟩ (.op ⟨[], []⟩ .done)))) .done))))))))))))))))
(.cond (.seq (.rg [] none)
.leaf) .leaf))
(.seq (.rg [] none)
(.seq (.rg [] none)
(.join [.box 1 T25, .row 4 (.int .u8) .full]
(.block (.seq (.rg [] (some (.op ⟨[16], []⟩ (.op ⟨[16], []⟩ (.op ⟨[768], []⟩ (.op ⟨[], []⟩ (.op ⟨[], []⟩ (.split 50 [(54, .bool)] (.op ⟨[], []⟩ (.op ⟨[624], []⟩ (.op ⟨[], []⟩ (.op ⟨[], []⟩ .done)))) (.op ⟨[], []⟩ .done)))))))))
(.cond (.seq (.rg [] none)
(.seq (.rg [] none)
(.rg [] none))) (.seq (.rg [] none)
(.cond (.join [.box 1 T25, .row 4 (.int .u8) .full]
(.seq (.rg [] none)
(.block (.seq (.rg [] none)
(.cond (.seq (.rg [] none)
(.rg [] none)) (.seq (.rg [] none)
(.cond (.seq (.rg [] none)
(.rg [] none)) (.seq (.rg [] none)
(.rg [] none))))))))
(.join [.box 1 T25, .row 4 (.int .u8) .full]
(.seq (.rg [] (some (.op ⟨[16], []⟩ (.op ⟨[16], []⟩ (.op ⟨[1760], []⟩ (.op ⟨[], []⟩ (.op ⟨[], []⟩ (.split 112 [(116, .bool)] (.op ⟨[16], []⟩ (.op ⟨[16], []⟩ (.op ⟨[], []⟩ (.op ⟨[], []⟩ .done)))) .done))))))))
(.cond (.rg [] none) .leaf))
(.seq (.rg [] (some (.op ⟨[16], []⟩ (.op ⟨[16], []⟩ (.op ⟨[1936], []⟩ (.op ⟨[], []⟩ (.op ⟨[], []⟩ (.split 123 [(127, .bool)] (.op ⟨[16], []⟩ (.op ⟨[16], []⟩ (.op ⟨[], []⟩ (.op ⟨[], []⟩ .done)))) .done))))))))
(.cond (.rg [] none) .leaf)))) (.seq (.rg [] none)
(.cond (.rg [] none) (.seq (.rg [] none)
(.cond (.seq (.rg [] (some (.op ⟨[], []⟩ (.op ⟨[], []⟩ (.op ⟨[16], []⟩ (.op ⟨[16], []⟩ (.op ⟨[], []⟩ (.op ⟨[], []⟩ (.op ⟨[16], []⟩ (.op ⟨[16], []⟩ (.op ⟨[], []⟩ (.op ⟨[624], []⟩ (.op ⟨[624], [624]⟩ (.op ⟨[624], []⟩ (.op ⟨[624], [624]⟩ .done)))))))))))))))
(.rg [] none)) (.seq (.rg [] none)
(.cond (.rg [] (some (.op ⟨[], []⟩ (.op ⟨[], []⟩ (.op ⟨[16], []⟩ (.op ⟨[16], []⟩ (.op ⟨[], []⟩ (.op ⟨[624], []⟩ (.op ⟨[624], [624]⟩ (.op ⟨[624], []⟩ (.op ⟨[624], [624]⟩ .done))))))))))) (.seq (.rg [] none)
(.cond (.seq (.rg [] none)
(.rg [] none)) (.seq (.rg [] none)
(.cond (.rg [] (some (.op ⟨[], []⟩ (.op ⟨[], []⟩ (.op ⟨[16], []⟩ (.op ⟨[16], []⟩ (.op ⟨[], []⟩ (.op ⟨[16], []⟩ (.op ⟨[16], []⟩ (.op ⟨[], []⟩ (.op ⟨[], []⟩ (.op ⟨[], []⟩ (.op ⟨[16], []⟩ (.op ⟨[16], []⟩ (.op ⟨[], []⟩ (.op ⟨[624], []⟩ (.op ⟨[624], [624]⟩ (.op ⟨[624], []⟩ (.op ⟨[624], [624]⟩ .done))))))))))))))))))) (.seq (.rg [] none)
(.cond (.seq (.rg [] none)
(.rg [] none)) (.seq (.rg [] (some (.op ⟨[16], []⟩ (.op ⟨[16], []⟩ (.op ⟨[], []⟩ (.op ⟨[], []⟩ (.split 223 [(227, .bool)] (.op ⟨[16], []⟩ (.op ⟨[16], []⟩ (.op ⟨[], []⟩ (.op ⟨[], []⟩ .done)))) (.op ⟨[], []⟩ .done))))))))
(.cond (.rg [] none) (.seq (.rg [] none)
(.cond (.seq (.rg [] none)
(.rg [] none)) (.seq (.rg [] none)
(.cond (.rg [] none) .leaf)))))))))))))))))))))))
(.seq (.rg [] none)
(.seq (.seq (.rg [] (some (.op ⟨[96], []⟩ (.op ⟨[], []⟩ (.op ⟨[], []⟩ (.op ⟨[], []⟩ (.split 261 [(265, .bool)] (.op ⟨[80], []⟩ (.op ⟨[16], []⟩ (.op ⟨[], []⟩ (.op ⟨[], []⟩ .done)))) .done)))))))
(.cond (.seq (.rg [] none)
.leaf) .leaf))
(.seq (.rg [] none)
.leaf))))))))
theorem reticuleref06_Bytes_Eok : EnvOk Try.prog reticuleref06_Bytes_E := env_ok tab_ok (by intro t h; simp only [List.mem_cons, List.mem_nil_iff, or_false, List.not_mem_nil] at h; rcases h with rfl | rfl <;> exact ⟨by kernel_rfl, by kernel_rfl, by kernel_rfl⟩) (allFn_mem (show AllFn Try.prog reticuleref06_Bytes_fns from ⟨reticuleref06_Known_ok, reticuleref06_Size_ok, reticuleref06_Class_ok, reticuleref06_lay_ok, reticuleref06_Parse_ok, trivial⟩)) mixed (by kernel_rfl) (by kernel_rfl) (by kernel_rfl) (by kernel_rfl)
theorem reticuleref06_Bytes_eq (x : (Int × (BitVec 64 × (Int × (Int × (Int × Unit)))))) : evF reticuleref06_Bytes_E 267 (bd Try.f17) [.val T25] [.tmp 2 ((.sl (.int .u8)), .full), .tmp 3 (.bool, .view)] reticuleref06_Bytes_an x = reticuleref06_Bytes x := by kernel_rfl
theorem reticuleref06_Bytes_ok : FnOk Try.prog 17 { args := [.val T25], res := [((.sl (.int .u8)), .full), (.bool, .view)], f := reticuleref06_Bytes } :=
  fn_ok reticuleref06_Bytes_Eok Try.func17 rfl (by kernel_rfl) (by kernel_rfl) (by kernel_rfl) (rs := [.tmp 2 ((.sl (.int .u8)), .full), .tmp 3 (.bool, .view)]) (c := bd Try.f17) (an := reticuleref06_Bytes_an) (ob_flat _ _ _ _ _ _ _ (by kernel_rfl)) reticuleref06_Bytes_eq
/-! reticulelaw06_CdbBytes: function 4 -/
noncomputable def reticulelaw06_CdbBytes_fns : List (Nat × Fun) := [(7, { args := [], res := [(.bool, .view)], f := reticulelaw06_alive }), (16, { args := [.val T25], res := [((.sl (.int .u8)), .full), (.bool, .view)], f := cdb_Bytes }), (17, { args := [.val T25], res := [((.sl (.int .u8)), .full), (.bool, .view)], f := reticuleref06_Bytes })]
noncomputable def reticulelaw06_CdbBytes_E : Env := { ty := Re.look tyTab, eq := fun n => memB n [], fn := Re.look reticulelaw06_CdbBytes_fns, cut := fun n => memB n [], win := fun n => memB n [], one := fun n => memB n [], onc := fun n => memB n [], pre := fun n => memB n [], ptr := fun n => memB n [], psl := fun n => memB n [], parr := Re.look [], mpt := Re.look [], lnd := fun n => memB n [], mfz := fun n => memB n [] }
noncomputable def reticulelaw06_CdbBytes_an : An (Ds ((([.tmp 2 (.bool, .view)] : List RV).map RV.pm).map (·.1) ++ ioTys [.val T25])) :=
(.seq (.rg [] none)
(.seq (.seq (.rg [] none)
(.cond (.seq (.rg [] none)
.leaf) .leaf))
(.seq (.rg [] none)
(.seq (.rg [] none)
(.seq (.rg [] (some (.op ⟨[], []⟩ (.op ⟨[176], []⟩ (.op ⟨[], []⟩ (.op ⟨[256], []⟩ (.op ⟨[], []⟩ (.op ⟨[], []⟩ (.split 24 [(28, .bool)] (.op ⟨[], []⟩ (.op ⟨[], []⟩ (.op ⟨[], []⟩ (.op ⟨[], []⟩ .done)))) (.op ⟨[], []⟩ .done))))))))))
.leaf)))))
theorem reticulelaw06_CdbBytes_Eok : EnvOk Try.prog reticulelaw06_CdbBytes_E := env_ok tab_ok (by simp) (allFn_mem (show AllFn Try.prog reticulelaw06_CdbBytes_fns from ⟨reticulelaw06_alive_ok, cdb_Bytes_ok, reticuleref06_Bytes_ok, trivial⟩)) mixed (by kernel_rfl) (by kernel_rfl) (by kernel_rfl) (by kernel_rfl)
theorem reticulelaw06_CdbBytes_eq (x : (Int × (BitVec 64 × (Int × (Int × (Int × Unit)))))) : evF reticulelaw06_CdbBytes_E 29 (bd Try.f4) [.val T25] [.tmp 2 (.bool, .view)] reticulelaw06_CdbBytes_an x = reticulelaw06_CdbBytes x := by kernel_rfl
theorem reticulelaw06_CdbBytes_ok : FnOk Try.prog 4 { args := [.val T25], res := [(.bool, .view)], f := reticulelaw06_CdbBytes } :=
  fn_ok reticulelaw06_CdbBytes_Eok Try.func4 rfl (by kernel_rfl) (by kernel_rfl) (by kernel_rfl) (rs := [.tmp 2 (.bool, .view)]) (c := bd Try.f4) (an := reticulelaw06_CdbBytes_an) (ob_flat _ _ _ _ _ _ _ (by kernel_rfl)) reticulelaw06_CdbBytes_eq
/-! reticulelaw06_CdbBack: function 5 -/
noncomputable def reticulelaw06_CdbBack_fns : List (Nat × Fun) := [(7, { args := [], res := [(.bool, .view)], f := reticulelaw06_alive }), (8, { args := [.val (.sl (.int .u8))], res := [(T25, .view), (T27, .view)], f := cdb_Parse }), (16, { args := [.val T25], res := [((.sl (.int .u8)), .full), (.bool, .view)], f := cdb_Bytes }), (10, { args := [.val (.int .i64)], res := [((.int .i64), .view)], f := cdb_Size })]
noncomputable def reticulelaw06_CdbBack_E : Env := { ty := Re.look tyTab, eq := fun n => memB n [26, 28], fn := Re.look reticulelaw06_CdbBack_fns, cut := fun n => memB n [], win := fun n => memB n [], one := fun n => memB n [], onc := fun n => memB n [], pre := fun n => memB n [], ptr := fun n => memB n [], psl := fun n => memB n [], parr := Re.look [], mpt := Re.look [], lnd := fun n => memB n [43], mfz := fun n => memB n [] }
noncomputable def reticulelaw06_CdbBack_an : An (Ds ((([.tmp 4 (.bool, .view)] : List RV).map RV.pm).map (·.1) ++ ioTys [.val (.sl (.int .u8)), .val (.sl (.int .u8))])) :=
(.seq (.rg [] none)
(.seq (.seq (.rg [] none)
(.cond (.seq (.rg [] none)
.leaf) .leaf))
(.seq (.seq (.rg [] (some (.op ⟨[], []⟩ (.op ⟨[], []⟩ (.op ⟨[], []⟩ (.op ⟨[], []⟩ (.split 16 [(20, .bool)] (.op ⟨[], []⟩ (.op ⟨[], []⟩ (.op ⟨[], []⟩ (.op ⟨[], []⟩ .done)))) .done)))))))
(.cond (.seq (.rg [] none)
.leaf) .leaf))
(.seq (.rg [] none)
(.seq (.seq (.rg [] none)
(.cond (.seq (.rg [] none)
.leaf) .leaf))
(.seq (.rg [] none)
(.seq (.rg [] none)
(.seq (.rg [] (some (.op ⟨[], []⟩ (.op ⟨[], []⟩ (.split 47 [(51, .bool)] (.op ⟨[160], []⟩ (.op ⟨[96], []⟩ (.op ⟨[], []⟩ (.op ⟨[], []⟩ .done)))) (.op ⟨[], []⟩ (.split 52 [(56, .bool)] (.op ⟨[144], []⟩ (.op ⟨[80], []⟩ (.op ⟨[], []⟩ (.op ⟨[], []⟩ .done)))) (.op ⟨[], []⟩ (.split 57 [(64, .bool)] (.op ⟨[], []⟩ (.op ⟨[544], []⟩ (.op ⟨[80], []⟩ (.op ⟨[80], []⟩ (.op ⟨[992], []⟩ (.op ⟨[], []⟩ (.op ⟨[], []⟩ .done))))))) (.op ⟨[], []⟩ (.split 65 [(71, .bool)] (.op ⟨[], []⟩ (.op ⟨[544], []⟩ (.op ⟨[], []⟩ (.op ⟨[], []⟩ (.op ⟨[], []⟩ (.op ⟨[], []⟩ .done)))))) (.op ⟨[], []⟩ .done))))))))))))
.leaf))))))))
theorem reticulelaw06_CdbBack_Eok : EnvOk Try.prog reticulelaw06_CdbBack_E := env_ok tab_ok (by intro t h; simp only [List.mem_cons, List.mem_nil_iff, or_false, List.not_mem_nil] at h; rcases h with rfl | rfl <;> exact ⟨by kernel_rfl, by kernel_rfl, by kernel_rfl⟩) (allFn_mem (show AllFn Try.prog reticulelaw06_CdbBack_fns from ⟨reticulelaw06_alive_ok, cdb_Parse_ok, cdb_Bytes_ok, cdb_Size_ok, trivial⟩)) mixed (by kernel_rfl) (by kernel_rfl) (by kernel_rfl) (by kernel_rfl)
theorem reticulelaw06_CdbBack_eq (x : (List (BitVec 8)) × (List (BitVec 8))) : evF reticulelaw06_CdbBack_E 72 (bd Try.f5) [.val (.sl (.int .u8)), .val (.sl (.int .u8))] [.tmp 4 (.bool, .view)] reticulelaw06_CdbBack_an x = reticulelaw06_CdbBack x := by kernel_rfl
theorem reticulelaw06_CdbBack_ok : FnOk Try.prog 5 { args := [.val (.sl (.int .u8)), .val (.sl (.int .u8))], res := [(.bool, .view)], f := reticulelaw06_CdbBack } :=
  fn_ok reticulelaw06_CdbBack_Eok Try.func5 rfl (by kernel_rfl) (by kernel_rfl) (by kernel_rfl) (rs := [.tmp 4 (.bool, .view)]) (c := bd Try.f5) (an := reticulelaw06_CdbBack_an) (ob_flat _ _ _ _ _ _ _ (by kernel_rfl)) reticulelaw06_CdbBack_eq
/-! reticulelaw06_CdbBlocks: function 6 -/
noncomputable def reticulelaw06_CdbBlocks_fns : List (Nat × Fun) := [(7, { args := [], res := [(.bool, .view)], f := reticulelaw06_alive }), (10, { args := [.val (.int .i64)], res := [((.int .i64), .view)], f := cdb_Size }), (14, { args := [.val (.int .i64)], res := [((.int .i64), .view)], f := cdb_Class }), (16, { args := [.val T25], res := [((.sl (.int .u8)), .full), (.bool, .view)], f := cdb_Bytes })]
noncomputable def reticulelaw06_CdbBlocks_E : Env := { ty := Re.look tyTab, eq := fun n => memB n [], fn := Re.look reticulelaw06_CdbBlocks_fns, cut := fun n => memB n [], win := fun n => memB n [], one := fun n => memB n [], onc := fun n => memB n [], pre := fun n => memB n [], ptr := fun n => memB n [], psl := fun n => memB n [], parr := Re.look [], mpt := Re.look [], lnd := fun n => memB n [], mfz := fun n => memB n [] }
noncomputable def reticulelaw06_CdbBlocks_an : An (Ds ((([.tmp 6 (.bool, .view)] : List RV).map RV.pm).map (·.1) ++ ioTys [.val (.int .u64), .val (.int .u32), .val .bool])) :=
(.seq (.rg [] none)
(.seq (.seq (.rg [] none)
(.cond (.seq (.rg [] none)
.leaf) .leaf))
(.seq (.rg [] none)
(.seq (.seq (.rg [] none)
(.loop [.val 0 (.int .u64), .val 1 (.int .u32), .val 2 .bool, .box 7 (.arr 13 (.int .i64)), .val 8 (.int .i64)] [] reticulelaw06_CdbBlocks_L0
(.seq (.seq (.rg [] none)
(.cond .leaf .leaf))
(.seq (.block (.seq (.rg [] none)
(.seq (.rg [] none)
(.join [.val 0 (.int .u64), .val 1 (.int .u32), .val 2 .bool, .box 7 (.arr 13 (.int .i64)), .val 8 (.int .i64), .val 9 (.int .i64), .val 10 (.int .u64), .val 11 (.int .u64)]
(.seq (.rg [] none)
(.block (.seq (.rg [] none)
(.cond (.rg [] none) (.seq (.rg [] none)
(.cond (.rg [] none) (.seq (.rg [] none)
(.cond (.rg [] none) .leaf))))))))
(.seq (.rg [] none)
(.join [.val 0 (.int .u64), .val 1 (.int .u32), .val 2 .bool, .box 7 (.arr 13 (.int .i64)), .val 8 (.int .i64), .val 9 (.int .i64), .val 10 (.int .u64), .val 11 (.int .u64), .box 12 T25]
(.seq (.rg [] (some (.op ⟨[], []⟩ (.op ⟨[], []⟩ (.split 40 [(44, .bool)] (.op ⟨[], []⟩ (.op ⟨[672], []⟩ (.op ⟨[], []⟩ (.op ⟨[], []⟩ .done)))) (.op ⟨[], []⟩ (.split 45 [(49, .bool)] (.op ⟨[], []⟩ (.op ⟨[752], []⟩ (.op ⟨[], []⟩ (.op ⟨[], []⟩ .done)))) .done)))))))
(.cond (.rg [] none) .leaf))
(.seq (.rg [] none)
(.seq (.rg [] (some (.op ⟨[], []⟩ (.op ⟨[], []⟩ (.op ⟨[], []⟩ (.op ⟨[], []⟩ (.split 59 [(64, .bool)] (.op ⟨[], []⟩ (.op ⟨[], []⟩ (.op ⟨[], []⟩ (.op ⟨[], []⟩ (.op ⟨[], []⟩ .done))))) (.op ⟨[], []⟩ (.split 65 [(73, .bool)] (.op ⟨[], []⟩ (.op ⟨[1072], []⟩ (.op ⟨[], []⟩ (.op ⟨[], []⟩ (.split 69 [(72, .bool)] (.op ⟨[], []⟩ (.op ⟨[], []⟩ (.op ⟨[], []⟩ .done))) (.op ⟨[], []⟩ .done)))))) (.op ⟨[], []⟩ .done))))))))))
(.seq (.rg [] (some (.op ⟨[], []⟩ (.op ⟨[], []⟩ (.op ⟨[], []⟩ (.op ⟨[], []⟩ (.split 77 [(86, .bool)] (.op ⟨[], []⟩ (.op ⟨[], []⟩ (.split 79 [(85, .bool)] (.op ⟨[], []⟩ (.op ⟨[848], []⟩ (.op ⟨[], []⟩ (.op ⟨[1328], []⟩ (.op ⟨[], []⟩ (.op ⟨[], []⟩ .done)))))) (.op ⟨[], []⟩ .done)))) .done)))))))
(.cond (.seq (.rg [] none)
.leaf) .leaf))))))))))
(.rg [] none)))))
(.seq (.rg [] none)
.leaf)))))
theorem reticulelaw06_CdbBlocks_Eok : EnvOk Try.prog reticulelaw06_CdbBlocks_E := env_ok tab_ok (by simp) (allFn_mem (show AllFn Try.prog reticulelaw06_CdbBlocks_fns from ⟨reticulelaw06_alive_ok, cdb_Size_ok, cdb_Class_ok, cdb_Bytes_ok, trivial⟩)) mixed (by kernel_rfl) (by kernel_rfl) (by kernel_rfl) (by kernel_rfl)
theorem reticulelaw06_CdbBlocks_eq (x : (BitVec 64) × (BitVec 32) × Bool) : evF reticulelaw06_CdbBlocks_E 87 (bd Try.f6) [.val (.int .u64), .val (.int .u32), .val .bool] [.tmp 6 (.bool, .view)] reticulelaw06_CdbBlocks_an x = reticulelaw06_CdbBlocks x := by kernel_rfl
theorem reticulelaw06_CdbBlocks_ok : FnOk Try.prog 6 { args := [.val (.int .u64), .val (.int .u32), .val .bool], res := [(.bool, .view)], f := reticulelaw06_CdbBlocks } :=
  fn_ok reticulelaw06_CdbBlocks_Eok Try.func6 rfl (by kernel_rfl) (by kernel_rfl) (by kernel_rfl) (rs := [.tmp 6 (.bool, .view)]) (c := bd Try.f6) (an := reticulelaw06_CdbBlocks_an) (show obF reticulelaw06_CdbBlocks_E 87 (bd Try.f6) [.val (.int .u64), .val (.int .u32), .val .bool] [.tmp 6 (.bool, .view)] reticulelaw06_CdbBlocks_an from (And.intro trivial (And.intro (And.intro trivial (And.intro (And.intro trivial trivial) trivial)) (And.intro trivial (And.intro (And.intro trivial (And.intro (fun _ => rfl) (And.intro (fun n j => by kernel_rfl) (fun n => (And.intro (And.intro trivial (And.intro trivial trivial)) (And.intro (And.intro trivial (And.intro trivial (And.intro (And.intro trivial (And.intro trivial (And.intro trivial (And.intro trivial (And.intro trivial (And.intro trivial (And.intro trivial trivial))))))) (And.intro trivial (And.intro (And.intro trivial (And.intro trivial trivial)) (And.intro trivial (And.intro trivial (And.intro trivial (And.intro (And.intro trivial trivial) trivial))))))))) trivial)))))) (And.intro trivial trivial)))))) reticulelaw06_CdbBlocks_eq
end Go.Proofs.Ytnhmeldgpgidiaa
