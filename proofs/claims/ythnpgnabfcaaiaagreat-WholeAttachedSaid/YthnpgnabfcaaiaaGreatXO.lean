/- Each function does what its plain one tells (printed). -/
import Derived.Test.YthnpgnabfcaaiaaGreatXT
namespace Go.Proofs.YthnpgnabfcaaiaaGreat
open Go Go.Re
set_option linter.unusedVariables false
set_option maxRecDepth 100000
set_option maxHeartbeats 1000000
abbrev z {R:Type}:An R:=.rg [] none
noncomputable section
abbrev q40:Seg:=.op ⟨[],[]⟩ .done
abbrev q0:Seg:=.op ⟨[],[]⟩ q40
abbrev q1 {R:Type}:An R:=.seq z .leaf
abbrev q81:Seg:=.op ⟨[96],[96]⟩ .done
abbrev q55:Seg:=.op ⟨[96],[]⟩ (.op ⟨[96],[]⟩ (.op ⟨[96],[]⟩ q81))
abbrev q2:Seg:=.op ⟨[],[]⟩ (.op ⟨[],[]⟩ (.op ⟨[],[]⟩ (.op ⟨[96],[]⟩ (.op ⟨[96],[]⟩ (.op ⟨[96],[]⟩ (.op ⟨[96],[96]⟩ q55))))))
abbrev q3 {R:Type}:An R:=.cond .leaf .leaf
abbrev q48 {R:Type}:An R:=.cond z .leaf
abbrev q4 {R:Type}:An R:=.seq z q48
abbrev q5:List JI:=[.box 6 (.arr 64 (.int .u8)),.box 8 T97,.vbx 46 T97 [([.fst],(.arr 64 (.int .u8))),([.snd,.fst],T195)],.pv 51 (.cl 392 (.cons (.pel (.cl 509 (.cons (.rp .bool) (.cons (.rp (.int .i64)) (.cons (.rp T97) .nil))))) .nil)),.pv 52 (.cl 393 .nil),.vbx 56 T97 [([.fst],(.arr 64 (.int .u8))),([.snd,.fst],T195)],.vbx 57 T97 [([.fst],(.arr 64 (.int .u8))),([.snd,.fst],T195)],.val 65 (.sl T195),.val 66 (.int .i64),.val 67 (.int .i64)]
abbrev q6:List JI:=[.box 6 T97,.vbx 43 T97 [([.fst],(.arr 64 (.int .u8))),([.snd,.fst],T195)],.pv 48 (.cl 392 (.cons (.pel (.cl 318 (.cons (.rp (.int .i64)) (.cons (.rp (.int .i64)) .nil)))) .nil)),.pv 49 (.cl 393 .nil),.vbx 53 T97 [([.fst],(.arr 64 (.int .u8))),([.snd,.fst],T195)],.vbx 54 T97 [([.fst],(.arr 64 (.int .u8))),([.snd,.fst],T195)],.val 62 (.sl T195),.val 63 (.int .i64),.val 64 (.int .i64)]
abbrev q7:List JI:=[.box 8 T49,.vbx 11 T288 [([.fst,.fst],T86),([.fst,.snd,.fst],T57)]]
abbrev q8:Seg:=.op ⟨[128],[128]⟩ (.op ⟨[144],[144]⟩ q40)
abbrev q9:List JI:=[.vbx 13 T97 [([.fst],(.arr 64 (.int .u8))),([.snd,.fst],T195)],.pv 18 (.cl 392 (.cons (.pel (.cl 508 .nil)) .nil)),.pv 19 (.cl 393 .nil),.vbx 23 T97 [([.fst],(.arr 64 (.int .u8))),([.snd,.fst],T195)],.vbx 24 T97 [([.fst],(.arr 64 (.int .u8))),([.snd,.fst],T195)],.val 32 (.sl T195),.val 33 (.int .i64),.val 34 (.int .i64)]
abbrev q10:Seg:=.op ⟨[64],[64]⟩ (.op ⟨[80],[80]⟩ .done)
abbrev q51:Seg:=.op ⟨[0],[]⟩ (.op ⟨[0],[0]⟩ .done)
abbrev q11:Seg:=.op ⟨[0],[]⟩ (.op ⟨[0],[]⟩ (.op ⟨[0],[0]⟩ (.op ⟨[0],[]⟩ (.op ⟨[0],[]⟩ q51))))
abbrev q12 {R:Type}:An R:=.seq (.block (.seq z z)) z
abbrev q13:Seg:=.op ⟨[336],[]⟩ (.op ⟨[336],[]⟩ (.op ⟨[336],[]⟩ (.op ⟨[336],[336]⟩ .done)))
abbrev q14:Seg:=.op ⟨[96],[96]⟩ (.op ⟨[112],[112]⟩ q40)
abbrev q15:Seg:=.op ⟨[112],[112]⟩ .done
abbrev q16 {R:Type}:An R:=.seq (.rg [178,179] (some (.op ⟨[],[]⟩ (.op ⟨[176],[]⟩ (.op ⟨[176],[]⟩ (.op ⟨[176],[]⟩ (.op ⟨[],[]⟩ (.op ⟨[176],[]⟩ (.op ⟨[176],[]⟩ (.op ⟨[176],[]⟩ (.op ⟨[128,178,179],[128]⟩ q40))))))))))) .leaf
abbrev q17 {R:Type}:An R:=.seq z (.cond .leaf z)
abbrev q18:Seg:=.op ⟨[],[]⟩ (.op ⟨[32],[32]⟩ q40)
abbrev q19:Seg:=.op ⟨[98],[]⟩ (.op ⟨[98],[98]⟩ .done)
abbrev q20 {R:Type}:An R:=.seq .leaf .leaf
abbrev q21 {R:Type}:An R:=.rg [] (some (.op ⟨[],[]⟩ (.op ⟨[],[]⟩ (.op ⟨[178],[]⟩ (.op ⟨[],[]⟩ (.op ⟨[],[]⟩ (.op ⟨[178],[]⟩ (.op ⟨[178],[178]⟩ q40))))))))
abbrev q60:Seg:=.op ⟨[144],[144]⟩ .done
abbrev q22:Seg:=.op ⟨[128],[128]⟩ q60
abbrev q23:Seg:=.op ⟨[32],[32]⟩ .done
abbrev q24:List JI:=[.box 4 T51,.box 5 T57,.vbx 6 T111 [([.fst,.snd,.snd,.snd,.snd,.fst],T114)],.vbx 183 T57 [],.vbx 245 T57 [],.vbx 309 T57 []]
abbrev q25:List JI:=[.val 2 (.sl (.int .u8)),.box 3 T76,.box 6 T76,.box 8 T69,.box 12 T57,.row 13 (.int .u8) .full,.val 14 (.int .i64)]
abbrev q26:List JI:=[.val 2 (.sl (.int .u8)),.box 3 T76,.box 4 T86,.box 6 T76,.box 10 T57,.row 11 (.int .u8) .full,.val 12 (.int .i64)]
abbrev q27:Seg:=.op ⟨[],[]⟩ (.op ⟨[],[]⟩ (.op ⟨[],[]⟩ (.op ⟨[112],[112]⟩ q40)))
abbrev q28:List JI:=[.val 6 (.int .u64),.val 7 .bool,.val 18 (.sl (.int .u8)),.val 19 (.int .i64),.val 20 (.int .i64)]
abbrev q29:Seg:=.op ⟨[64],[]⟩ (.op ⟨[64],[64]⟩ (.op ⟨[64],[]⟩ (.op ⟨[64],[64]⟩ .done)))
abbrev q30:Seg:=.op ⟨[224],[]⟩ q40
abbrev q31:List JI:=[.val 0 (.sl T86),.row 3 (.pair (.arr 2 (.int .u8)) (.int .i64)) .mp,.val 4 (.int .i64)]
abbrev q32 {R:Type}:An R:=.reg (.oin 1 82 0 none (.seq z z) (.ofin none))
abbrev q33:Seg:=.op ⟨[128],[128]⟩ .done
abbrev q34:List JI:=[.val 0 (.sl T102),.pv 7 (.clo 83 T41),.val 17 (.int .i64),.val 18 (.int .i64)]
abbrev q35:List JI:=[.val 2 (.int .i64),.val 9 (.sl T114),.val 10 (.int .i64),.val 11 (.int .i64)]
abbrev q36:List JI:=[.box 8 T49,.vbx 10 T288 [([.fst,.fst],T86),([.fst,.snd,.fst],T57)]]
abbrev q37:Seg:=.op ⟨[4496],[4496]⟩ .done
abbrev q38 {R:Type}:An R:=.ofin (some ([],.done))
abbrev q39:Seg:=.op ⟨[160],[160]⟩ .done
abbrev q41:Seg:=.op ⟨[],[]⟩ q0
abbrev q67 {R:Type}:An R:=.cond q1 .leaf
abbrev q42 {R:Type}:An R:=.seq z q67
abbrev q43:Seg:=.op ⟨[16],[]⟩ (.op ⟨[16],[]⟩ q0)
abbrev q44:Seg:=.op ⟨[48],[]⟩ (.op ⟨[48],[]⟩ q0)
abbrev q45:Seg:=.op ⟨[32],[]⟩ (.op ⟨[32],[]⟩ q0)
abbrev q46 {R:Type}:An R:=.seq (.seq z q3) (.block (.rg [] (some (.op ⟨[],[]⟩ (.op ⟨[],[]⟩ (.op ⟨[],[]⟩ (.op ⟨[112],[]⟩ (.op ⟨[],[]⟩ (.op ⟨[],[]⟩ (.op ⟨[112],[]⟩ (.op ⟨[112],[112]⟩ q0)))))))))))
abbrev q47 {R:Type}:An R:=.seq z (.seq q3 q12)
abbrev q49 {R:Type}:An R:=.seq z (.seq z q1)
abbrev q50:Seg:=.op ⟨[],[]⟩ (.op ⟨[336],[]⟩ (.op ⟨[336],[]⟩ (.op ⟨[336],[]⟩ (.op ⟨[336],[]⟩ (.op ⟨[336],[]⟩ q0)))))
abbrev q52 {R:Type}:An R:=.seq z (.cond .leaf (.seq z (.cond .leaf q17)))
abbrev q53 {R:Type}:An R:=.seq z (.seq q3 (.seq (.block (.seq z (.seq z (.seq z q3)))) z))
abbrev q79:Seg:=.op ⟨[96],[96]⟩ q15
abbrev q54 {R:Type}:An R:=.seq z (.cond (.seq (.rg [] (some (.op ⟨[48],[]⟩ (.op ⟨[64],[]⟩ q79)))) .leaf) .leaf)
abbrev q80:Seg:=.op ⟨[],[]⟩ q15
abbrev q56 {R:Type}:An R:=.seq (.rg [] (some (.op ⟨[],[]⟩ (.op ⟨[128],[]⟩ q80)))) .leaf
abbrev q57:Seg:=.op ⟨[],[]⟩ (.op ⟨[],[]⟩ (.op ⟨[],[]⟩ (.op ⟨[],[]⟩ q18)))
abbrev q58 {R:Type}:An R:=.cond (.seq (.rg [] (some (.op ⟨[32],[]⟩ (.op ⟨[112],[]⟩ q10)))) .leaf) .leaf
abbrev q59:Seg:=.op ⟨[32],[]⟩ (.op ⟨[32],[32]⟩ (.op ⟨[32],[]⟩ q23))
abbrev q61:Seg:=.op ⟨[48],[48]⟩ (.op ⟨[192],[192]⟩ .done)
abbrev q62:Seg:=.op ⟨[400],[]⟩ (.op ⟨[400],[400]⟩ .done)
abbrev q63:Seg:=.op ⟨[],[]⟩ (.op ⟨[5808],[5808]⟩ .done)
abbrev q64:Seg:=.op ⟨[144],[]⟩ (.op ⟨[144],[]⟩ q0)
abbrev q83:Seg:=.op ⟨[],[]⟩ q41
abbrev q65:Seg:=.op ⟨[],[]⟩ q83
abbrev q66:Seg:=.op ⟨[16],[]⟩ (.op ⟨[16],[]⟩ (.op ⟨[16],[]⟩ (.op ⟨[16],[]⟩ q83)))
abbrev q68:Seg:=.op ⟨[16],[]⟩ (.op ⟨[16],[]⟩ q41)
abbrev q69 {R:Type}:An R:=.seq z (.seq q42 q1)
abbrev q70:Seg:=.op ⟨[64],[]⟩ (.op ⟨[64],[]⟩ q41)
abbrev q71 {R:Type}:An R:=.seq z (.seq (.rg [] (some (.op ⟨[],[]⟩ (.op ⟨[],[]⟩ (.op ⟨[],[]⟩ (.split 7 [(11,.bool)] q83 q40)))))) .leaf)
abbrev q72 {R:Type}:An R:=.seq z (.seq q3 (.seq (.block (.seq z q42)) z))
abbrev q84 {R:Type}:An R:=.cond q1 q42
abbrev q73 {R:Type}:An R:=.seq z q84
abbrev q74 {R:Type}:An R:=.seq z (.seq (.rg [] (some (.op ⟨[],[]⟩ (.op ⟨[],[]⟩ (.op ⟨[],[]⟩ (.split 5 [(8,.bool)] q41 q40)))))) .leaf)
abbrev q75 {R:Type}:An R:=.seq (.rg [] (some (.op ⟨[],[]⟩ (.op ⟨[],[]⟩ (.op ⟨[],[]⟩ (.split 23 [(26,.bool)] q41 .done)))))) q3
abbrev q76:Seg:=.op ⟨[],[]⟩ (.split 11 [(14,.bool)] q41 (.op ⟨[],[]⟩ (.split 15 [(18,.bool)] q41 .done)))
abbrev q77 {R:Type}:An R:=.reg (.oin 9 343 16 none (.seq z (.seq z (.seq q42 (.seq z (.seq q21 (.seq z q1)))))) (.ofin none))
abbrev q78:Seg:=.op ⟨[32],[]⟩ (.op ⟨[32],[]⟩ q44)
abbrev q82:Seg:=.op ⟨[],[]⟩ (.op ⟨[],[]⟩ q65)
abbrev q85:Seg:=.op ⟨[],[]⟩ (.op ⟨[],[]⟩ (.op ⟨[],[]⟩ (.op ⟨[],[]⟩ (.op ⟨[],[]⟩ q82))))
theorem gadget_work_end_pe:PeOk Tryz.prog 239 ((.pair T51 (.pair T61 .unit)),[.fst,.snd,.snd,.snd,.snd,.fst],T114) where
 fn:=⟨Tryz.f239,Tryz.func239,by kernel_rfl,by kernel_rfl⟩
 calls w b o b1 o1 n c i hc hi hn:=by
  have hE:EnvOk Tryz.prog (EL.E {} tyTab):=EL.ok (l:={}) tab_ok mixed (by kernel_rfl) trivial trivial trivial;have hT:∀t τ,(EL.E {} tyTab).ty t=some τ→TyOk Tryz.prog (EL.E {} tyTab).ty t τ:=hE.ty;refine calls_of_wp (c:=bdF Tryz.f239) Tryz.func239 (by kernel_rfl) ?_
  have ha:#[Value.pointer (some ⟨b,o,none⟩),.int .i64 ((i:Int)+1)]++Array.replicate (Tryz.f239.ntmps-(#[Value.pointer (some ⟨b,o,none⟩),.int .i64 ((i:Int)+1)]:Array Value).size) undef =
   #[.pointer (some ⟨b,o,none⟩),.int .i64 ((i:Int)+1),undef,undef,undef,undef,undef,undef,undef,undef,undef,undef,undef]:=by kernel_rfl
  rw[ha];obtain⟨P0,hP0⟩:∃o',o'=offP (.st (.pair T51 (.pair T61 .unit))) [.fst,.snd,.snd,.snd,.snd,.fst]:=⟨_,rfl⟩
  show Code.wp Tryz.prog (.seq (.region 0 #[Oper.mk (some 4) (.assign (.const (.pointer none))) 273 "gadget.go:58" #[] none] false) (.seq (.region 1 #[Oper.mk (some 5) (.move (.tmp 0)) 110 "gadget.go:58" #[] none,
   Oper.mk (some 6) (.nilCheck (.tmp 5)) 0 "gadget.go:58" #[Edge.mk 0 .data] none,
   Oper.mk (some 7) (.fieldAddr 112 (.tmp 6) 0) 0 "gadget.go:58" #[Edge.mk 1 .data] none,
   Oper.mk (some 8) (.fieldAddr 52 (.tmp 7) 4) 0 "gadget.go:58" #[Edge.mk 2 .data] none,
   Oper.mk (some 9) (.load 34 (.tmp 8)) 34 "gadget.go:58" #[Edge.mk 3 .data] none,
   Oper.mk (some 10) (.move (.tmp 1)) 3 "gadget.go:58" #[] none,
   Oper.mk (some 11) (.binOp .sub 3 (.tmp 10) (.const (.int .i64 1)) 3) 3 "gadget.go:58" #[Edge.mk 5 .data] none,
   Oper.mk (some 12) (.indexAddr 34 (.tmp 9) (.tmp 11)) 0 "gadget.go:58" #[Edge.mk 4 .data,Edge.mk 6 .data] none,
   Oper.mk (some 4) (.assign (.tmp 12)) 273 "gadget.go:58" #[Edge.mk 7 Ground.data,Edge.mk 0 Ground.phase,Edge.mk 1 Ground.phase,Edge.mk 2 Ground.phase,Edge.mk 3 Ground.phase,Edge.mk 4 Ground.phase,Edge.mk 5 Ground.phase,Edge.mk 6 Ground.phase,Edge.mk 7 Ground.phase] none] false) .ret)) _ _ _
  refine wp_seq (wp_region ?_);refine wpOps_v (u:=.pointer none) rfl rfl (by kernel_rfl) ?_;refine wp_seq (wp_region ?_);refine wpOps_v (u:=.pointer (some ⟨b,o,none⟩)) rfl rfl (by kernel_rfl) ?_;refine wpOps_v (u:=.pointer (some ⟨b,o,none⟩)) rfl rfl (by kernel_rfl) ?_;refine wpOps_v (u:=.pointer (some ⟨b,o,none⟩)) rfl rfl (exec_v (s:=Instr.fieldAt 112 (.pointer (some ⟨b,o,none⟩)) 0) (by kernel_rfl) (fieldAt_run hE (b:=.pair T51 (.pair T61 .unit)) (by kernel_rfl) (f:=0) (τ':=T51) (by kernel_rfl) b o)) ?_
  refine wpOps_v (u:=.pointer (some ⟨b,o+P0,none⟩)) rfl rfl (exec_v (s:=Instr.fieldAt 52 (.pointer (some ⟨b,o,none⟩)) 4) (by kernel_rfl) (by
   rw[hP0];exact fieldAt_run hE (t:=52) (b:=stB T51) (by kernel_rfl) (f:=4) (τ':=.sl T114) (by kernel_rfl) b o)) ?_
  refine wpOps_v (u:=.slice (some ⟨b1,o1,none⟩) n c) rfl rfl (exec_v (s:=Instr.loadAt 34 (.pointer (some ⟨b,o+P0,none⟩))) (by kernel_rfl) ?_) ?_
  · have h34:=hT 34 (.sl T114) (by kernel_rfl)
    have h:=h34.loadL (w:=w) (b:=b) (off:=o+P0) (cs:=[.slice (some ⟨b1,o1,none⟩) n c]) rfl (by
     intro j v hj;cases j with
     | zero=>cases hj;rw[hP0];exact hc
     | succ j=>cases hj)
    simp only[Instr.loadAt,Instr.sureAddr,Sem.run_bind,Sem.run_pure,Result.andThen_ok];exact h
  refine wpOps_v (u:=.int .i64 ((i:Int)+1)) rfl rfl (by kernel_rfl) ?_;refine wpOps_v (u:=.int .i64 (i:Int)) rfl rfl (exec_v (s:=do eqGuard .sub 3 (.tmp 10) (.const (.int .i64 1)) (.int .i64 ((i:Int)+1)) (.int .i64 1);binOp .sub 3 (.int .i64 ((i:Int)+1)) (.int .i64 1)) (by kernel_rfl) ?_) ?_
  · rw[bind_guard]
    have hz:arith .sub .i64 ((i:Int)+1) 1=some (w64 ((i:Int)+1-1)):=rfl;have hbig:(i:Int)<140737488355328:=by have:n≤140737488355328:=hn;omega
    have g1:(-9223372036854775808:Int)≤(i:Int)+1:=by omega
    have g2:(i:Int)+1<9223372036854775808:=by omega
    have:=(arith_ok (P:=Tryz.prog) (w:=w) (k:=.i64) (x:=(i:Int)+1) (y:=1) ⟨g1,g2⟩ ⟨by decide,by decide⟩ hz 3).1;rw[show w64 ((i:Int)+1-1)=(i:Int) from by rw[w64_in (by omega) (by omega)];omega] at this;exact this
  refine wpOps_v (u:=.pointer (some ⟨b1,o1+(i:Int).toNat*T114.size,none⟩)) rfl rfl (exec_v (s:=Instr.indexAt 34 (.slice (some ⟨b1,o1,none⟩) n c) (.int .i64 (i:Int))) (by kernel_rfl) (indexAt_slice hE (by kernel_rfl) b1 o1 n c .i64 (by omega) (by omega))) ?_;refine wpOps_v (u:=.pointer (some ⟨b1,o1+(i:Int).toNat*T114.size,none⟩)) rfl rfl (by kernel_rfl) ?_;refine wp_ret ?_;refine⟨by kernel_rfl,.pointer (some ⟨b1,o1+(i:Int).toNat*T114.size,none⟩),by kernel_rfl,?_,rfl⟩;rw[Int.toNat_natCast]
abbrev g77:Fun:=fg [.val (.int .i64),.val (.int .i64)] [.tmp 4 (.bool,.view)] gadget_within
def l77:EL:={fs:=[]}
def a77:AG g77:=q71
theorem o77:FnOk Tryz.prog 77 g77:=fnY tab_ok mixed l77 a77 trivial Tryz.func77
abbrev g33:Fun:=fg [.val T22] [.tmp 2 (.bool,.view)] gadget_may
def l33:EL:={fs:=[(77,g77)]}
def a33:AG g33:=(.seq z (.seq (.rg [] (some (.op ⟨[16],[]⟩ (.op ⟨[16],[]⟩ (.op ⟨[80],[]⟩ (.op ⟨[],[]⟩ (.split 6 [(10,.bool)] (.op ⟨[16],[]⟩ (.op ⟨[16],[]⟩ (.op ⟨[144],[]⟩ q40))) (.op ⟨[],[]⟩ (.split 11 [(15,.bool)] (.op ⟨[16],[]⟩ (.op ⟨[16],[]⟩ q30)) q40))))))))) .leaf))
theorem o33:FnOk Tryz.prog 33 g33:=fnY tab_ok mixed l33 a33 ⟨o77,trivial⟩ Tryz.func33
abbrev g219:Fun:=fg [.val (.int .u64),.val (.int .u64)] [.tmp 4 ((.int .u64),.view),.tmp 5 ((.int .u64),.view)] math_bits_Mul64
def l219:EL:={fs:=[]}
def a219:AG g219:=(.seq z (.seq z (.seq z (.seq z (.seq z (.seq z (.seq z (.seq z (.seq z q49)))))))))
theorem o219:FnOk Tryz.prog 219 g219:=fnY tab_ok mixed l219 a219 trivial Tryz.func219
abbrev g130:Fun:=fg [.val (.int .u64),.val (.int .u64)] [.tmp 4 ((.int .u64),.view),.tmp 5 ((.int .u64),.view)] math_bits_Mul
def l130:EL:={fs:=[(219,g219)]}
def a130:AG g130:=(.seq z (.seq (.cond (.seq .leaf q20) .leaf) (.seq z q1)))
theorem o130:FnOk Tryz.prog 130 g130:=fnY tab_ok mixed l130 a130 ⟨o219,trivial⟩ Tryz.func130
abbrev g133:Fun:=fg [.val (.sl (.arr 64 (.int .u8))),.val (.int .i64)] [.tmp 4 ((.sl (.arr 64 (.int .u8))),.full)] slices_Repeat_api_Block
def l133:EL:={fs:=[(130,g130)],ws:=[41],rs:=[44]}
def a133:AG g133:=(.seq z (.seq (.seq z q3) (.seq z (.seq q75 (.seq z (.seq z (.seq (.loop [.row 7 (.arr 64 (.int .u8)) .full,.val 8 (.int .i64)] [.row 7 (.arr 64 (.int .u8)) .full] slices_Repeat_api_Block_L0 q46) q1)))))))
theorem o133:FnOk Tryz.prog 133 g133:=fnX tab_ok mixed l133 a133 ⟨o130,trivial⟩ Tryz.func133 (⟨(obw rfl),⟨(obw rfl),⟨(obw rfl),⟨(obw rfl),⟨(obw rfl),⟨(obw rfl),⟨⟨fun _=>rfl,fun n j=>by kernel_rfl,fun n=>(obw rfl)⟩,(obw rfl)⟩⟩⟩⟩⟩⟩⟩)
abbrev g78:Fun:=fg [.val (.int .i64),.val (.int .u8)] [.tmp 4 ((.sl (.arr 64 (.int .u8))),.full),.tmp 5 ((.int .i64),.view)] block_Make
def l78:EL:={fs:=[(133,g133)]}
def a78:AG g78:=(.seq z (.seq (.seq (.rg [] (some (.op ⟨[],[]⟩ (.op ⟨[],[]⟩ (.op ⟨[],[]⟩ (.split 10 [(13,.bool)] q41 .done)))))) q67) (.seq z (.seq (.seq z (.loop [.val 0 (.int .i64),.val 1 (.int .u8),.box 6 (.arr 64 (.int .u8)),.val 14 (.int .i64)] [.val 0 (.int .i64),.box 6 (.arr 64 (.int .u8))] block_Make_L0 q47)) q1))))
theorem o78:FnOk Tryz.prog 78 g78:=fnX tab_ok mixed l78 a78 ⟨o133,trivial⟩ Tryz.func78 (⟨(obw rfl),⟨(obw rfl),⟨(obw rfl),⟨⟨(obw rfl),⟨fun _=>rfl,fun n j=>by kernel_rfl,fun n=>(obw rfl)⟩⟩,(obw rfl)⟩⟩⟩⟩)
abbrev g86:Fun:=fg [.val (.int .i64)] [.cell 2 T41] sense_reset
def l86:EL:={fs:=[]}
def a86:AG g86:=(.seq z q1)
theorem o86:FnOk Tryz.prog 86 g86:=fnY tab_ok mixed l86 a86 trivial Tryz.func86
abbrev g79:Fun:=fg [] [.cell 0 T41] sense_PowerOn
def l79:EL:={fs:=[(86,g86)]}
def a79:AG g79:=(.seq z q1)
theorem o79:FnOk Tryz.prog 79 g79:=fnY tab_ok mixed l79 a79 ⟨o86,trivial⟩ Tryz.func79
abbrev g34:Fun:=fg [.val (.int .i64),.val (.int .i64)] [.tmp 4 ((.sl T102),.full),.tmp 5 ((.int .i64),.view)] unit_Make
def l34:EL:={fs:=[(78,g78),(79,g79)]}
def a34:AG g34:=(.seq z (.seq (.seq (.rg [] (some (.op ⟨[],[]⟩ (.op ⟨[],[]⟩ q76)))) q67) (.seq z (.seq (.seq z (.loop [.val 1 (.int .i64),.row 6 T102 .full,.val 19 (.int .i64),.val 20 (.int .i64)] [.row 6 T102 .full] unit_Make_L0 (.seq z (.seq q3 (.seq (.block (.seq z (.seq q42 z))) z))))) q1))))
theorem o34:FnOk Tryz.prog 34 g34:=fnX tab_ok mixed l34 a34 ⟨o78,o79,trivial⟩ Tryz.func34 (⟨(obw rfl),⟨(obw rfl),⟨(obw rfl),⟨⟨(obw rfl),⟨fun _=>rfl,fun n j=>by kernel_rfl,fun n=>(obw rfl)⟩⟩,(obw rfl)⟩⟩⟩⟩)
abbrev g12:Fun:=fg [.val T22] [.cell 2 T51,.tmp 3 ((.int .i64),.view)] gadget_Make
def l12:EL:={fs:=[(33,g33),(34,g34)]}
def a12:AG g12:=(.seq z (.seq q42 (.seq z (.seq (.rg [240,320] (some (.op ⟨[16],[]⟩ (.op ⟨[],[]⟩ (.op ⟨[320],[320]⟩ (.op ⟨[240,320],[320]⟩ q18)))))) .leaf))))
theorem o12:FnOk Tryz.prog 12 g12:=fnY tab_ok mixed l12 a12 ⟨o33,o34,trivial⟩ Tryz.func12
abbrev g126:Fun:=fg [.val T29] [.tmp 2 (.bool,.view)] setup_Right
def l126:EL:={fs:=[]}
def a126:AG g126:=(.seq z (.seq (.rg [] (some (.op ⟨[16],[]⟩ (.op ⟨[16],[]⟩ (.op ⟨[16],[]⟩ (.op ⟨[16],[]⟩ (.op ⟨[],[]⟩ (.op ⟨[],[]⟩ (.op ⟨[],[]⟩ (.op ⟨[],[]⟩ (.split 10 [(18,.bool)] q66 (.op ⟨[],[]⟩ (.split 19 [(27,.bool)] q66 (.op ⟨[],[]⟩ (.split 28 [(36,.bool)] q66 (.op ⟨[],[]⟩ (.split 37 [(45,.bool)] q66 q40))))))))))))))))) .leaf))
theorem o126:FnOk Tryz.prog 126 g126:=fnY tab_ok mixed l126 a126 trivial Tryz.func126
abbrev g128:Fun:=fg [.val (.int .u64),.val (.int .i64)] [.tmp 4 ((.sl (.int .u8)),.full)] number_PutLittle
def l128:EL:={fs:=[]}
def a128:AG g128:=(.seq z (.seq (.seq (.rg [] (some (.op ⟨[],[]⟩ (.op ⟨[],[]⟩ (.op ⟨[],[]⟩ (.split 7 [(10,.bool)] q41 .done)))))) q67) (.seq (.seq z (.loop [.val 0 (.int .u64),.row 4 (.int .u8) .full,.val 11 (.int .i64),.val 12 (.int .i64)] [.row 4 (.int .u8) .full] number_PutLittle_L0 q47)) q1)))
theorem o128:FnOk Tryz.prog 128 g128:=fnX tab_ok mixed l128 a128 trivial Tryz.func128 (⟨(obw rfl),⟨(obw rfl),⟨⟨(obw rfl),⟨fun _=>rfl,fun n j=>by kernel_rfl,fun n=>(obw rfl)⟩⟩,(obw rfl)⟩⟩⟩)
abbrev g216:Fun:=fg [.nils (.int .u8),.val (.int .i64)] [.tmp 4 ((.sl (.int .u8)),.full)] slices_Grow_byte
def l216:EL:={fs:=[],cs:=[25]}
def a216:AG g216:=(.seq z (.seq (.seq z q3) (.join [.row 0 (.int .u8) .full] (.seq z q4) q1)))
theorem o216:FnOk Tryz.prog 216 g216:=fnY tab_ok mixed l216 a216 trivial Tryz.func216
abbrev g127:Fun:=fg [.val (.sl (.sl (.int .u8)))] [.tmp 2 ((.sl (.int .u8)),.full)] slices_Concat_byte
def l127:EL:={fs:=[(216,g216)]}
def a127:AG g127:=(.seq z (.seq z (.seq (.seq z (.loop [.val 0 (.sl (.sl (.int .u8))),.val 3 (.int .i64),.val 9 (.sl (.sl (.int .u8))),.val 10 (.int .i64),.val 11 (.int .i64)] [.val 0 (.sl (.sl (.int .u8))),.val 3 (.int .i64)] slices_Concat_byte_L0 q53)) (.seq z (.seq (.seq z (.loop [.row 6 (.int .u8) .full,.val 25 (.sl (.sl (.int .u8))),.val 26 (.int .i64),.val 27 (.int .i64)] [.row 6 (.int .u8) .full] slices_Concat_byte_L1 q47)) q1)))))
theorem o127:FnOk Tryz.prog 127 g127:=fnX tab_ok mixed l127 a127 ⟨o216,trivial⟩ Tryz.func127 (⟨(obw rfl),⟨(obw rfl),⟨⟨(obw rfl),⟨fun _=>rfl,fun n j=>by kernel_rfl,fun n=>(obw rfl)⟩⟩,⟨(obw rfl),⟨⟨(obw rfl),⟨fun _=>rfl,fun n j=>by kernel_rfl,fun n=>(obw rfl)⟩⟩,(obw rfl)⟩⟩⟩⟩⟩)
abbrev g69:Fun:=fg [.val T29] [.tmp 2 ((.sl (.int .u8)),.full),.tmp 3 (.bool,.view)] setup_Bytes
def l69:EL:={fs:=[(126,g126),(128,g128),(127,g127)]}
def a69:AG g69:=(.seq z (.seq q42 (.seq z (.seq (.seq z (.loop [.row 4 (.int .u8) .full,.val 23 (.arr 3 (.int .i64)),.val 24 (.int .i64)] [.row 4 (.int .u8) .full] setup_Bytes_L0 q47)) q1))))
theorem o69:FnOk Tryz.prog 69 g69:=fnX tab_ok mixed l69 a69 ⟨o126,o128,o127,trivial⟩ Tryz.func69 (⟨(obw rfl),⟨(obw rfl),⟨(obw rfl),⟨⟨(obw rfl),⟨fun _=>rfl,fun n j=>by kernel_rfl,fun n=>(obw rfl)⟩⟩,(obw rfl)⟩⟩⟩⟩)
abbrev g311:Fun:=fg [.val (.int .i64),.val (.int .i64)] [.tmp 4 ((.int .u64),.view)] number_mask
def l311:EL:={fs:=[]}
def a311:AG g311:=(.seq z (.seq (.seq (.rg [] (some (.op ⟨[],[]⟩ (.op ⟨[],[]⟩ (.op ⟨[],[]⟩ (.split 7 [(10,.bool)] q41 (.op ⟨[],[]⟩ (.split 11 [(14,.bool)] q41 (.op ⟨[],[]⟩ (.split 15 [(20,.bool)] q65 .done)))))))))) q67) q1))
theorem o311:FnOk Tryz.prog 311 g311:=fnY tab_ok mixed l311 a311 trivial Tryz.func311
abbrev g217:Fun:=fg [.val (.int .u64),.val (.int .i64),.val (.int .i64)] [.tmp 6 ((.int .u64),.view)] number_Bits
def l217:EL:={fs:=[(311,g311)]}
def a217:AG g217:=(.seq z q69)
theorem o217:FnOk Tryz.prog 217 g217:=fnY tab_ok mixed l217 a217 ⟨o311,trivial⟩ Tryz.func217
abbrev g129:Fun:=fg [.val T29,.val (.int .i64),.val (.int .i64)] [.tmp 6 ((.int .i64),.view)] setup_kind
def l129:EL:={fs:=[(126,g126),(217,g217)]}
def a129:AG g129:=q69
theorem o129:FnOk Tryz.prog 129 g129:=fnY tab_ok mixed l129 a129 ⟨o126,o217,trivial⟩ Tryz.func129
abbrev g70:Fun:=fg [.val T29] [.tmp 2 ((.int .i64),.view)] setup_Dir
def l70:EL:={fs:=[(126,g126),(129,g129)]}
def a70:AG g70:=(.seq z (.seq (.block (.seq (.rg [] (some (.op ⟨[16],[]⟩ (.op ⟨[16],[]⟩ (.op ⟨[],[]⟩ (.op ⟨[],[]⟩ (.split 7 [(11,.bool)] (.op ⟨[16],[]⟩ (.op ⟨[144],[]⟩ q0)) q40))))))) q84)) q1))
theorem o70:FnOk Tryz.prog 70 g70:=fnY tab_ok mixed l70 a70 ⟨o126,o129,trivial⟩ Tryz.func70
abbrev g71:Fun:=fg [.val (.int .i64),.val (.int .i64),.val (.int .i64)] [.cell 6 T61] host_Ask
def l71:EL:={fs:=[]}
def a71:AG g71:=(.seq z q1)
theorem o71:FnOk Tryz.prog 71 g71:=fnY tab_ok mixed l71 a71 trivial Tryz.func71
abbrev g73:Fun:=fg [.val (.int .i64)] [.tmp 2 ((.int .i64),.view)] host_packets
def l73:EL:={fs:=[]}
def a73:AG g73:=(.seq z q1)
theorem o73:FnOk Tryz.prog 73 g73:=fnY tab_ok mixed l73 a73 trivial Tryz.func73
abbrev g72:Fun:=fg [.val (.sl T61),.val (.int .i64)] [.tmp 4 ((.sl T61),.full)] slices_Repeat_api_Event
def l72:EL:={fs:=[(130,g130)],ws:=[41],rs:=[44]}
def a72:AG g72:=(.seq z (.seq (.seq z q3) (.seq z (.seq q75 (.seq z (.seq z (.seq (.loop [.row 7 T61 .full,.val 8 (.int .i64)] [.row 7 T61 .full] slices_Repeat_api_Event_L0 q46) q1)))))))
theorem o72:FnOk Tryz.prog 72 g72:=fnX tab_ok mixed l72 a72 ⟨o130,trivial⟩ Tryz.func72 (⟨(obw rfl),⟨(obw rfl),⟨(obw rfl),⟨(obw rfl),⟨(obw rfl),⟨(obw rfl),⟨⟨fun _=>rfl,fun n j=>by kernel_rfl,fun n=>(obw rfl)⟩,(obw rfl)⟩⟩⟩⟩⟩⟩⟩)
abbrev g74:Fun:=fg [.val (.int .i64),.val (.int .i64),.val (.int .i64),.val (.sl (.int .u8))] [.cell 8 T61] host_send
def l74:EL:={fs:=[]}
def a74:AG g74:=(.seq z q1)
theorem o74:FnOk Tryz.prog 74 g74:=fnY tab_ok mixed l74 a74 trivial Tryz.func74
abbrev g27:Fun:=fg [.val (.int .i64),.val T29] [.tmp 4 ((.sl T61),.full)] host_Transfer
def l27:EL:={fs:=[(69,g69),(70,g70),(71,g71),(73,g73),(72,g72),(74,g74)]}
def a27:AG g27:=(.seq z (.seq z (.seq q42 (.seq z (.join [.row 7 T61 .full] (.seq z (.block (.seq z (.cond z (.seq z (.cond (.seq (.rg [528] (some (.op ⟨[],[]⟩ (.op ⟨[],[]⟩ (.op ⟨[512],[]⟩ (.op ⟨[528],[528]⟩ (.op ⟨[48],[]⟩ (.op ⟨[48],[]⟩ (.op ⟨[576],[]⟩ (.op ⟨[528,592],[528,592]⟩ (.op ⟨[288,592,608],[288,608]⟩ q40))))))))))) z) .leaf)))))) q1)))))
theorem o27:FnOk Tryz.prog 27 g27:=fnY tab_ok mixed l27 a27 ⟨o69,o70,o71,o73,o72,o74,trivial⟩ Tryz.func27
abbrev g61:Fun:=fg [.val (.int .i64),.val (.sl T29)] [.tmp 4 ((.sl T61),.full)] host_all
def l61:EL:={fs:=[(27,g27)]}
def a61:AG g61:=(.seq z (.seq (.seq z (.loop [.val 0 (.int .i64),.row 4 T61 .full,.val 7 (.sl T29),.val 8 (.int .i64),.val 9 (.int .i64)] [.row 4 T61 .full] host_all_L0 q47)) q1))
theorem o61:FnOk Tryz.prog 61 g61:=fnX tab_ok mixed l61 a61 ⟨o27,trivial⟩ Tryz.func61 (⟨(obw rfl),⟨⟨(obw rfl),⟨fun _=>rfl,fun n j=>by kernel_rfl,fun n=>(obw rfl)⟩⟩,(obw rfl)⟩⟩)
abbrev g121:Fun:=fg [.nils T61,.val (.int .i64)] [.tmp 4 ((.sl T61),.full)] slices_Grow_api_Event
def l121:EL:={fs:=[],cs:=[25]}
def a121:AG g121:=(.seq z (.seq (.seq z q3) (.join [.row 0 T61 .full] (.seq z q4) q1)))
theorem o121:FnOk Tryz.prog 121 g121:=fnY tab_ok mixed l121 a121 trivial Tryz.func121
abbrev g60:Fun:=fg [.val (.sl (.sl T61))] [.tmp 2 ((.sl T61),.full)] slices_Concat_api_Event
def l60:EL:={fs:=[(121,g121)]}
def a60:AG g60:=(.seq z (.seq z (.seq (.seq z (.loop [.val 0 (.sl (.sl T61)),.val 3 (.int .i64),.val 9 (.sl (.sl T61)),.val 10 (.int .i64),.val 11 (.int .i64)] [.val 0 (.sl (.sl T61)),.val 3 (.int .i64)] slices_Concat_api_Event_L0 q53)) (.seq z (.seq (.seq z (.loop [.row 6 T61 .full,.val 25 (.sl (.sl T61)),.val 26 (.int .i64),.val 27 (.int .i64)] [.row 6 T61 .full] slices_Concat_api_Event_L1 q47)) q1)))))
theorem o60:FnOk Tryz.prog 60 g60:=fnX tab_ok mixed l60 a60 ⟨o121,trivial⟩ Tryz.func60 (⟨(obw rfl),⟨(obw rfl),⟨⟨(obw rfl),⟨fun _=>rfl,fun n j=>by kernel_rfl,fun n=>(obw rfl)⟩⟩,⟨(obw rfl),⟨⟨(obw rfl),⟨fun _=>rfl,fun n j=>by kernel_rfl,fun n=>(obw rfl)⟩⟩,(obw rfl)⟩⟩⟩⟩⟩)
abbrev g22:Fun:=fg [.val (.int .i64),.val (.int .i64)] [.tmp 4 ((.sl T61),.full)] host_Enumerate
def l22:EL:={fs:=[(61,g61),(60,g60)]}
def a22:AG g22:=(.seq z q69)
theorem o22:FnOk Tryz.prog 22 g22:=fnY tab_ok mixed l22 a22 ⟨o61,o60,trivial⟩ Tryz.func22
abbrev g32:Fun:=fg [.val T51] [.tmp 2 (.bool,.view)] gadget_Right
def l32:EL:={fs:=[(33,g33)]}
def a32:AG g32:=(.seq z (.seq (.rg [] (some (.op ⟨[16],[]⟩ (.op ⟨[16],[]⟩ (.op ⟨[80],[]⟩ (.op ⟨[],[]⟩ (.split 6 [(14,.bool)] (.op ⟨[16],[]⟩ (.op ⟨[16],[]⟩ (.op ⟨[],[]⟩ (.op ⟨[16],[]⟩ q43)))) (.op ⟨[],[]⟩ (.split 15 [(20,.bool)] q68 q40))))))))) .leaf))
theorem o32:FnOk Tryz.prog 32 g32:=fnY tab_ok mixed l32 a32 ⟨o33,trivial⟩ Tryz.func32
abbrev g81:Fun:=fg [.val (.int .i64),.val (.int .i64)] [.tmp 4 (.bool,.view)] script_within
def l81:EL:={fs:=[]}
def a81:AG g81:=q71
theorem o81:FnOk Tryz.prog 81 g81:=fnY tab_ok mixed l81 a81 trivial Tryz.func81
abbrev g37:Fun:=fg [.val T61] [.tmp 2 (.bool,.view)] script_Right
def l37:EL:={fs:=[(81,g81)]}
def a37:AG g37:=(.seq z (.seq (.rg [] (some (.op ⟨[16],[]⟩ (.op ⟨[16],[]⟩ (.op ⟨[],[]⟩ (.op ⟨[],[]⟩ (.split 6 [(10,.bool)] q43 (.op ⟨[],[]⟩ (.split 11 [(15,.bool)] (.op ⟨[16],[]⟩ (.op ⟨[16],[]⟩ q30)) (.op ⟨[],[]⟩ (.split 16 [(20,.bool)] (.op ⟨[16],[]⟩ (.op ⟨[16],[]⟩ (.op ⟨[304],[]⟩ q40))) (.op ⟨[],[]⟩ (.split 21 [(25,.bool)] (.op ⟨[16],[]⟩ (.op ⟨[16],[]⟩ (.op ⟨[384],[]⟩ q40))) (.op ⟨[],[]⟩ (.split 26 [(30,.bool)] (.op ⟨[16],[]⟩ (.op ⟨[16],[]⟩ (.op ⟨[464],[]⟩ q40))) (.op ⟨[],[]⟩ (.split 31 [(35,.bool)] (.op ⟨[16],[]⟩ (.op ⟨[16],[]⟩ (.op ⟨[544],[]⟩ q40))) (.op ⟨[],[]⟩ (.split 36 [(41,.bool)] q68 q40))))))))))))))))))) .leaf))
theorem o37:FnOk Tryz.prog 37 g37:=fnY tab_ok mixed l37 a37 ⟨o81,trivial⟩ Tryz.func37
abbrev g38:Fun:=fg [.val (.sl T114)] [.tmp 2 ((.sl T114),.full)] slices_Clone_api_EndM
def l38:EL:={fs:=[]}
def a38:AG g38:=q69
theorem o38:FnOk Tryz.prog 38 g38:=by rw[show g38=fg [.val (.sl T114)] [.tmp 2 ((.sl T114),.full)] slices_Clone_api_End from by show fg [.val (.sl T114)] [.tmp 2 ((.sl T114),.full)] slices_Clone_api_EndM=_;rw[slices_Clone_api_EndM_eq]];exact fnY tab_ok mixed l38 a38 trivial Tryz.func38
abbrev g41:Fun:=fg [] [.cell 0 T41] sense_BusReset
def l41:EL:={fs:=[(86,g86)]}
def a41:AG g41:=(.seq z q1)
theorem o41:FnOk Tryz.prog 41 g41:=fnY tab_ok mixed l41 a41 ⟨o86,trivial⟩ Tryz.func41
abbrev g136:Fun:=fg [.val (.sl T102),.val (.int .i64)] [.tmp 4 (.bool,.view)] unit_there
def l136:EL:={fs:=[]}
def a136:AG g136:=(.seq z (.seq (.rg [] (some (.op ⟨[],[]⟩ (.op ⟨[],[]⟩ (.op ⟨[],[]⟩ (.split 7 [(12,.bool)] q65 q40)))))) .leaf))
theorem o136:FnOk Tryz.prog 136 g136:=fnY tab_ok mixed l136 a136 trivial Tryz.func136
abbrev g137:Fun:=fg [.val (.sl T102)] [.tmp 2 ((.sl T102),.full)] slices_Clone_api_UnitM
def l137:EL:={fs:=[]}
def a137:AG g137:=q69
theorem o137:FnOk Tryz.prog 137 g137:=by rw[show g137=fg [.val (.sl T102)] [.tmp 2 ((.sl T102),.full)] slices_Clone_api_Unit from by show fg [.val (.sl T102)] [.tmp 2 ((.sl T102),.full)] slices_Clone_api_UnitM=_;rw[slices_Clone_api_UnitM_eq]];exact fnY tab_ok mixed l137 a137 trivial Tryz.func137
abbrev g220:Fun:=fg [.val (.sl T41),.val T41] [.tmp 4 ((.int .i64),.view)] slices_Index_api_Sense
def l220:EL:={fs:=[],es:=[42]}
def a220:AG g220:=(.seq z (.seq (.seq z (.loop [.val 0 (.sl T41),.box 3 T41,.val 7 (.int .i64),.val 8 (.int .i64)] [] slices_Index_api_Sense_L0 (.seq z (.seq q3 (.seq (.block (.seq z (.seq (.rg [] (some (.op ⟨[48],[]⟩ q65))) q67))) z))))) q1))
theorem o220:FnOk Tryz.prog 220 g220:=fnX tab_ok mixed l220 a220 trivial Tryz.func220 (⟨(obw rfl),⟨⟨(obw rfl),⟨fun _=>rfl,fun n j=>by kernel_rfl,fun n=>(obw rfl)⟩⟩,(obw rfl)⟩⟩)
abbrev g134:Fun:=fg [.val (.sl T41),.val T41] [.tmp 4 (.bool,.view)] slices_Contains_api_Sense
def l134:EL:={fs:=[(220,g220)]}
def a134:AG g134:=(.seq z q1)
theorem o134:FnOk Tryz.prog 134 g134:=fnY tab_ok mixed l134 a134 ⟨o220,trivial⟩ Tryz.func134
abbrev g135:Fun:=fg [.val (.sl T41)] [.tmp 2 ((.sl T41),.tail)] slices_Clip_api_Sense
def l135:EL:={fs:=[]}
def a135:AG g135:=(.seq z q1)
theorem o135:FnOk Tryz.prog 135 g135:=fnY tab_ok mixed l135 a135 trivial Tryz.func135
abbrev g84:Fun:=fg [.val (.sl T41),.val T41] [.tmp 4 ((.sl T41),.view)] sense_Add
def l84:EL:={fs:=[(134,g134),(79,g79),(135,g135)],es:=[42]}
def a84:AG g84:=(.seq z (.seq (.block (.seq z (.cond q1 (.seq (.rg [] (some (.op ⟨[48],[]⟩ (.op ⟨[192],[]⟩ q0)))) q84)))) (.seq (.rg [] (some (.op ⟨[],[]⟩ (.op ⟨[352],[352]⟩ (.op ⟨[48],[]⟩ (.op ⟨[384],[384]⟩ (.op ⟨[352,384,400],[352,400]⟩ q40))))))) .leaf)))
theorem o84:FnOk Tryz.prog 84 g84:=fnY tab_ok mixed l84 a84 ⟨o134,o79,o135,trivial⟩ Tryz.func84
abbrev g83c:Fun:=fg [.box T102,.pv (.rp T41)] [] unit_Attend_1
def l83c:EL:={fs:=[(84,g84)]}
def a83c:AG g83c:=(.rg [] (some (.op ⟨[],[]⟩ (.op ⟨[],[]⟩ (.op ⟨[0],[]⟩ (.op ⟨[0],[]⟩ (.op ⟨[0],[]⟩ (.op ⟨[],[]⟩ (.op ⟨[144],[]⟩ (.op ⟨[0],[]⟩ q51))))))))))
theorem o83c:FnOk Tryz.prog 83 g83c:=fnY tab_ok mixed l83c a83c ⟨o84,trivial⟩ Tryz.func83
abbrev g40:Fun:=fg [.val (.sl T102),.val (.int .i64),.val T41] [.tmp 6 ((.sl T102),.view)] unit_Attend
def l40:EL:={fs:=[(136,g136),(137,g137),(83,g83c)],bs:=[(85,Tryz.f85)],os:=[5]}
def a40:AG g40:=(.seq z (.seq z (.seq (.seq z (.cond (.seq (.reg (.oin 3 85 0 none (.seq z (.seq q42 q49)) (.ofin none))) .leaf) .leaf)) (.seq (.seq z (.loop q34 [.val 0 (.sl T102)] unit_Attend_L0 (.seq z (.seq q3 (.join q34 (.block (.seq z (.reg (.oin 3 85 20 none (.seq z (.seq q42 q49)) (.ofin none))))) z))))) q1))))
theorem o40:FnOk Tryz.prog 40 g40:=fnX tab_ok mixed l40 a40 ⟨o136,o137,o83c,trivial⟩ Tryz.func40 (⟨(obw rfl),⟨(obw rfl),⟨(obw rfl),⟨⟨(obw rfl),⟨fun _=>rfl,fun n j=>by kernel_rfl,fun n=>(obw rfl)⟩⟩,(obw rfl)⟩⟩⟩⟩) (hB:=⟨Tryz.func85,trivial⟩)
abbrev g313:Fun:=fg [.val T97,.val (.int .i64)] [.tmp 4 (.bool,.view)] cache_there
def l313:EL:={fs:=[]}
def a313:AG g313:=(.seq z (.seq (.rg [] (some (.op ⟨[],[]⟩ (.op ⟨[],[]⟩ (.op ⟨[],[]⟩ (.split 7 [(13,.bool)] (.op ⟨[],[]⟩ (.op ⟨[32],[]⟩ (.op ⟨[32],[]⟩ q41))) q40)))))) .leaf))
theorem o313:FnOk Tryz.prog 313 g313:=fnY tab_ok mixed l313 a313 trivial Tryz.func313
abbrev g312c:Fun:=fg [.val T195,.pv (.rp T97)] [.tmp 3 (.bool,.view)] cache_Right_1
def l312c:EL:={fs:=[(313,g313)]}
def a312c:AG g312c:=(.seq z q1)
theorem o312c:FnOk Tryz.prog 312 g312c:=fnY tab_ok mixed l312c a312c ⟨o313,trivial⟩ Tryz.func312
abbrev g391s312:Fun:=fg [.val (.sl T195),.pv (.clo 312 T97)] [.tmp 4 ((.int .i64),.view)] slices_IndexFunc_api_Dirty_c312
def l391s312:EL:={fs:=[(312,g312c)]}
def a391s312:AG g391s312:=(.seq z (.seq (.seq z (.loop [.val 0 (.sl T195),.pv 1 (.clo 312 T97),.val 7 (.int .i64),.val 8 (.int .i64)] [] slices_IndexFunc_api_Dirty_c312_L0 q72)) q1))
theorem o391s312:FnOk Tryz.prog 391 g391s312:=fnX tab_ok mixed l391s312 a391s312 ⟨o312c,trivial⟩ Tryz.func391 (⟨(obw rfl),⟨⟨(obw rfl),⟨fun _=>rfl,fun n j=>by kernel_rfl,fun n=>(obw rfl)⟩⟩,(obw rfl)⟩⟩)
abbrev g314s312:Fun:=fg [.val (.sl T195),.pv (.clo 312 T97)] [.tmp 4 (.bool,.view)] slices_ContainsFunc_api_Dirty_c312
def l314s312:EL:={fs:=[(391,g391s312)],ls:=[7]}
def a314s312:AG g314s312:=(.seq z q1)
theorem o314s312:FnOk Tryz.prog 314 g314s312:=fnY tab_ok mixed l314s312 a314s312 ⟨o391s312,trivial⟩ Tryz.func314
abbrev g221:Fun:=fg [.val T97] [.tmp 2 (.bool,.view)] cache_Right
def l221:EL:={fs:=[(314,g314s312)],os:=[1]}
def a221:AG g221:=(.seq z (.seq z (.seq (.rg [] (some (.op ⟨[],[]⟩ (.op ⟨[],[]⟩ (.op ⟨[],[]⟩ (.op ⟨[],[]⟩ (.op ⟨[],[]⟩ (.split 9 [(14,.bool)] q65 (.op ⟨[],[]⟩ (.split 15 [(21,.bool)] (.op ⟨[],[]⟩ (.op ⟨[],[]⟩ (.op ⟨[],[]⟩ (.op ⟨[304],[]⟩ q0)))) q40)))))))))) .leaf)))
theorem o221:FnOk Tryz.prog 221 g221:=fnY tab_ok mixed l221 a221 ⟨o314s312,trivial⟩ Tryz.func221
abbrev g316:Fun:=fg [.val (.int .i64),.val (.int .u64),.val (.int .i64)] [.tmp 6 (.bool,.view)] block_Within
def l316:EL:={fs:=[]}
def a316:AG g316:=(.seq z (.seq (.rg [] (some (.op ⟨[],[]⟩ (.op ⟨[],[]⟩ (.op ⟨[],[]⟩ (.split 9 [(13,.bool)] q83 (.op ⟨[],[]⟩ (.split 14 [(21,.bool)] q82 q40)))))))) .leaf))
theorem o316:FnOk Tryz.prog 316 g316:=fnY tab_ok mixed l316 a316 trivial Tryz.func316
abbrev g315:Fun:=fg [.val (.sl (.arr 64 (.int .u8)))] [.tmp 2 ((.sl (.arr 64 (.int .u8))),.full)] slices_Clone_api_BlockM
def l315:EL:={fs:=[]}
def a315:AG g315:=q69
theorem o315:FnOk Tryz.prog 315 g315:=by rw[show g315=fg [.val (.sl (.arr 64 (.int .u8)))] [.tmp 2 ((.sl (.arr 64 (.int .u8))),.full)] slices_Clone_api_Block from by show fg [.val (.sl (.arr 64 (.int .u8)))] [.tmp 2 ((.sl (.arr 64 (.int .u8))),.full)] slices_Clone_api_BlockM=_;rw[slices_Clone_api_BlockM_eq]];exact fnY tab_ok mixed l315 a315 trivial Tryz.func315
abbrev g225:Fun:=fg [.val T97,.val (.int .i64),.val (.int .i64)] [.cell 6 T97,.tmp 7 ((.int .i64),.view)] cache_Flush
def l225:EL:={fs:=[(221,g221),(316,g316),(315,g315)],bs:=[(223,Tryz.f223),(317,Tryz.f317),(318,Tryz.f318),(392,Tryz.f392),(393,Tryz.f393)],os:=[4,42],ps:=[245],vb:=[43,53,54],vg:=[60],cf:=[37]}
def a225:AG g225:=(.seq z (.join [.box 3 T97,.rpt 4 (.int .i64),.box 5 (.int .i64),.box 6 T97] (.block (.seq z (.cond q1 (.seq (.rg [] (some (.op ⟨[80],[]⟩ (.op ⟨[],[]⟩ (.op ⟨[],[]⟩ (.split 16 [(19,.bool)] q41 (.op ⟨[],[]⟩ (.split 20 [(28,.bool)] (.op ⟨[48],[]⟩ (.op ⟨[48],[]⟩ (.op ⟨[],[]⟩ (.op ⟨[],[]⟩ (.op ⟨[],[]⟩ (.op ⟨[416],[]⟩ q0)))))) q40)))))))) (.cond q1 q4))))) (.seq (.reg (.oin 2 317 0 none (.seq z (.seq (.reg (.oin 2 223 0 none (.seq z (.seq z (.seq (.seq z (.loop q6 [.box 6 T97,.vbx 43 T97 [([.fst],(.arr 64 (.int .u8))),([.snd,.fst],T195)],.vbx 53 T97 [([.fst],(.arr 64 (.int .u8))),([.snd,.fst],T195)],.vbx 54 T97 [([.fst],(.arr 64 (.int .u8))),([.snd,.fst],T195)]] cache_Flush_L0 (.seq z (.seq q3 (.join q6 (.block (.seq z (.block (.seq (.reg (.oin 3 392 0 none (.seq z (.seq (.reg (.oin 3 318 0 none (.seq z (.seq (.rg [] (some (.op ⟨[],[]⟩ (.op ⟨[],[]⟩ (.op ⟨[],[]⟩ (.op ⟨[],[]⟩ (.split 112 [(118,.bool)] (.op ⟨[],[]⟩ q65) q40))))))) .leaf)) (.ofin none))) .leaf)) (.ofin none))) (.cond z (.seq (.reg (.oin 3 393 25 none (.seq z q1) (.ofin none))) q48)))))) z))))) q1))) (.ofin none))) .leaf)) (.ofin none))) .leaf)))
theorem o225:FnOk Tryz.prog 225 g225:=fnX tab_ok mixed l225 a225 ⟨o221,o316,o315,trivial⟩ Tryz.func225 (⟨(obw rfl),⟨fun _=>(obw rfl),⟨⟨fun _=>⟨(obw rfl),⟨⟨fun _=>⟨(obw rfl),⟨(obw rfl),⟨⟨(obw rfl),⟨fun _=>rfl,fun n j=>by kernel_rfl,fun n=>(obw rfl)⟩⟩,(obw rfl)⟩⟩⟩,trivial⟩,(obw rfl)⟩⟩,trivial⟩,(obw rfl)⟩⟩⟩) (hB:=⟨Tryz.func223,Tryz.func317,Tryz.func318,Tryz.func392,Tryz.func393,trivial⟩)
abbrev g139:Fun:=fg [.val T99,.val T97,.val (.int .i64)] [.cell 6 T99] slot_with
def l139:EL:={fs:=[]}
def a139:AG g139:=(.seq z (.join [.box 3 T99,.box 6 T99] q4 q1))
theorem o139:FnOk Tryz.prog 139 g139:=fnY tab_ok mixed l139 a139 trivial Tryz.func139
abbrev g141:Fun:=fg [.val T99] [.cell 2 T99] slot_Sync
def l141:EL:={fs:=[(225,g225),(139,g139)]}
def a141:AG g141:=q49
theorem o141:FnOk Tryz.prog 141 g141:=fnY tab_ok mixed l141 a141 ⟨o225,o139,trivial⟩ Tryz.func141
abbrev g140:Fun:=fg [.val T99] [.cell 2 T99] slot_out
def l140:EL:={fs:=[(141,g141)]}
def a140:AG g140:=(.seq z q49)
theorem o140:FnOk Tryz.prog 140 g140:=fnY tab_ok mixed l140 a140 ⟨o141,trivial⟩ Tryz.func140
abbrev g93:Fun:=fg [.val T99] [.cell 2 T99,.tmp 3 (.bool,.view)] slot_Button
def l93:EL:={fs:=[(140,g140)]}
def a93:AG g93:=(.seq z (.seq (.seq (.rg [] (some (.op ⟨[16],[]⟩ (.op ⟨[16],[]⟩ (.op ⟨[],[]⟩ (.op ⟨[],[]⟩ (.split 7 [(10,.bool)] (.op ⟨[16],[]⟩ (.op ⟨[16],[]⟩ q40)) .done))))))) q67) q1))
theorem o93:FnOk Tryz.prog 93 g93:=fnY tab_ok mixed l93 a93 ⟨o140,trivial⟩ Tryz.func93
abbrev g44:Fun:=fg [.val (.sl T102),.val (.int .i64)] [.tmp 4 ((.sl T102),.view)] unit_Eject
def l44:EL:={fs:=[(136,g136),(137,g137),(93,g93)],bs:=[(85,Tryz.f85),(92,Tryz.f92)]}
def a44:AG g44:=(.seq z (.seq (.reg (.oin 2 85 0 none (.seq z (.seq q42 (.seq z (.seq (.reg (.oin 4 92 0 none z (.ofin none))) q1)))) (.ofin none))) .leaf))
theorem o44:FnOk Tryz.prog 44 g44:=fnY tab_ok mixed l44 a44 ⟨o136,o137,o93,trivial⟩ Tryz.func44 (hB:=⟨Tryz.func85,Tryz.func92,trivial⟩)
abbrev g95:Fun:=fg [.val T99,.val .bool] [.cell 4 T99] slot_Switch
def l95:EL:={fs:=[(141,g141)]}
def a95:AG g95:=(.seq z (.join [.val 1 .bool,.box 2 T99,.box 4 T99] (.seq (.rg [] (some (.op ⟨[],[]⟩ (.op ⟨[],[]⟩ (.split 6 [(10,.bool)] q45 .done))))) q48) (.seq z q1)))
theorem o95:FnOk Tryz.prog 95 g95:=fnY tab_ok mixed l95 a95 ⟨o141,trivial⟩ Tryz.func95
abbrev g45:Fun:=fg [.val (.sl T102),.val (.int .i64),.val .bool] [.tmp 6 ((.sl T102),.view)] unit_Switch
def l45:EL:={fs:=[(136,g136),(137,g137),(95,g95)],bs:=[(85,Tryz.f85),(94,Tryz.f94)]}
def a45:AG g45:=(.seq z (.seq (.reg (.oin 3 85 0 none (.seq z (.seq q42 (.seq z (.seq (.reg (.oin 4 94 0 none (.rg [] (some (.op ⟨[],[]⟩ (.op ⟨[],[]⟩ (.op ⟨[384],[]⟩ (.op ⟨[384],[]⟩ (.op ⟨[384],[]⟩ (.op ⟨[80],[]⟩ (.op ⟨[640],[]⟩ (.op ⟨[384],[]⟩ (.op ⟨[384],[]⟩ (.op ⟨[384],[384]⟩ .done)))))))))))) (.ofin none))) q1)))) (.ofin none))) .leaf))
theorem o45:FnOk Tryz.prog 45 g45:=fnY tab_ok mixed l45 a45 ⟨o136,o137,o95,trivial⟩ Tryz.func45 (hB:=⟨Tryz.func85,Tryz.func94,trivial⟩)
abbrev g319:Fun:=fg [.val (.sl (.int .u8))] [.tmp 2 ((.int .i64),.view)] setup_two
def l319:EL:={fs:=[]}
def a319:AG g319:=(.seq z (.seq (.rg [] (some q85)) .leaf))
theorem o319:FnOk Tryz.prog 319 g319:=fnY tab_ok mixed l319 a319 trivial Tryz.func319
abbrev g226:Fun:=fg [.val (.sl (.int .u8))] [.cell 2 T29,.tmp 3 (.bool,.view)] setup_Parse
def l226:EL:={fs:=[(319,g319)]}
def a226:AG g226:=(.seq z (.seq q42 (.seq (.rg [] (some (.op ⟨[],[]⟩ (.op ⟨[],[]⟩ (.op ⟨[],[]⟩ (.op ⟨[],[]⟩ (.op ⟨[],[]⟩ (.op ⟨[],[]⟩ (.op ⟨[],[]⟩ (.op ⟨[],[]⟩ (.op ⟨[],[]⟩ (.op ⟨[],[]⟩ (.op ⟨[288],[]⟩ (.op ⟨[],[]⟩ (.op ⟨[],[]⟩ (.op ⟨[336],[]⟩ (.op ⟨[],[]⟩ (.op ⟨[],[]⟩ (.op ⟨[384],[]⟩ q18))))))))))))))))))) .leaf)))
theorem o226:FnOk Tryz.prog 226 g226:=fnY tab_ok mixed l226 a226 ⟨o319,trivial⟩ Tryz.func226
abbrev g228:Fun:=fg [.pv (.rp T111)] [.tmp 2 ((.int .i64),.view)] gadget_work_halted
def l228:EL:={fs:=[]}
def a228:AG g228:=(.seq z (.seq (.seq z (.loop q35 [.val 2 (.int .i64)] gadget_work_halted_L0 (.seq z (.seq q3 (.join q35 (.block (.seq z q4)) z))))) q1))
theorem o228:FnOk Tryz.prog 228 g228:=fnX tab_ok mixed l228 a228 trivial Tryz.func228 (⟨(obw rfl),⟨⟨(obw rfl),⟨fun _=>rfl,fun n j=>by kernel_rfl,fun n=>(obw rfl)⟩⟩,(obw rfl)⟩⟩)
abbrev g322:Fun:=fg [.val T29] [.tmp 2 ((.int .i64),.view)] device_asks
def l322:EL:={fs:=[],es:=[398],ms:=[(399,(T227,(.int .i64)))]}
def a322:AG g322:=(.seq z (.seq (.rg [] (some (.op ⟨[64],[64]⟩ (.op ⟨[],[]⟩ (.op ⟨[64],[64]⟩ (.op ⟨[],[]⟩ (.op ⟨[64],[64]⟩ (.op ⟨[],[]⟩ (.op ⟨[64],[64]⟩ (.op ⟨[],[]⟩ (.op ⟨[64],[64]⟩ (.op ⟨[],[]⟩ (.op ⟨[64],[64]⟩ (.op ⟨[],[]⟩ (.op ⟨[64],[64]⟩ (.op ⟨[],[]⟩ (.op ⟨[64],[64]⟩ (.op ⟨[],[]⟩ (.op ⟨[64],[64]⟩ (.op ⟨[],[]⟩ (.op ⟨[64],[64]⟩ (.op ⟨[],[]⟩ (.op ⟨[64],[64]⟩ (.op ⟨[],[]⟩ (.op ⟨[64],[64]⟩ (.op ⟨[],[]⟩ (.op ⟨[64],[64]⟩ (.op ⟨[],[]⟩ (.op ⟨[64],[64]⟩ q0))))))))))))))))))))))))))))) q1))
theorem o322:FnOk Tryz.prog 322 g322:=fnY tab_ok mixed l322 a322 trivial Tryz.func322
abbrev g235:Fun:=fg [.val (.int .i64)] [.tmp 2 (.bool,.view)] device_own
def l235:EL:={fs:=[]}
def a235:AG g235:=(.seq z q1)
theorem o235:FnOk Tryz.prog 235 g235:=fnY tab_ok mixed l235 a235 trivial Tryz.func235
abbrev g236:Fun:=fg [.val T27] [.tmp 2 (.bool,.view)] device_configured
def l236:EL:={fs:=[]}
def a236:AG g236:=(.seq z q1)
theorem o236:FnOk Tryz.prog 236 g236:=fnY tab_ok mixed l236 a236 trivial Tryz.func236
abbrev g328:Fun:=fg [] [.cell 0 (.arr 2 (.sl (.int .u8)))] desc_settings
def l328:EL:={fs:=[]}
def a328:AG g328:=(.seq z q1)
theorem o328:FnOk Tryz.prog 328 g328:=fnY tab_ok mixed l328 a328 trivial Tryz.func328
abbrev g398:Fun:=fg [.val (.sl (.int .u8)),.val (.int .u8)] [.tmp 4 ((.int .i64),.view)] slices_Index_byte
def l398:EL:={fs:=[]}
def a398:AG g398:=(.seq z (.seq (.seq z (.loop [.val 0 (.sl (.int .u8)),.val 1 (.int .u8),.val 7 (.int .i64),.val 8 (.int .i64)] [] slices_Index_byte_L0 q72)) q1))
theorem o398:FnOk Tryz.prog 398 g398:=fnX tab_ok mixed l398 a398 trivial Tryz.func398 (⟨(obw rfl),⟨⟨(obw rfl),⟨fun _=>rfl,fun n j=>by kernel_rfl,fun n=>(obw rfl)⟩⟩,(obw rfl)⟩⟩)
abbrev g327:Fun:=fg [.val (.sl (.int .u8)),.val (.int .u8)] [.tmp 4 (.bool,.view)] slices_Contains_byte
def l327:EL:={fs:=[(398,g398)]}
def a327:AG g327:=(.seq z q1)
theorem o327:FnOk Tryz.prog 327 g327:=fnY tab_ok mixed l327 a327 ⟨o398,trivial⟩ Tryz.func327
abbrev g237:Fun:=fg [.val (.int .i64),.val (.int .i64)] [.tmp 4 (.bool,.view)] desc_Uses
def l237:EL:={fs:=[(328,g328),(327,g327)]}
def a237:AG g237:=(.seq z (.seq (.seq (.rg [] (some (.op ⟨[],[]⟩ (.op ⟨[],[]⟩ (.op ⟨[],[]⟩ (.split 7 [(10,.bool)] q41 q76)))))) q67) q1))
theorem o237:FnOk Tryz.prog 237 g237:=fnY tab_ok mixed l237 a237 ⟨o328,o327,trivial⟩ Tryz.func237
abbrev g146:Fun:=fg [.val T27,.val (.int .i64)] [.tmp 4 (.bool,.view)] device_Has
def l146:EL:={fs:=[(235,g235),(236,g236),(237,g237)]}
def a146:AG g146:=(.seq z (.seq (.rg [] (some (.op ⟨[],[]⟩ (.op ⟨[96],[]⟩ (.op ⟨[],[]⟩ (.split 7 [(16,.bool)] (.op ⟨[32],[]⟩ (.op ⟨[144],[]⟩ (.op ⟨[],[]⟩ (.split 10 [(15,.bool)] (.op ⟨[32],[]⟩ (.op ⟨[32],[]⟩ (.op ⟨[],[]⟩ q30))) q40)))) q40)))))) .leaf))
theorem o146:FnOk Tryz.prog 146 g146:=fnY tab_ok mixed l146 a146 ⟨o235,o236,o237,trivial⟩ Tryz.func146
abbrev g394:Fun:=fg [.val T29,.val (.int .i64),.val (.int .i64),.val (.int .i64)] [.tmp 8 (.bool,.view)] device_numbers
def l394:EL:={fs:=[]}
def a394:AG g394:=(.seq z (.seq (.rg [] (some (.op ⟨[64],[]⟩ (.op ⟨[64],[]⟩ (.op ⟨[],[]⟩ (.op ⟨[],[]⟩ (.op ⟨[],[]⟩ (.split 13 [(18,.bool)] q70 (.op ⟨[],[]⟩ (.split 19 [(24,.bool)] q70 q40)))))))))) .leaf))
theorem o394:FnOk Tryz.prog 394 g394:=fnY tab_ok mixed l394 a394 trivial Tryz.func394
abbrev g396:Fun:=fg [.val T27] [.tmp 2 (.bool,.view)] device_bulk
def l396:EL:={fs:=[(236,g236)]}
def a396:AG g396:=(.seq z (.seq (.rg [] (some (.op ⟨[16],[]⟩ (.op ⟨[64],[]⟩ (.op ⟨[],[]⟩ (.split 5 [(9,.bool)] q43 q40)))))) .leaf))
theorem o396:FnOk Tryz.prog 396 g396:=fnY tab_ok mixed l396 a396 ⟨o236,trivial⟩ Tryz.func396
abbrev g320:Fun:=fg [.val T27,.val T29] [.tmp 4 (.bool,.view)] device_may
def l320:EL:={fs:=[(322,g322),(146,g146),(236,g236),(394,g394),(396,g396)]}
def a320:AG g320:=(.seq z (.seq (.seq z (.block (.seq z (.cond (.seq (.block (.seq (.rg [] (some (.op ⟨[48],[]⟩ (.op ⟨[48],[]⟩ (.op ⟨[],[]⟩ (.op ⟨[],[]⟩ (.split 16 [(20,.bool)] q44 q40))))))) q84)) (.seq (.rg [] (some (.op ⟨[48],[]⟩ (.op ⟨[48],[]⟩ (.op ⟨[],[]⟩ (.op ⟨[],[]⟩ (.split 32 [(40,.bool)] (.op ⟨[48],[]⟩ (.op ⟨[48],[]⟩ (.op ⟨[],[]⟩ (.op ⟨[],[]⟩ (.split 36 [(39,.bool)] (.op ⟨[32],[]⟩ (.op ⟨[608],[]⟩ q40)) q40))))) q40))))))) .leaf)) (.join [.box 2 T27,.box 3 T29,.val 9 (.int .i64),.val 41 .bool] q17 (.cond (.seq (.rg [] (some (.op ⟨[48],[]⟩ (.op ⟨[48],[]⟩ (.op ⟨[48],[]⟩ (.op ⟨[752],[]⟩ (.op ⟨[],[]⟩ (.split 48 [(53,.bool)] (.op ⟨[32],[]⟩ (.op ⟨[48],[]⟩ (.op ⟨[48],[]⟩ (.op ⟨[832],[]⟩ q40)))) q40)))))))) .leaf) (.seq z (.cond (.seq (.rg [] (some (.op ⟨[48],[]⟩ (.op ⟨[48],[]⟩ (.op ⟨[],[]⟩ (.op ⟨[],[]⟩ (.split 59 [(63,.bool)] q44 (.op ⟨[],[]⟩ (.split 64 [(69,.bool)] (.op ⟨[48],[]⟩ (.op ⟨[48],[]⟩ (.op ⟨[48],[]⟩ (.op ⟨[1088],[]⟩ q40)))) (.op ⟨[],[]⟩ (.split 70 [(74,.bool)] (.op ⟨[32],[]⟩ (.op ⟨[1152],[]⟩ q0)) q40))))))))))) .leaf) (.seq z (.cond (.seq z (.join [.box 3 T29,.val 5 (.int .i64)] (.seq (.rg [] (some (.op ⟨[48],[]⟩ (.op ⟨[48],[]⟩ (.op ⟨[],[]⟩ (.op ⟨[],[]⟩ (.op ⟨[],[]⟩ (.split 81 [(85,.bool)] q44 .done)))))))) q48) (.seq .leaf q20))) (.seq z (.cond (.seq (.rg [] (some (.op ⟨[48],[]⟩ (.op ⟨[1696],[]⟩ (.op ⟨[],[]⟩ (.split 107 [(111,.bool)] q45 q40)))))) .leaf) (.seq z (.cond (.seq (.rg [] (some (.op ⟨[48],[]⟩ (.op ⟨[48],[]⟩ (.op ⟨[48],[]⟩ (.op ⟨[],[]⟩ (.op ⟨[1888],[]⟩ (.op ⟨[],[]⟩ (.split 119 [(123,.bool)] q45 q40))))))))) .leaf) (.seq z (.cond (.seq (.rg [] (some (.op ⟨[48],[]⟩ (.op ⟨[2032],[]⟩ (.op ⟨[],[]⟩ (.split 128 [(131,.bool)] (.op ⟨[32],[]⟩ (.op ⟨[2080],[]⟩ q40)) q40)))))) .leaf) (.seq z (.cond (.seq (.rg [] (some (.op ⟨[48],[]⟩ (.op ⟨[48],[]⟩ (.op ⟨[48],[]⟩ (.op ⟨[],[]⟩ (.op ⟨[2208],[]⟩ (.op ⟨[],[]⟩ (.split 139 [(142,.bool)] (.op ⟨[32],[]⟩ (.op ⟨[2256],[]⟩ q40)) q40))))))))) .leaf) (.seq z (.cond (.seq (.rg [] (some (.op ⟨[48],[]⟩ (.op ⟨[2336],[]⟩ (.op ⟨[],[]⟩ (.split 147 [(150,.bool)] (.op ⟨[32],[]⟩ (.op ⟨[2384],[]⟩ q40)) q40)))))) .leaf) (.seq z (.cond (.seq (.rg [] (some (.op ⟨[48],[]⟩ (.op ⟨[2464],[]⟩ (.op ⟨[],[]⟩ (.split 155 [(158,.bool)] (.op ⟨[32],[]⟩ (.op ⟨[2512],[]⟩ q40)) q40)))))) .leaf) .leaf)))))))))))))))))))))) q1))
theorem o320:FnOk Tryz.prog 320 g320:=fnY tab_ok mixed l320 a320 ⟨o322,o146,o236,o394,o396,trivial⟩ Tryz.func320
abbrev g397:Fun:=fg [.val (.int .i64)] [.tmp 2 ((.int .i64),.view)] device_Place
def l397:EL:={fs:=[]}
def a397:AG g397:=(.seq z (.seq z (.seq (.seq (.rg [] (some (.op ⟨[],[]⟩ (.op ⟨[],[]⟩ (.op ⟨[],[]⟩ (.split 8 [(11,.bool)] q41 (.op ⟨[],[]⟩ (.split 12 [(20,.bool)] (.op ⟨[],[]⟩ q82) .done)))))))) q67) q1)))
theorem o397:FnOk Tryz.prog 397 g397:=fnY tab_ok mixed l397 a397 trivial Tryz.func397
abbrev g321:Fun:=fg [.val T27,.val (.int .i64),.val (.int .i64),.val T29] [.tmp 8 ((.sl (.int .u8)),.full)] device_data
def l321:EL:={fs:=[(322,g322),(235,g235),(397,g397),(217,g217)]}
def a321:AG g321:=(.seq z (.seq (.seq z (.block (.seq z (.cond (.seq z (.join [.row 9 (.int .u8) .full] (.seq (.rg [] (some (.op ⟨[112],[]⟩ (.op ⟨[112],[]⟩ (.op ⟨[],[]⟩ (.op ⟨[],[]⟩ (.split 20 [(25,.bool)] (.op ⟨[112],[]⟩ (.op ⟨[112],[]⟩ (.op ⟨[368],[]⟩ q0))) .done))))))) q48) q1)) (.seq z (.cond (.seq .leaf q20) (.seq z (.cond q1 (.seq z (.cond q1 (.seq z (.cond (.join [.val 1 (.int .i64)] (.seq (.rg [] (some (.op ⟨[],[]⟩ (.op ⟨[],[]⟩ (.op ⟨[],[]⟩ (.split 65 [(68,.bool)] q41 .done)))))) q48) q1) .leaf)))))))))))) q1))
theorem o321:FnOk Tryz.prog 321 g321:=fnY tab_ok mixed l321 a321 ⟨o322,o235,o397,o217,trivial⟩ Tryz.func321
abbrev g323:Fun:=fg [.val (.int .i64),.val (.int .i64)] [.cell 4 T227] device_halt
def l323:EL:={fs:=[(235,g235),(397,g397)]}
def a323:AG g323:=q69
theorem o323:FnOk Tryz.prog 323 g323:=fnY tab_ok mixed l323 a323 ⟨o235,o397,trivial⟩ Tryz.func323
abbrev g227:Fun:=fg [.val T27,.val (.int .i64),.val (.int .i64),.val T29] [.cell 8 T27,.cell 9 T227,.tmp 10 ((.sl (.int .u8)),.full),.tmp 11 (.bool,.view)] device_Ask
def l227:EL:={fs:=[(320,g320),(321,g321),(322,g322),(323,g323)]}
def a227:AG g227:=(.seq z (.seq z (.seq q42 (.seq z (.seq z (.join [.box 4 T27,.box 8 T27,.box 9 T227,.box 12 T227,.row 13 (.int .u8) .full] (.seq z (.block (.seq z (.cond z (.seq z (.cond z (.seq z (.cond (.rg [] (some (.op ⟨[112],[]⟩ (.op ⟨[112],[]⟩ q29)))) (.seq z (.cond z (.seq z (.cond z q4)))))))))))) (.seq (.rg [] (some (.op ⟨[64],[]⟩ (.op ⟨[192],[]⟩ (.op ⟨[],[]⟩ (.op ⟨[128],[128]⟩ (.op ⟨[144],[144]⟩ q0))))))) .leaf)))))))
theorem o227:FnOk Tryz.prog 227 g227:=fnY tab_ok mixed l227 a227 ⟨o320,o321,o322,o323,trivial⟩ Tryz.func227
abbrev g233:Fun:=fg [.val (.int .i64),.val T29] [.cell 4 T32] control_at
def l233:EL:={fs:=[]}
def a233:AG g233:=(.seq z q1)
theorem o233:FnOk Tryz.prog 233 g233:=fnY tab_ok mixed l233 a233 trivial Tryz.func233
abbrev g246:Fun:=fg [.val (.sl (.int .u8))] [.tmp 2 ((.sl (.int .u8)),.full)] bytes_CloneM
def l246:EL:={fs:=[]}
def a246:AG g246:=q69
theorem o246:FnOk Tryz.prog 246 g246:=by rw[show g246=fg [.val (.sl (.int .u8))] [.tmp 2 ((.sl (.int .u8)),.full)] bytes_Clone from by show fg [.val (.sl (.int .u8))] [.tmp 2 ((.sl (.int .u8)),.full)] bytes_CloneM=_;rw[bytes_CloneM_eq]];exact fnY tab_ok mixed l246 a246 trivial Tryz.func246
abbrev g229:Fun:=fg [.val T29,.val (.sl (.int .u8)),.val .bool] [.cell 6 T32] control_Begin
def l229:EL:={fs:=[(70,g70),(233,g233),(246,g246)]}
def a229:AG g229:=(.seq z (.seq (.seq z (.block (.seq (.rg [] (some (.op ⟨[],[]⟩ (.op ⟨[],[]⟩ (.op ⟨[],[]⟩ (.split 14 [(17,.bool)] q41 q40)))))) q84))) (.seq z (.seq z (.seq z (.seq (.rg [] (some (.op ⟨[128],[]⟩ (.op ⟨[128],[]⟩ (.op ⟨[],[]⟩ (.op ⟨[48],[]⟩ (.op ⟨[48],[]⟩ (.op ⟨[],[]⟩ (.op ⟨[],[]⟩ (.split 43 [(49,.bool)] (.op ⟨[128],[]⟩ (.op ⟨[128],[]⟩ q83)) (.op ⟨[128],[]⟩ q33))))))))))) q1))))))
theorem o229:FnOk Tryz.prog 229 g229:=fnY tab_ok mixed l229 a229 ⟨o70,o233,o246,trivial⟩ Tryz.func229
abbrev g324:Fun:=fg [.val T114] [.cell 2 T114] endpoint_Clear
def l324:EL:={fs:=[]}
def a324:AG g324:=(.seq z q1)
theorem o324:FnOk Tryz.prog 324 g324:=fnY tab_ok mixed l324 a324 trivial Tryz.func324
abbrev g326:Fun:=fg [.val T114] [.cell 2 T114] endpoint_Flush
def l326:EL:={fs:=[]}
def a326:AG g326:=q49
theorem o326:FnOk Tryz.prog 326 g326:=fnY tab_ok mixed l326 a326 trivial Tryz.func326
abbrev g245:Fun:=fg [.val T114] [.cell 2 T114] endpoint_Stall
def l245:EL:={fs:=[]}
def a245:AG g245:=q49
theorem o245:FnOk Tryz.prog 245 g245:=fnY tab_ok mixed l245 a245 trivial Tryz.func245
abbrev g325:Fun:=fg [.val T114] [.cell 2 T114] endpoint_Halt
def l325:EL:={fs:=[(326,g326),(245,g245)]}
def a325:AG g325:=(.seq z q1)
theorem o325:FnOk Tryz.prog 325 g325:=fnY tab_ok mixed l325 a325 ⟨o326,o245,trivial⟩ Tryz.func325
abbrev g231:Fun:=fg [.val T32] [.tmp 2 (.bool,.view)] control_Right
def l231:EL:={fs:=[]}
def a231:AG g231:=(.seq z (.seq (.block (.seq (.rg [] (some (.op ⟨[16],[]⟩ (.op ⟨[16],[]⟩ (.op ⟨[],[]⟩ (.op ⟨[],[]⟩ (.split 7 [(11,.bool)] q43 (.op ⟨[],[]⟩ (.split 12 [(19,.bool)] (.op ⟨[16],[]⟩ (.op ⟨[16],[]⟩ q68)) q40))))))))) q84)) (.seq (.rg [] (some (.op ⟨[16],[]⟩ (.op ⟨[16],[]⟩ (.op ⟨[],[]⟩ (.op ⟨[],[]⟩ (.split 27 [(32,.bool)] q68 (.op ⟨[],[]⟩ (.split 33 [(37,.bool)] q43 q40))))))))) .leaf)))
theorem o231:FnOk Tryz.prog 231 g231:=fnY tab_ok mixed l231 a231 trivial Tryz.func231
abbrev g232:Fun:=fg [.val T32,.val T61] [.tmp 4 (.bool,.view)] control_status
def l232:EL:={fs:=[]}
def a232:AG g232:=(.seq z (.seq (.rg [] (some (.op ⟨[48],[]⟩ (.op ⟨[48],[]⟩ (.op ⟨[],[]⟩ (.op ⟨[],[]⟩ (.op ⟨[],[]⟩ (.split 9 [(13,.bool)] q44 (.op ⟨[],[]⟩ (.split 14 [(18,.bool)] q45 (.op ⟨[],[]⟩ (.split 19 [(23,.bool)] q45 q40)))))))))))) .leaf))
theorem o232:FnOk Tryz.prog 232 g232:=fnY tab_ok mixed l232 a232 trivial Tryz.func232
abbrev g143:Fun:=fg [.val T32,.val T61] [.cell 4 T32,.cell 5 T57] control_Out
def l143:EL:={fs:=[(231,g231),(232,g232),(233,g233)]}
def a143:AG g143:=(.seq z (.seq (.block (.seq (.rg [] (some (.op ⟨[32],[]⟩ (.op ⟨[128],[]⟩ (.op ⟨[],[]⟩ (.op ⟨[],[]⟩ (.split 10 [(15,.bool)] (.op ⟨[48],[]⟩ (.op ⟨[48],[]⟩ q41)) q40))))))) (.cond q1 q73))) q1))
theorem o143:FnOk Tryz.prog 143 g143:=fnY tab_ok mixed l143 a143 ⟨o231,o232,o233,trivial⟩ Tryz.func143
abbrev g234:Fun:=fg [.val T32,.val .bool] [.cell 4 T32,.cell 5 T57] control_data
def l234:EL:={fs:=[(246,g246),(233,g233)]}
def a234:AG g234:=(.seq z (.seq z (.seq (.rg [288] (some (.op ⟨[32],[]⟩ (.op ⟨[32],[]⟩ (.op ⟨[],[]⟩ (.op ⟨[288],[288]⟩ (.op ⟨[288],[288]⟩ (.op ⟨[112],[112]⟩ q15)))))))) (.seq (.seq z q58) (.seq z (.seq z (.seq (.seq (.rg [] (some (.op ⟨[32],[]⟩ (.op ⟨[32],[]⟩ (.op ⟨[],[]⟩ (.op ⟨[],[]⟩ (.op ⟨[],[]⟩ (.split 39 [(47,.bool)] (.op ⟨[32],[]⟩ (.op ⟨[32],[]⟩ (.op ⟨[],[]⟩ (.split 42 [(46,.bool)] q83 q40)))) .done)))))))) q58) (.seq (.rg [] (some (.op ⟨[32],[]⟩ (.op ⟨[32],[]⟩ (.op ⟨[832],[]⟩ (.op ⟨[112],[]⟩ q10)))))) .leaf))))))))
theorem o234:FnOk Tryz.prog 234 g234:=fnY tab_ok mixed l234 a234 ⟨o246,o233,trivial⟩ Tryz.func234
abbrev g144:Fun:=fg [.val T32,.val .bool] [.cell 4 T32,.cell 5 T57,.tmp 6 (.bool,.view)] control_In
def l144:EL:={fs:=[(231,g231),(234,g234),(233,g233)]}
def a144:AG g144:=(.seq z (.seq q42 (.seq (.seq z (.block (.seq z (.cond q1 (.seq z (.cond (.seq z (.seq (.rg [] (some (.op ⟨[112],[]⟩ (.op ⟨[128],[]⟩ (.op ⟨[64],[64]⟩ (.op ⟨[80],[80]⟩ q40)))))) .leaf)) (.seq z (.cond (.join [.val 1 .bool,.box 2 T32,.box 4 T32,.box 5 T57] q4 q1) .leaf)))))))) q1)))
theorem o144:FnOk Tryz.prog 144 g144:=fnY tab_ok mixed l144 a144 ⟨o231,o234,o233,trivial⟩ Tryz.func144
abbrev g145:Fun:=fg [.val T27] [.cell 2 T27] device_Done
def l145:EL:={fs:=[]}
def a145:AG g145:=(.seq z (.join [.box 1 T27,.box 2 T27] q4 (.seq z q1)))
theorem o145:FnOk Tryz.prog 145 g145:=fnY tab_ok mixed l145 a145 trivial Tryz.func145
abbrev g97:Fun:=fg [.pv (.rp T111)] [.tmp 2 (.bool,.view)] gadget_work_meant
def l97:EL:={fs:=[(146,g146)]}
def a97:AG g97:=(.seq z (.seq (.block (.seq (.rg [] (some (.op ⟨[],[]⟩ (.op ⟨[],[]⟩ (.op ⟨[],[]⟩ (.op ⟨[],[]⟩ (.op ⟨[],[]⟩ (.op ⟨[],[]⟩ (.op ⟨[],[]⟩ (.split 10 [(25,.bool)] (.op ⟨[],[]⟩ (.op ⟨[],[]⟩ (.op ⟨[],[]⟩ (.op ⟨[],[]⟩ (.op ⟨[],[]⟩ (.op ⟨[],[]⟩ (.op ⟨[],[]⟩ (.split 17 [(24,.bool)] q82 q40)))))))) q40)))))))))) (.cond (.seq (.rg [] (some (.op ⟨[],[]⟩ (.op ⟨[],[]⟩ (.op ⟨[],[]⟩ (.op ⟨[],[]⟩ (.op ⟨[],[]⟩ (.op ⟨[],[]⟩ (.op ⟨[],[]⟩ (.op ⟨[],[]⟩ (.op ⟨[],[]⟩ (.op ⟨[],[]⟩ (.op ⟨[],[]⟩ (.op ⟨[592],[]⟩ q40)))))))))))))) .leaf) (.seq (.rg [] (some (.op ⟨[],[]⟩ (.op ⟨[],[]⟩ (.op ⟨[],[]⟩ (.op ⟨[],[]⟩ (.op ⟨[],[]⟩ (.op ⟨[],[]⟩ (.op ⟨[],[]⟩ (.split 45 [(60,.bool)] (.op ⟨[],[]⟩ (.op ⟨[],[]⟩ (.op ⟨[],[]⟩ (.op ⟨[],[]⟩ (.op ⟨[],[]⟩ (.op ⟨[],[]⟩ (.op ⟨[],[]⟩ (.split 52 [(59,.bool)] q82 q40)))))))) q40)))))))))) (.cond (.seq (.rg [] (some (.op ⟨[],[]⟩ (.op ⟨[],[]⟩ (.op ⟨[],[]⟩ (.op ⟨[],[]⟩ (.op ⟨[],[]⟩ (.op ⟨[],[]⟩ (.op ⟨[],[]⟩ (.op ⟨[],[]⟩ (.op ⟨[],[]⟩ (.op ⟨[],[]⟩ (.op ⟨[1136],[]⟩ q40))))))))))))) .leaf) .leaf))))) q1))
theorem o97:FnOk Tryz.prog 97 g97:=fnY tab_ok mixed l97 a97 ⟨o146,trivial⟩ Tryz.func97
abbrev g240:Fun:=fg [.val T45] [.tmp 2 (.bool,.view)] bulk_Right
def l240:EL:={fs:=[]}
def a240:AG g240:=(.seq z (.seq (.seq z (.block (.join [.box 1 T45,.val 5 (.int .i64),.val 6 .bool] q17 (.cond q1 (.join [.box 1 T45,.val 9 .bool] (.seq z (.cond .leaf q17)) (.cond (.seq z (.seq (.rg [] (some (.op ⟨[16],[]⟩ (.op ⟨[16],[]⟩ (.op ⟨[],[]⟩ (.op ⟨[],[]⟩ (.split 20 [(25,.bool)] q68 (.op ⟨[],[]⟩ (.split 26 [(34,.bool)] (.op ⟨[16],[]⟩ (.op ⟨[16],[]⟩ (.op ⟨[],[]⟩ q68))) (.op ⟨[],[]⟩ (.split 35 [(47,.bool)] (.op ⟨[16],[]⟩ (.op ⟨[16],[]⟩ (.op ⟨[],[]⟩ (.op ⟨[],[]⟩ (.split 39 [(46,.bool)] (.op ⟨[16],[]⟩ (.op ⟨[16],[]⟩ (.op ⟨[],[]⟩ q43))) q40))))) q40))))))))))) .leaf)) .leaf)))))) q1))
theorem o240:FnOk Tryz.prog 240 g240:=fnY tab_ok mixed l240 a240 trivial Tryz.func240
abbrev g148:Fun:=fg [.val T45] [.tmp 2 (.bool,.view)] bulk_Ready
def l148:EL:={fs:=[(240,g240)]}
def a148:AG g148:=(.seq z (.seq (.rg [] (some (.op ⟨[16],[]⟩ (.op ⟨[64],[]⟩ (.op ⟨[],[]⟩ (.split 5 [(14,.bool)] (.op ⟨[16],[]⟩ (.op ⟨[16],[]⟩ (.op ⟨[],[]⟩ (.op ⟨[],[]⟩ (.split 9 [(13,.bool)] q43 q40))))) q40)))))) .leaf))
theorem o148:FnOk Tryz.prog 148 g148:=fnY tab_ok mixed l148 a148 ⟨o240,trivial⟩ Tryz.func148
abbrev g443:Fun:=fg [.val (.sl (.int .u8)),.val (.sl (.int .u8))] [.tmp 4 (.bool,.view)] bytes_Equal
def l443:EL:={fs:=[]}
def a443:AG g443:=(.seq z q1)
theorem o443:FnOk Tryz.prog 443 g443:=fnY tab_ok mixed l443 a443 trivial Tryz.func443
abbrev g399:Fun:=fg [.val T114,.val T114] [.tmp 4 (.bool,.view)] endpoint_Same
def l399:EL:={fs:=[(443,g443)]}
def a399:AG g399:=(.seq z (.seq (.rg [] (some (.op ⟨[32],[]⟩ (.op ⟨[32],[]⟩ (.op ⟨[48],[]⟩ (.op ⟨[48],[]⟩ (.op ⟨[],[]⟩ (.op ⟨[],[]⟩ (.split 10 [(16,.bool)] q78 (.op ⟨[],[]⟩ (.split 17 [(23,.bool)] q78 (.op ⟨[],[]⟩ (.split 24 [(30,.bool)] q78 (.op ⟨[],[]⟩ (.split 31 [(37,.bool)] (.op ⟨[32],[]⟩ (.op ⟨[32],[]⟩ (.op ⟨[48],[]⟩ (.op ⟨[48],[]⟩ (.op ⟨[576],[]⟩ q40))))) q40))))))))))))))) .leaf))
theorem o399:FnOk Tryz.prog 399 g399:=fnY tab_ok mixed l399 a399 ⟨o443,trivial⟩ Tryz.func399
abbrev g329:Fun:=fg [.val T114] [.tmp 2 (.bool,.view)] endpoint_Right
def l329:EL:={fs:=[(326,g326),(399,g399)]}
def a329:AG g329:=(.seq z (.seq (.rg [] (some (.op ⟨[16],[]⟩ (.op ⟨[16],[]⟩ (.op ⟨[16],[]⟩ (.op ⟨[16],[]⟩ (.op ⟨[],[]⟩ (.op ⟨[],[]⟩ (.op ⟨[],[]⟩ (.split 9 [(14,.bool)] q68 (.op ⟨[],[]⟩ (.split 15 [(24,.bool)] (.op ⟨[16],[]⟩ (.op ⟨[16],[]⟩ (.op ⟨[],[]⟩ (.split 18 [(23,.bool)] (.op ⟨[16],[]⟩ (.op ⟨[16],[]⟩ (.op ⟨[336],[]⟩ (.op ⟨[352],[]⟩ q40)))) q40)))) q40)))))))))))) .leaf))
theorem o329:FnOk Tryz.prog 329 g329:=fnY tab_ok mixed l329 a329 ⟨o326,o399,trivial⟩ Tryz.func329
abbrev g330:Fun:=fg [.val (.int .i64)] [.cell 2 T57] endpoint_told
def l330:EL:={fs:=[]}
def a330:AG g330:=(.seq z q1)
theorem o330:FnOk Tryz.prog 330 g330:=fnY tab_ok mixed l330 a330 trivial Tryz.func330
abbrev g238:Fun:=fg [.val T114,.val T61,.val .bool] [.cell 6 T114,.cell 7 T57,.tmp 8 (.bool,.view)] endpoint_Out
def l238:EL:={fs:=[(329,g329),(330,g330)]}
def a238:AG g238:=(.seq z (.seq (.block (.seq (.rg [] (some (.op ⟨[48],[]⟩ (.op ⟨[176],[]⟩ (.op ⟨[],[]⟩ (.op ⟨[],[]⟩ (.split 13 [(18,.bool)] q70 q40))))))) (.cond (.seq (.rg [] (some (.op ⟨[48],[]⟩ (.op ⟨[320],[]⟩ q14)))) .leaf) (.seq z (.cond (.seq (.rg [] (some (.op ⟨[48],[]⟩ (.op ⟨[400],[]⟩ q14)))) .leaf) (.seq z (.cond (.seq (.rg [] (some (.op ⟨[48],[]⟩ (.op ⟨[528],[]⟩ q14)))) .leaf) (.seq z (.cond (.seq (.rg [] (some (.op ⟨[48],[]⟩ (.op ⟨[608],[]⟩ q14)))) .leaf) .leaf))))))))) (.seq z (.seq (.rg [] (some (.op ⟨[48],[]⟩ (.op ⟨[704],[]⟩ q14)))) .leaf))))
theorem o238:FnOk Tryz.prog 238 g238:=fnY tab_ok mixed l238 a238 ⟨o329,o330,trivial⟩ Tryz.func238
abbrev g471:Fun:=fg [.val (.sl (.int .u8)),.val (.int .i64),.val (.int .i64)] [.tmp 6 ((.sl (.int .u8)),.view),.tmp 7 (.bool,.view)] number_cut
def l471:EL:={fs:=[]}
def a471:AG g471:=(.seq z (.seq (.seq (.rg [] (some (.op ⟨[],[]⟩ (.op ⟨[],[]⟩ (.op ⟨[],[]⟩ (.split 10 [(13,.bool)] q41 (.op ⟨[],[]⟩ (.split 14 [(17,.bool)] q41 (.op ⟨[],[]⟩ (.split 18 [(25,.bool)] q82 .done)))))))))) q67) q1))
theorem o471:FnOk Tryz.prog 471 g471:=fnY tab_ok mixed l471 a471 trivial Tryz.func471
abbrev g445:Fun:=fg [.val (.sl (.int .u8)),.val (.int .i64),.val (.int .i64)] [.tmp 6 ((.int .u64),.view),.tmp 7 (.bool,.view)] number_Little
def l445:EL:={fs:=[(471,g471)]}
def a445:AG g445:=(.seq z (.seq z (.seq (.seq z (.loop q28 [.val 6 (.int .u64),.val 7 .bool] number_Little_L0 q47)) q1)))
theorem o445:FnOk Tryz.prog 445 g445:=fnX tab_ok mixed l445 a445 ⟨o471,trivial⟩ Tryz.func445 (⟨(obw rfl),⟨(obw rfl),⟨⟨(obw rfl),⟨fun _=>rfl,fun n j=>by kernel_rfl,fun n=>(obw rfl)⟩⟩,(obw rfl)⟩⟩⟩)
abbrev g444:Fun:=fg [.val (.sl (.int .u8)),.val (.int .i64),.val (.int .u64)] [.tmp 6 (.bool,.view)] cbw_begins
def l444:EL:={fs:=[(445,g445)]}
def a444:AG g444:=(.seq z (.seq z (.seq (.rg [] (some (.op ⟨[],[]⟩ (.op ⟨[],[]⟩ (.split 15 [(20,.bool)] q65 (.op ⟨[],[]⟩ (.split 21 [(25,.bool)] q83 q40))))))) .leaf)))
theorem o444:FnOk Tryz.prog 444 g444:=fnY tab_ok mixed l444 a444 ⟨o445,trivial⟩ Tryz.func444
abbrev g400:Fun:=fg [.val (.sl (.int .u8))] [.tmp 2 (.bool,.view)] cbw_Valid
def l400:EL:={fs:=[(444,g444)]}
def a400:AG g400:=(.seq z q1)
theorem o400:FnOk Tryz.prog 400 g400:=fnY tab_ok mixed l400 a400 ⟨o444,trivial⟩ Tryz.func400
abbrev g401:Fun:=fg [.val (.sl (.int .u8)),.val (.int .i64)] [.tmp 4 ((.int .u32),.view)] cbw_word
def l401:EL:={fs:=[(445,g445)]}
def a401:AG g401:=q49
theorem o401:FnOk Tryz.prog 401 g401:=fnY tab_ok mixed l401 a401 ⟨o445,trivial⟩ Tryz.func401
abbrev g331:Fun:=fg [.val (.sl (.int .u8)),.val (.int .i64)] [.cell 4 T36,.tmp 5 (.bool,.view)] cbw_Read
def l331:EL:={fs:=[(400,g400),(401,g401),(246,g246)]}
def a331:AG g331:=(.seq z (.seq q42 (.seq (.rg [] (some (.op ⟨[],[]⟩ (.op ⟨[],[]⟩ q85)))) (.seq (.seq (.rg [] (some (.op ⟨[],[]⟩ (.op ⟨[],[]⟩ (.op ⟨[],[]⟩ (.op ⟨[],[]⟩ (.split 27 [(31,.bool)] q83 (.op ⟨[],[]⟩ (.split 32 [(36,.bool)] q83 (.op ⟨[],[]⟩ (.split 37 [(40,.bool)] q41 (.op ⟨[],[]⟩ (.split 41 [(44,.bool)] q41 .done))))))))))))) q67) (.seq (.rg [912] (some (.op ⟨[],[]⟩ (.op ⟨[752],[]⟩ (.op ⟨[],[]⟩ (.op ⟨[784],[]⟩ (.op ⟨[],[]⟩ (.op ⟨[],[]⟩ (.op ⟨[],[]⟩ (.op ⟨[],[]⟩ (.op ⟨[],[]⟩ (.op ⟨[],[]⟩ (.op ⟨[],[]⟩ (.op ⟨[912],[912]⟩ (.op ⟨[912],[912]⟩ (.op ⟨[64],[64]⟩ q40)))))))))))))))) .leaf)))))
theorem o331:FnOk Tryz.prog 331 g331:=fnY tab_ok mixed l331 a331 ⟨o400,o401,o246,trivial⟩ Tryz.func331
abbrev g452:Fun:=fg [.val (.int .i64)] [.tmp 2 ((.int .i64),.view)] cdb_Class
def l452:EL:={fs:=[]}
def a452:AG g452:=(.seq z (.seq (.seq z (.block (.join [.val 3 (.int .i64),.val 4 .bool] q52 (.cond q1 (.join [.val 3 (.int .i64),.val 9 .bool] q52 (.cond q1 (.join [.val 3 (.int .i64),.val 14 .bool] (.seq z (.cond .leaf q17)) (.cond q1 (.join [.val 18 .bool] q17 q67))))))))) q1))
theorem o452:FnOk Tryz.prog 452 g452:=fnY tab_ok mixed l452 a452 trivial Tryz.func452
abbrev g446:Fun:=fg [.val (.int .i64)] [.tmp 2 (.bool,.view)] cdb_Known
def l446:EL:={fs:=[(452,g452)]}
def a446:AG g446:=(.seq z (.seq (.seq z (.block (.join [.val 0 (.int .i64),.val 4 .bool] (.seq z (.cond .leaf (.seq z (.cond .leaf (.seq z (.cond .leaf (.seq z (.cond .leaf (.seq z (.cond .leaf (.seq z (.cond .leaf (.seq z (.cond .leaf (.seq z (.cond .leaf q52)))))))))))))))) q67))) q1))
theorem o446:FnOk Tryz.prog 446 g446:=fnY tab_ok mixed l446 a446 ⟨o452,trivial⟩ Tryz.func446
abbrev g417:Fun:=fg [.val (.int .i64),.val (.int .i64)] [.cell 4 T41] sense_asked
def l417:EL:={fs:=[]}
def a417:AG g417:=(.seq z q1)
theorem o417:FnOk Tryz.prog 417 g417:=fnY tab_ok mixed l417 a417 trivial Tryz.func417
abbrev g447:Fun:=fg [] [.cell 0 T41] sense_Unknown
def l447:EL:={fs:=[(417,g417)]}
def a447:AG g447:=(.seq z q1)
theorem o447:FnOk Tryz.prog 447 g447:=fnY tab_ok mixed l447 a447 ⟨o417,trivial⟩ Tryz.func447
abbrev g448:Fun:=fg [.val (.int .i64)] [.tmp 2 ((.int .i64),.view)] cdb_Size
def l448:EL:={fs:=[(446,g446)]}
def a448:AG g448:=(.seq z (.seq q42 (.seq (.seq z (.block (.seq z (.cond q1 q73)))) q1)))
theorem o448:FnOk Tryz.prog 448 g448:=fnY tab_ok mixed l448 a448 ⟨o446,trivial⟩ Tryz.func448
abbrev g479:Fun:=fg [.val (.int .i64),.val (.int .i64)] [.cell 4 T300] cdb_whole
def l479:EL:={fs:=[]}
def a479:AG g479:=(.seq z q1)
theorem o479:FnOk Tryz.prog 479 g479:=fnY tab_ok mixed l479 a479 trivial Tryz.func479
abbrev g480:Fun:=fg [.val (.int .i64),.val (.int .i64),.val (.int .i64)] [.cell 6 T300] cdb_one
def l480:EL:={fs:=[]}
def a480:AG g480:=(.seq z q1)
theorem o480:FnOk Tryz.prog 480 g480:=fnY tab_ok mixed l480 a480 trivial Tryz.func480
abbrev g481:Fun:=fg [.val (.int .i64)] [.cell 2 T428] cdb_blocks
def l481:EL:={fs:=[(448,g448),(479,g479),(452,g452),(480,g480)],es:=[426],mz:=[35],ms:=[(427,(T300,(.int .u64)))]}
def a481:AG g481:=(.seq z (.join [.val 0 (.int .i64),.box 2 T428] (.seq z (.block (.seq z (.cond q1 (.seq z (.cond z (.seq z (.cond z z)))))))) (.join [.box 2 T428] (.seq z (.block (.join [.box 2 T428,.val 24 (.int .i64),.val 25 .bool] q17 (.cond z (.seq z (.cond (.rg [] (some (.op ⟨[512],[]⟩ (.op ⟨[528],[528]⟩ (.op ⟨[544],[]⟩ (.op ⟨[528],[528]⟩ (.op ⟨[528],[528]⟩ q59))))))) .leaf)))))) q1)))
theorem o481:FnOk Tryz.prog 481 g481:=fnY tab_ok mixed l481 a481 ⟨o448,o479,o452,o480,trivial⟩ Tryz.func481
abbrev g449:Fun:=fg [.val (.int .i64)] [.cell 2 T428] cdb_of
def l449:EL:={fs:=[(479,g479),(480,g480),(452,g452),(481,g481)],es:=[426],mz:=[9,23,31,40,49,56,67,74],ms:=[(427,(T300,(.int .u64)))]}
def a449:AG g449:=(.seq z (.seq (.seq z (.block (.seq z (.cond q1 (.seq z (.cond q1 (.seq z (.cond (.seq (.rg [] (some (.op ⟨[304],[]⟩ (.op ⟨[320],[320]⟩ (.op ⟨[336],[]⟩ (.op ⟨[320],[320]⟩ (.op ⟨[352],[]⟩ (.op ⟨[320],[320]⟩ (.op ⟨[320],[320]⟩ (.op ⟨[],[]⟩ q23)))))))))) .leaf) (.seq z (.cond (.seq (.rg [] (some (.op ⟨[432],[]⟩ (.op ⟨[448],[448]⟩ (.op ⟨[464],[]⟩ (.op ⟨[448],[448]⟩ (.op ⟨[480],[]⟩ (.op ⟨[448],[448]⟩ (.op ⟨[448],[448]⟩ (.op ⟨[],[]⟩ q23)))))))))) .leaf) (.seq z (.cond q1 (.seq z (.cond q1 (.seq z (.cond q1 (.seq z (.cond q1 (.seq z (.cond (.seq (.rg [] (some (.op ⟨[1024],[1024]⟩ (.op ⟨[1040],[]⟩ (.op ⟨[1024],[1024]⟩ (.op ⟨[1056],[]⟩ (.op ⟨[1024],[1024]⟩ (.op ⟨[1024],[1024]⟩ (.op ⟨[],[]⟩ q23))))))))) .leaf) q73)))))))))))))))))))) (.seq q42 q1)))
theorem o449:FnOk Tryz.prog 449 g449:=fnY tab_ok mixed l449 a449 ⟨o479,o480,o452,o481,trivial⟩ Tryz.func449
abbrev g450:Fun:=fg [] [.cell 0 T41] sense_Field
def l450:EL:={fs:=[(417,g417)]}
def a450:AG g450:=(.seq z q1)
theorem o450:FnOk Tryz.prog 450 g450:=fnY tab_ok mixed l450 a450 ⟨o417,trivial⟩ Tryz.func450
abbrev g420:Fun:=fg [.val (.sl (.int .u8)),.val (.int .i64),.val (.int .i64)] [.tmp 6 ((.int .u64),.view),.tmp 7 (.bool,.view)] number_Big
def l420:EL:={fs:=[(471,g471)]}
def a420:AG g420:=(.seq z (.seq z (.seq (.seq z (.loop q28 [.val 6 (.int .u64),.val 7 .bool] number_Big_L0 q47)) q1)))
theorem o420:FnOk Tryz.prog 420 g420:=fnX tab_ok mixed l420 a420 ⟨o471,trivial⟩ Tryz.func420 (⟨(obw rfl),⟨(obw rfl),⟨⟨(obw rfl),⟨fun _=>rfl,fun n j=>by kernel_rfl,fun n=>(obw rfl)⟩⟩,(obw rfl)⟩⟩⟩)
abbrev g451:Fun:=fg [.val T300,.val (.sl (.int .u8))] [.tmp 4 ((.int .u64),.view)] cdb_span_get
def l451:EL:={fs:=[(420,g420),(217,g217)]}
def a451:AG g451:=(.seq z (.seq z (.join [.val 5 (.int .u64)] q4 q1)))
theorem o451:FnOk Tryz.prog 451 g451:=fnY tab_ok mixed l451 a451 ⟨o420,o217,trivial⟩ Tryz.func451
abbrev g453:Fun:=fg [.val T39,.val (.sl (.int .u8))] [.tmp 4 (.bool,.view)] cdb_fine
def l453:EL:={fs:=[]}
def a453:AG g453:=(.seq z (.seq (.seq z (.block (.seq z (.cond (.seq (.rg [] (some (.op ⟨[32],[]⟩ (.op ⟨[32],[]⟩ (.op ⟨[],[]⟩ (.op ⟨[],[]⟩ (.split 12 [(16,.bool)] q45 q40))))))) .leaf) (.seq z (.cond q1 (.seq z (.cond (.seq (.rg [] (some (.op ⟨[],[]⟩ (.op ⟨[],[]⟩ (.op ⟨[],[]⟩ (.op ⟨[],[]⟩ (.op ⟨[],[]⟩ (.split 28 [(32,.bool)] q45 q40)))))))) .leaf) .leaf)))))))) q1))
theorem o453:FnOk Tryz.prog 453 g453:=fnY tab_ok mixed l453 a453 trivial Tryz.func453
abbrev g402:Fun:=fg [.val (.sl (.int .u8))] [.cell 2 T39,.cell 3 T41] cdb_Parse
def l402:EL:={fs:=[(446,g446),(447,g447),(448,g448),(449,g449),(450,g450),(451,g451),(452,g452),(453,g453)]}
def a402:AG g402:=(.seq z (.seq (.seq (.rg [] (some (.op ⟨[],[]⟩ (.op ⟨[],[]⟩ (.op ⟨[],[]⟩ (.op ⟨[],[]⟩ (.split 13 [(20,.bool)] (.op ⟨[],[]⟩ (.op ⟨[],[]⟩ (.op ⟨[],[]⟩ (.op ⟨[],[]⟩ (.op ⟨[288],[]⟩ q0))))) .done))))))) q67) (.seq z (.seq z (.seq (.seq (.rg [] (some (.op ⟨[],[]⟩ (.op ⟨[],[]⟩ (.op ⟨[],[]⟩ (.op ⟨[],[]⟩ (.op ⟨[],[]⟩ (.split 35 [(42,.bool)] q82 .done)))))))) q67) (.seq (.seq z (.loop [.val 0 (.sl (.int .u8)),.box 2 T39,.box 3 T41,.val 4 (.int .i64),.val 5 (.int .i64),.box 6 T428,.row 47 (.pair T300 (.int .u64)) (.it false)] [.val 0 (.sl (.int .u8)),.box 2 T39,.box 3 T41,.val 4 (.int .i64),.val 5 (.int .i64),.box 6 T428] cdb_Parse_L0 (.seq .nx (.seq q3 (.block (.seq z q42)))))) (.seq (.rg [] (some (.op ⟨[],[]⟩ (.op ⟨[96],[]⟩ (.op ⟨[96],[]⟩ (.op ⟨[],[]⟩ (.op ⟨[1024],[]⟩ (.op ⟨[96],[]⟩ (.op ⟨[96],[]⟩ (.op ⟨[],[]⟩ (.op ⟨[1088],[]⟩ (.op ⟨[],[]⟩ (.op ⟨[96],[]⟩ (.op ⟨[96],[]⟩ (.op ⟨[],[]⟩ (.op ⟨[1168],[]⟩ (.op ⟨[],[]⟩ (.op ⟨[96],[]⟩ (.op ⟨[96],[]⟩ (.op ⟨[],[]⟩ (.op ⟨[1248],[]⟩ (.op ⟨[],[]⟩ (.op ⟨[],[]⟩ (.op ⟨[144],[144]⟩ q60)))))))))))))))))))))))) (.join [.val 0 (.sl (.int .u8)),.box 2 T39,.box 3 T41,.box 9 T39] (.seq (.rg [] (some (.op ⟨[],[]⟩ (.op ⟨[],[]⟩ (.op ⟨[],[]⟩ (.split 83 [(87,.bool)] (.op ⟨[],[]⟩ (.op ⟨[1360],[]⟩ q0)) (.op ⟨[],[]⟩ (.split 88 [(92,.bool)] q64 .done)))))))) q48) (.seq q42 q1)))))))))
theorem o402:FnOk Tryz.prog 402 g402:=fnX tab_ok mixed l402 a402 ⟨o446,o447,o448,o449,o450,o451,o452,o453,trivial⟩ Tryz.func402 (⟨(obw rfl),⟨(obw rfl),⟨(obw rfl),⟨(obw rfl),⟨(obw rfl),⟨⟨(obw rfl),⟨fun _=>rfl,fun n j=>by kernel_rfl,fun n=>(obw rfl)⟩⟩,(obw rfl)⟩⟩⟩⟩⟩⟩)
abbrev g335:Fun:=fg [.val T41] [.tmp 2 (.bool,.view)] sense_Good
def l335:EL:={fs:=[],es:=[42]}
def a335:AG g335:=(.seq z q1)
theorem o335:FnOk Tryz.prog 335 g335:=fnY tab_ok mixed l335 a335 trivial Tryz.func335
abbrev g403:Fun:=fg [.val T41] [.cell 2 T126] intent_None
def l403:EL:={fs:=[]}
def a403:AG g403:=(.seq z q1)
theorem o403:FnOk Tryz.prog 403 g403:=fnY tab_ok mixed l403 a403 trivial Tryz.func403
abbrev g472:Fun:=fg [.val (.sl (.int .i64)),.val (.int .i64)] [.tmp 4 ((.int .i64),.view)] slices_Index_int
def l472:EL:={fs:=[]}
def a472:AG g472:=(.seq z (.seq (.seq z (.loop [.val 0 (.sl (.int .i64)),.val 1 (.int .i64),.val 7 (.int .i64),.val 8 (.int .i64)] [] slices_Index_int_L0 q72)) q1))
theorem o472:FnOk Tryz.prog 472 g472:=fnX tab_ok mixed l472 a472 trivial Tryz.func472 (⟨(obw rfl),⟨⟨(obw rfl),⟨fun _=>rfl,fun n j=>by kernel_rfl,fun n=>(obw rfl)⟩⟩,(obw rfl)⟩⟩)
abbrev g423:Fun:=fg [.val (.sl (.int .i64)),.val (.int .i64)] [.tmp 4 (.bool,.view)] slices_Contains_int
def l423:EL:={fs:=[(472,g472)]}
def a423:AG g423:=(.seq z q1)
theorem o423:FnOk Tryz.prog 423 g423:=fnY tab_ok mixed l423 a423 ⟨o472,trivial⟩ Tryz.func423
abbrev g458:Fun:=fg [.val (.sl (.int .u8))] [.tmp 2 (.bool,.view)] unit_quiet
def l458:EL:={fs:=[(423,g423)],ls:=[12]}
def a458:AG g458:=(.seq z (.seq (.rg [] (some (.op ⟨[],[]⟩ (.op ⟨[],[]⟩ (.op ⟨[],[]⟩ (.op ⟨[],[]⟩ (.split 6 [(13,.bool)] (.op ⟨[112],[112]⟩ (.op ⟨[],[]⟩ (.op ⟨[],[]⟩ (.op ⟨[],[]⟩ (.op ⟨[],[]⟩ (.op ⟨[112,192],[]⟩ q40)))))) q40))))))) .leaf))
theorem o458:FnOk Tryz.prog 458 g458:=fnY tab_ok mixed l458 a458 ⟨o423,trivial⟩ Tryz.func458
abbrev g459:Fun:=fg [.val (.sl T41)] [.cell 2 T41,.tmp 3 ((.sl T41),.view)] sense_First
def l459:EL:={fs:=[]}
def a459:AG g459:=(.seq z (.seq q42 (.seq (.rg [] (some q57)) .leaf)))
theorem o459:FnOk Tryz.prog 459 g459:=fnY tab_ok mixed l459 a459 trivial Tryz.func459
abbrev g510:Fun:=fg [] [.cell 0 T41] sense_NotReady
def l510:EL:={fs:=[]}
def a510:AG g510:=(.seq z q1)
theorem o510:FnOk Tryz.prog 510 g510:=fnY tab_ok mixed l510 a510 trivial Tryz.func510
abbrev g497:Fun:=fg [.val T99] [.cell 2 T41] slot_Ready
def l497:EL:={fs:=[(510,g510)]}
def a497:AG g497:=q69
theorem o497:FnOk Tryz.prog 497 g497:=fnY tab_ok mixed l497 a497 ⟨o510,trivial⟩ Tryz.func497
abbrev g485:Fun:=fg [.row (.int .u8)] [] slices_Reverse_byte
def l485:EL:={fs:=[]}
def a485:AG g485:=(.seq z (.loop [.prow 0 (.int .u8),.val 2 (.int .i64),.val 3 (.int .i64)] [.prow 0 (.int .u8)] slices_Reverse_byte_L0 (.seq (.seq z q3) (.seq (.block (.rg [] (some (.op ⟨[],[]⟩ (.op ⟨[],[]⟩ (.op ⟨[],[]⟩ (.op ⟨[],[]⟩ (.op ⟨[],[]⟩ (.op ⟨[],[]⟩ (.op ⟨[0],[]⟩ (.op ⟨[0],[]⟩ (.op ⟨[],[]⟩ (.op ⟨[],[]⟩ (.op ⟨[0],[]⟩ (.op ⟨[0],[]⟩ (.op ⟨[0],[]⟩ (.op ⟨[0],[0]⟩ q51))))))))))))))))) z))))
theorem o485:FnOk Tryz.prog 485 g485:=fnX tab_ok mixed l485 a485 trivial Tryz.func485 (⟨(obw rfl),⟨fun _=>rfl,fun n j=>by kernel_rfl,fun n=>(obw rfl)⟩⟩)
abbrev g462:Fun:=fg [.val (.int .u64),.val (.int .i64)] [.tmp 4 ((.sl (.int .u8)),.full)] number_PutBig
def l462:EL:={fs:=[(128,g128),(485,g485)]}
def a462:AG g462:=(.seq z q49)
theorem o462:FnOk Tryz.prog 462 g462:=fnY tab_ok mixed l462 a462 ⟨o128,o485,trivial⟩ Tryz.func462
abbrev g410:Fun:=fg [.val T41] [.tmp 2 ((.sl (.int .u8)),.full)] sense_Bytes
def l410:EL:={fs:=[(462,g462)],ws:=[15]}
def a410:AG g410:=(.seq z (.seq z (.seq (.rg [] (some (.op ⟨[],[]⟩ (.op ⟨[],[]⟩ (.op ⟨[],[]⟩ (.op ⟨[16],[]⟩ (.op ⟨[16],[]⟩ (.op ⟨[],[]⟩ (.op ⟨[64],[]⟩ (.op ⟨[64],[64]⟩ q29)))))))))) (.seq (.rg [] (some (.op ⟨[],[]⟩ (.op ⟨[64],[]⟩ (.op ⟨[16],[]⟩ (.op ⟨[16],[]⟩ (.op ⟨[],[]⟩ (.op ⟨[],[]⟩ (.op ⟨[],[]⟩ (.op ⟨[16],[]⟩ (.op ⟨[16],[]⟩ (.op ⟨[],[]⟩ (.op ⟨[],[]⟩ (.op ⟨[],[]⟩ (.op ⟨[416],[416]⟩ (.op ⟨[64,416],[64]⟩ .done)))))))))))))))) q1))))
theorem o410:FnOk Tryz.prog 410 g410:=fnY tab_ok mixed l410 a410 ⟨o462,trivial⟩ Tryz.func410
abbrev g457:Fun:=fg [.val (.sl (.int .u8)),.val (.int .i64)] [.tmp 4 ((.sl (.int .u8)),.tail)] inquiry_Cut
def l457:EL:={fs:=[]}
def a457:AG g457:=q69
theorem o457:FnOk Tryz.prog 457 g457:=fnY tab_ok mixed l457 a457 trivial Tryz.func457
abbrev g454:Fun:=fg [.val (.sl (.int .u8)),.val T41] [.cell 4 T126] intent_In
def l454:EL:={fs:=[(335,g335),(403,g403)]}
def a454:AG g454:=(.seq z (.seq (.seq (.rg [] (some (.op ⟨[48],[]⟩ (.op ⟨[96],[]⟩ (.op ⟨[],[]⟩ (.op ⟨[],[]⟩ (.split 8 [(12,.bool)] q83 .done))))))) q67) q1))
theorem o454:FnOk Tryz.prog 454 g454:=fnY tab_ok mixed l454 a454 ⟨o335,o403,trivial⟩ Tryz.func454
abbrev g498:Fun:=fg [.box T444] [.cell 2 T126] intent_maker_tells
def l498:EL:={fs:=[(410,g410),(457,g457),(454,g454)]}
def a498:AG g498:=(.seq z (.seq (.rg [144] (some (.op ⟨[],[]⟩ (.op ⟨[0],[]⟩ (.op ⟨[0],[]⟩ (.op ⟨[0],[]⟩ (.op ⟨[0],[]⟩ (.op ⟨[144],[144]⟩ (.op ⟨[],[]⟩ (.op ⟨[0],[]⟩ (.op ⟨[0],[]⟩ (.op ⟨[0],[]⟩ (.op ⟨[0],[]⟩ (.op ⟨[144,240],[144,240]⟩ q40)))))))))))))) (.seq z q1)))
theorem o498:FnOk Tryz.prog 498 g498:=fnY tab_ok mixed l498 a498 ⟨o410,o457,o454,trivial⟩ Tryz.func498
abbrev g414:Fun:=fg [.val (.int .i64)] [.tmp 2 (.bool,.view)] job_selects
def l414:EL:={fs:=[]}
def a414:AG g414:=q74
theorem o414:FnOk Tryz.prog 414 g414:=fnY tab_ok mixed l414 a414 trivial Tryz.func414
abbrev g463:Fun:=fg [.val T39] [.cell 2 T43,.tmp 3 (.bool,.view)] job_Start
def l463:EL:={fs:=[(452,g452),(414,g414)]}
def a463:AG g463:=(.seq z (.seq z (.join [.box 1 T39,.box 2 T43,.val 4 (.int .i64)] (.seq z (.block (.seq z (.cond z (.seq (.rg [] (some (.op ⟨[],[]⟩ (.op ⟨[],[]⟩ (.op ⟨[],[]⟩ (.split 16 [(24,.bool)] (.op ⟨[],[]⟩ (.op ⟨[],[]⟩ (.op ⟨[],[]⟩ (.split 19 [(23,.bool)] q43 q40)))) q40)))))) q48))))) (.seq (.seq (.rg [] (some (.op ⟨[],[]⟩ (.op ⟨[],[]⟩ (.op ⟨[],[]⟩ (.split 27 [(31,.bool)] q43 (.op ⟨[],[]⟩ (.split 32 [(36,.bool)] q43 .done)))))))) q67) q1))))
theorem o463:FnOk Tryz.prog 463 g463:=fnY tab_ok mixed l463 a463 ⟨o452,o414,trivial⟩ Tryz.func463
abbrev g500:Fun:=fg [.val T39,.val T41] [.cell 4 T126] intent_out
def l500:EL:={fs:=[(463,g463),(335,g335),(403,g403)]}
def a500:AG g500:=(.seq z (.seq z (.seq (.seq (.rg [] (some (.op ⟨[],[]⟩ (.op ⟨[],[]⟩ (.op ⟨[],[]⟩ (.split 14 [(18,.bool)] (.op ⟨[48],[]⟩ (.op ⟨[256],[]⟩ q0)) .done)))))) q67) q1)))
theorem o500:FnOk Tryz.prog 500 g500:=fnY tab_ok mixed l500 a500 ⟨o463,o335,o403,trivial⟩ Tryz.func500
abbrev g505:Fun:=fg [] [.cell 0 T41] sense_Protected
def l505:EL:={fs:=[]}
def a505:AG g505:=(.seq z q1)
theorem o505:FnOk Tryz.prog 505 g505:=fnY tab_ok mixed l505 a505 trivial Tryz.func505
abbrev g488:Fun:=fg [.val T97] [.tmp 2 ((.sl (.arr 64 (.int .u8))),.full)] cache_All
def l488:EL:={fs:=[(221,g221),(315,g315)],bs:=[(223,Tryz.f223),(317,Tryz.f317),(392,Tryz.f392),(393,Tryz.f393),(508,Tryz.f508)],os:=[12],ps:=[245],vb:=[13,23,24],vg:=[30]}
def a488:AG g488:=(.seq z (.seq q42 (.seq (.reg (.oin 1 317 0 none (.seq z (.seq (.reg (.oin 2 223 0 none (.seq z (.seq z (.seq (.seq z (.loop q9 [.vbx 13 T97 [([.fst],(.arr 64 (.int .u8))),([.snd,.fst],T195)],.vbx 23 T97 [([.fst],(.arr 64 (.int .u8))),([.snd,.fst],T195)],.vbx 24 T97 [([.fst],(.arr 64 (.int .u8))),([.snd,.fst],T195)]] cache_All_L0 (.seq z (.seq q3 (.join q9 (.block (.seq z (.block (.seq (.reg (.oin 3 392 0 none (.seq z (.seq (.reg (.oin 3 508 0 none (.seq z q1) (.ofin none))) .leaf)) (.ofin none))) (.cond z (.seq (.reg (.oin 3 393 13 none (.seq z q1) (.ofin none))) q48)))))) z))))) q1))) (.ofin none))) .leaf)) (.ofin none))) .leaf)))
theorem o488:FnOk Tryz.prog 488 g488:=fnX tab_ok mixed l488 a488 ⟨o221,o315,trivial⟩ Tryz.func488 (⟨(obw rfl),⟨(obw rfl),⟨⟨fun _=>⟨(obw rfl),⟨⟨fun _=>⟨(obw rfl),⟨(obw rfl),⟨⟨(obw rfl),⟨fun _=>rfl,fun n j=>by kernel_rfl,fun n=>(obw rfl)⟩⟩,(obw rfl)⟩⟩⟩,trivial⟩,(obw rfl)⟩⟩,trivial⟩,(obw rfl)⟩⟩⟩) (hB:=⟨Tryz.func223,Tryz.func317,Tryz.func392,Tryz.func393,Tryz.func508,trivial⟩)
abbrev g506:Fun:=fg [] [.cell 0 T41] sense_Range
def l506:EL:={fs:=[(417,g417)]}
def a506:AG g506:=(.seq z q1)
theorem o506:FnOk Tryz.prog 506 g506:=fnY tab_ok mixed l506 a506 ⟨o417,trivial⟩ Tryz.func506
abbrev g486:Fun:=fg [.val T99,.val (.int .u64),.val (.int .i64),.val .bool] [.cell 8 T41] slot_Check
def l486:EL:={fs:=[(497,g497),(335,g335),(505,g505),(488,g488),(316,g316),(506,g506)]}
def a486:AG g486:=(.seq z (.seq (.seq z (.block (.seq z (.cond q1 (.seq (.rg [] (some (.op ⟨[],[]⟩ (.op ⟨[],[]⟩ (.split 19 [(22,.bool)] (.op ⟨[64],[]⟩ (.op ⟨[64],[]⟩ q40)) q40))))) q84))))) q1))
theorem o486:FnOk Tryz.prog 486 g486:=fnY tab_ok mixed l486 a486 ⟨o497,o335,o505,o488,o316,o506,trivial⟩ Tryz.func486
abbrev g507:Fun:=fg [.val (.sl (.arr 64 (.int .u8))),.val (.int .u64),.val (.int .i64)] [.tmp 6 ((.sl (.arr 64 (.int .u8))),.view),.tmp 7 ((.int .i64),.view)] block_some
def l507:EL:={fs:=[(316,g316)]}
def a507:AG g507:=(.seq z (.seq (.block q73) q1))
theorem o507:FnOk Tryz.prog 507 g507:=fnY tab_ok mixed l507 a507 ⟨o316,trivial⟩ Tryz.func507
abbrev g487:Fun:=fg [.val (.sl (.arr 64 (.int .u8))),.val (.int .u64),.val (.int .i64)] [.tmp 6 ((.sl (.int .u8)),.full),.tmp 7 ((.int .i64),.view)] block_Read
def l487:EL:={fs:=[(507,g507)]}
def a487:AG g487:=(.seq z (.seq z (.seq (.seq z (.loop [.row 6 (.int .u8) .full,.val 7 (.int .i64),.val 18 (.sl (.arr 64 (.int .u8))),.val 19 (.int .i64),.val 20 (.int .i64)] [.row 6 (.int .u8) .full,.val 7 (.int .i64)] block_Read_L0 q47)) q1)))
theorem o487:FnOk Tryz.prog 487 g487:=fnX tab_ok mixed l487 a487 ⟨o507,trivial⟩ Tryz.func487 (⟨(obw rfl),⟨(obw rfl),⟨⟨(obw rfl),⟨fun _=>rfl,fun n j=>by kernel_rfl,fun n=>(obw rfl)⟩⟩,(obw rfl)⟩⟩⟩)
abbrev g464:Fun:=fg [.val T99,.val (.int .u64),.val (.int .i64)] [.tmp 6 ((.sl (.int .u8)),.full),.cell 7 T41] slot_Read
def l464:EL:={fs:=[(486,g486),(335,g335),(488,g488),(487,g487)]}
def a464:AG g464:=(.seq z (.seq z (.seq (.seq z (.cond (.seq (.rg [] (some (.op ⟨[128],[]⟩ q79))) .leaf) .leaf)) (.seq z q56))))
theorem o464:FnOk Tryz.prog 464 g464:=fnY tab_ok mixed l464 a464 ⟨o486,o335,o488,o487,trivial⟩ Tryz.func464
abbrev g504:Fun:=fg [.box T444] [.cell 2 T126] intent_maker_blocks
def l504:EL:={fs:=[(452,g452),(486,g486),(464,g464),(454,g454),(500,g500),(335,g335),(225,g225),(403,g403)]}
def a504:AG g504:=(.seq z (.seq z (.seq (.rg [] (some (.op ⟨[],[]⟩ (.op ⟨[0],[]⟩ (.op ⟨[0],[]⟩ (.op ⟨[0],[]⟩ (.op ⟨[0],[]⟩ (.op ⟨[],[]⟩ (.op ⟨[0],[]⟩ (.op ⟨[0],[]⟩ (.op ⟨[0],[]⟩ (.op ⟨[0],[]⟩ (.op ⟨[],[]⟩ (.op ⟨[0],[]⟩ (.op ⟨[0],[]⟩ (.op ⟨[0],[]⟩ (.op ⟨[0],[]⟩ (.op ⟨[],[]⟩ (.op ⟨[],[]⟩ (.op ⟨[480],[]⟩ (.op ⟨[64],[64]⟩ (.op ⟨[64],[64]⟩ .done)))))))))))))))))))))) (.seq (.seq z (.block (.seq z (.cond (.seq (.rg [784] (some (.op ⟨[],[]⟩ (.op ⟨[0],[]⟩ (.op ⟨[0],[]⟩ (.op ⟨[0],[]⟩ (.op ⟨[0],[]⟩ (.op ⟨[],[]⟩ (.op ⟨[0],[]⟩ (.op ⟨[0],[]⟩ (.op ⟨[0],[]⟩ (.op ⟨[0],[]⟩ (.op ⟨[],[]⟩ (.op ⟨[0],[]⟩ (.op ⟨[0],[]⟩ (.op ⟨[0],[]⟩ (.op ⟨[0],[]⟩ (.op ⟨[784,785],[784]⟩ (.op ⟨[],[]⟩ (.op ⟨[],[]⟩ (.op ⟨[784,832],[784]⟩ q23))))))))))))))))))))) .leaf) (.join [.pbox 0 T444,.box 2 T126,.box 4 T41,.val 53 .bool] q17 (.cond (.seq (.rg [] (some (.op ⟨[],[]⟩ (.op ⟨[0],[]⟩ (.op ⟨[0],[]⟩ (.op ⟨[0],[]⟩ (.op ⟨[64],[]⟩ (.op ⟨[976],[]⟩ q23)))))))) .leaf) .leaf)))))) (.join [.pbox 0 T444,.box 2 T126,.box 4 T41] (.seq z (.cond (.seq (.rg [] (some (.op ⟨[],[]⟩ (.op ⟨[0],[]⟩ (.op ⟨[0],[]⟩ (.op ⟨[0],[]⟩ (.op ⟨[0],[]⟩ (.op ⟨[0],[]⟩ (.op ⟨[],[]⟩ (.op ⟨[0],[]⟩ (.op ⟨[0],[]⟩ (.op ⟨[0],[]⟩ (.op ⟨[0],[]⟩ (.op ⟨[],[]⟩ (.op ⟨[],[]⟩ (.op ⟨[0],[]⟩ (.op ⟨[0],[]⟩ (.op ⟨[0],[]⟩ (.op ⟨[0],[]⟩ (.op ⟨[1312,1313],[]⟩ (.op ⟨[],[]⟩ (.op ⟨[],[]⟩ (.op ⟨[],[]⟩ (.op ⟨[80],[80]⟩ (.op ⟨[80],[80]⟩ q40))))))))))))))))))))))))) q4) .leaf)) q1)))))
theorem o504:FnOk Tryz.prog 504 g504:=fnY tab_ok mixed l504 a504 ⟨o452,o486,o464,o454,o500,o335,o225,o403,trivial⟩ Tryz.func504
abbrev g484:Fun:=fg [.box T444] [.cell 2 T126] intent_maker_begin
def l484:EL:={fs:=[(497,g497),(403,g403),(498,g498),(500,g500),(446,g446),(504,g504),(447,g447)]}
def a484:AG g484:=(.seq z (.seq (.seq z (.block (.seq z (.cond q1 (.seq z (.cond q1 (.seq z (.cond q20 (.join [.pbox 0 T444,.box 2 T126,.val 8 (.int .i64),.val 40 .bool] q17 (.cond q20 (.join [.pbox 0 T444,.box 2 T126,.val 8 (.int .i64),.val 62 .bool] q17 (.cond q1 (.seq z (.cond q20 (.seq z (.cond q20 (.seq z (.cond (.seq z (.seq .leaf q20)) (.join [.pbox 0 T444,.box 2 T126,.val 113 .bool] q17 (.cond q20 .leaf)))))))))))))))))))) (.seq q42 q1)))
theorem o484:FnOk Tryz.prog 484 g484:=fnY tab_ok mixed l484 a484 ⟨o497,o403,o498,o500,o446,o504,o447,trivial⟩ Tryz.func484
abbrev g460:Fun:=fg [.val T102,.val (.int .i64),.val (.int .i64),.val T39] [.cell 8 T102,.cell 9 T126] intent_Begin
def l460:EL:={fs:=[(484,g484)]}
def a460:AG g460:=(.seq z (.seq z (.seq z (.seq (.rg [] (some (.op ⟨[],[]⟩ (.op ⟨[272],[]⟩ (.op ⟨[272],[]⟩ (.op ⟨[272],[]⟩ (.op ⟨[176],[]⟩ q22))))))) .leaf))))
theorem o460:FnOk Tryz.prog 460 g460:=fnY tab_ok mixed l460 a460 ⟨o484,trivial⟩ Tryz.func460
abbrev g406:Fun:=fg [.box T102,.val (.int .i64),.val (.int .i64),.val (.sl (.int .u8))] [.cell 8 T126] unit_begin
def l406:EL:={fs:=[(458,g458),(459,g459),(403,g403),(402,g402),(335,g335),(460,g460)]}
def a406:AG g406:=(.seq z (.seq (.seq (.rg [] (some (.op ⟨[],[]⟩ (.op ⟨[0],[]⟩ (.op ⟨[0],[]⟩ (.op ⟨[0],[]⟩ (.op ⟨[],[]⟩ (.op ⟨[],[]⟩ (.op ⟨[],[]⟩ (.split 20 [(24,.bool)] (.op ⟨[],[]⟩ (.op ⟨[352],[]⟩ q0)) .done)))))))))) (.cond (.seq z q49) .leaf)) (.join [.pbox 0 T102,.val 1 (.int .i64),.val 2 (.int .i64),.val 3 (.sl (.int .u8)),.box 8 T126] (.seq (.rg [] (some (.op ⟨[],[]⟩ (.op ⟨[],[]⟩ (.op ⟨[],[]⟩ (.op ⟨[],[]⟩ (.split 45 [(50,.bool)] q65 .done))))))) q48) (.seq z (.seq q42 (.seq (.rg [] (some (.op ⟨[],[]⟩ (.op ⟨[0],[]⟩ (.op ⟨[0],[]⟩ (.op ⟨[],[]⟩ (.op ⟨[],[]⟩ (.op ⟨[160],[]⟩ (.op ⟨[1152,1153],[]⟩ (.op ⟨[],[]⟩ (.op ⟨[],[]⟩ (.op ⟨[],[]⟩ (.op ⟨[192],[192]⟩ (.op ⟨[208],[208]⟩ (.op ⟨[192],[192]⟩ (.op ⟨[208],[208]⟩ .done)))))))))))))))) (.seq z q1)))))))
theorem o406:FnOk Tryz.prog 406 g406:=fnY tab_ok mixed l406 a406 ⟨o458,o459,o403,o402,o335,o460,trivial⟩ Tryz.func406
abbrev g332:Fun:=fg [.val (.sl T102),.val (.int .i64),.val (.sl (.int .u8))] [.tmp 6 ((.sl T102),.view),.cell 7 T126] unit_Command
def l332:EL:={fs:=[(136,g136),(402,g402),(335,g335),(403,g403),(137,g137),(406,g406)],bs:=[(85,Tryz.f85),(405,Tryz.f405)]}
def a332:AG g332:=(.seq z (.seq (.seq z (.cond (.seq z (.seq (.seq z (.cond (.seq (.rg [] (some (.op ⟨[48],[]⟩ (.op ⟨[144],[]⟩ (.op ⟨[384],[]⟩ q80))))) .leaf) .leaf)) q20)) .leaf)) (.join [.val 6 (.sl T102),.box 7 T126] (.reg (.oin 3 85 0 none (.seq z (.seq q42 (.seq z (.seq (.reg (.oin 4 405 0 none z (.ofin none))) q1)))) (.ofin none))) (.seq (.rg [] (some (.op ⟨[],[]⟩ (.op ⟨[112],[]⟩ q80)))) .leaf))))
theorem o332:FnOk Tryz.prog 332 g332:=fnY tab_ok mixed l332 a332 ⟨o136,o402,o335,o403,o137,o406,trivial⟩ Tryz.func332 (hB:=⟨Tryz.func85,Tryz.func405,trivial⟩)
abbrev g407:Fun:=fg [.val T126] [.tmp 2 ((.int .i64),.view)] cases_means
def l407:EL:={fs:=[]}
def a407:AG g407:=(.seq z (.seq (.seq (.rg [] (some (.op ⟨[16],[]⟩ (.op ⟨[16],[]⟩ (.op ⟨[],[]⟩ (.op ⟨[],[]⟩ (.split 6 [(15,.bool)] (.op ⟨[16],[]⟩ (.op ⟨[16],[]⟩ (.op ⟨[],[]⟩ (.op ⟨[],[]⟩ (.split 10 [(14,.bool)] q43 q40))))) .done))))))) q67) q1))
theorem o407:FnOk Tryz.prog 407 g407:=fnY tab_ok mixed l407 a407 trivial Tryz.func407
abbrev g408:Fun:=fg [.val (.int .i64),.val T36,.val T126] [.tmp 6 ((.int .i64),.view)] cases_third
def l408:EL:={fs:=[]}
def a408:AG g408:=(.seq z (.seq (.seq z (.block q73)) q1))
theorem o408:FnOk Tryz.prog 408 g408:=fnY tab_ok mixed l408 a408 trivial Tryz.func408
abbrev g334:Fun:=fg [.val T36,.val T126] [.tmp 4 ((.int .i64),.view)] cases_Of
def l334:EL:={fs:=[(407,g407),(408,g408)]}
def a334:AG g334:=(.seq z (.seq z (.seq (.block (.seq z (.cond q1 (.seq (.rg [] (some (.op ⟨[32],[]⟩ (.op ⟨[32],[]⟩ (.op ⟨[],[]⟩ (.split 17 [(20,.bool)] q41 q40)))))) (.cond q1 (.seq (.rg [] (some (.op ⟨[32],[]⟩ (.op ⟨[32],[]⟩ (.op ⟨[],[]⟩ (.split 27 [(30,.bool)] q41 q40)))))) (.cond q1 q73))))))) q1)))
theorem o334:FnOk Tryz.prog 334 g334:=fnY tab_ok mixed l334 a334 ⟨o407,o408,trivial⟩ Tryz.func334
abbrev g333:Fun:=fg [.val (.int .i64),.val .bool] [.cell 4 T349] cases_Plan
def l333:EL:={fs:=[]}
def a333:AG g333:=(.seq z (.seq (.seq (.rg [] (some (.op ⟨[],[]⟩ (.op ⟨[],[]⟩ (.op ⟨[],[]⟩ (.split 8 [(11,.bool)] q41 .done)))))) q67) (.seq z (.join [.val 0 (.int .i64),.val 1 .bool,.box 4 T349,.box 5 T349] (.seq z (.block (.join [.val 0 (.int .i64),.val 1 .bool,.box 4 T349,.box 5 T349,.val 15 .bool] (.seq z (.cond .leaf (.seq z (.cond .leaf q52)))) q48))) (.join [.box 4 T349,.box 5 T349] (.block (.seq (.rg [] (some (.op ⟨[],[]⟩ (.op ⟨[],[]⟩ (.op ⟨[],[]⟩ (.split 26 [(32,.bool)] (.op ⟨[],[]⟩ (.op ⟨[],[]⟩ (.op ⟨[],[]⟩ (.split 29 [(31,.bool)] q0 q40)))) q40)))))) (.cond z (.seq (.rg [] (some (.op ⟨[],[]⟩ (.op ⟨[],[]⟩ (.op ⟨[],[]⟩ (.split 37 [(43,.bool)] (.op ⟨[],[]⟩ (.op ⟨[],[]⟩ (.op ⟨[],[]⟩ (.split 40 [(42,.bool)] q0 q40)))) q40)))))) (.cond z (.seq (.rg [] (some (.op ⟨[],[]⟩ (.op ⟨[],[]⟩ (.op ⟨[],[]⟩ (.split 48 [(51,.bool)] q41 q40)))))) (.cond z (.seq z (.cond (.seq z z) .leaf))))))))) q1)))))
theorem o333:FnOk Tryz.prog 333 g333:=fnY tab_ok mixed l333 a333 trivial Tryz.func333
abbrev g354:Fun:=fg [] [.cell 0 T41] sense_NoUnit
def l354:EL:={fs:=[(417,g417)]}
def a354:AG g354:=(.seq z q1)
theorem o354:FnOk Tryz.prog 354 g354:=fnY tab_ok mixed l354 a354 ⟨o417,trivial⟩ Tryz.func354
abbrev g413:Fun:=fg [.val T43] [.tmp 2 (.bool,.view)] job_Right
def l413:EL:={fs:=[(463,g463),(414,g414)]}
def a413:AG g413:=(.seq z (.seq z (.seq (.seq (.rg [] (some (.op ⟨[],[]⟩ (.op ⟨[],[]⟩ (.op ⟨[],[]⟩ (.split 14 [(20,.bool)] (.op ⟨[16],[]⟩ (.op ⟨[16],[]⟩ q44)) (.op ⟨[],[]⟩ (.split 21 [(25,.bool)] q43 (.op ⟨[],[]⟩ (.split 26 [(32,.bool)] (.op ⟨[16],[]⟩ (.op ⟨[16],[]⟩ q43)) .done)))))))))) q67) (.seq z (.join [.box 1 T43,.val 5 (.int .i64)] q4 q1)))))
theorem o413:FnOk Tryz.prog 413 g413:=fnY tab_ok mixed l413 a413 ⟨o463,o414,trivial⟩ Tryz.func413
abbrev g418:Fun:=fg [] [.cell 0 T41] sense_Length
def l418:EL:={fs:=[(417,g417)]}
def a418:AG g418:=(.seq z q1)
theorem o418:FnOk Tryz.prog 418 g418:=fnY tab_ok mixed l418 a418 ⟨o417,trivial⟩ Tryz.func418
abbrev g356:Fun:=fg [.val T102,.val T43] [.cell 4 T102,.cell 5 T41] job_Finish
def l356:EL:={fs:=[(413,g413),(418,g418),(335,g335),(414,g414)]}
def a356:AG g356:=(.seq z (.seq (.block (.seq z (.cond (.seq (.rg [] (some (.op ⟨[32],[]⟩ (.op ⟨[208],[]⟩ q10)))) .leaf) (.seq z (.cond (.seq (.rg [] (some (.op ⟨[32],[]⟩ (.op ⟨[48],[]⟩ (.op ⟨[48],[]⟩ q10))))) .leaf) (.seq z (.cond (.seq (.rg [] (some (.op ⟨[32],[]⟩ (.op ⟨[464],[]⟩ q10)))) .leaf) q42))))))) (.seq .leaf (.seq (.seq .leaf q3) q20))))
theorem o356:FnOk Tryz.prog 356 g356:=fnY tab_ok mixed l356 a356 ⟨o413,o418,o335,o414,trivial⟩ Tryz.func356
abbrev g261:Fun:=fg [.val (.sl T102),.val (.int .i64),.val T43] [.tmp 6 ((.sl T102),.view),.cell 7 T41] unit_Finish
def l261:EL:={fs:=[(354,g354),(136,g136),(137,g137),(356,g356)],bs:=[(85,Tryz.f85),(355,Tryz.f355)]}
def a261:AG g261:=(.seq z (.seq z (.join [.box 7 T41,.box 8 T41,.val 9 (.sl T102)] (.reg (.oin 3 85 0 none (.seq z (.seq q42 (.seq z (.seq (.reg (.oin 4 355 0 none (.rg [] (some (.op ⟨[],[]⟩ (.op ⟨[],[]⟩ (.op ⟨[480],[]⟩ (.op ⟨[480],[]⟩ (.op ⟨[80],[]⟩ (.op ⟨[752,753],[]⟩ (.op ⟨[],[]⟩ (.op ⟨[],[]⟩ (.op ⟨[],[]⟩ (.op ⟨[480],[]⟩ (.op ⟨[480],[480]⟩ q33))))))))))))) (.ofin none))) q1)))) (.ofin none))) q56)))
theorem o261:FnOk Tryz.prog 261 g261:=fnY tab_ok mixed l261 a261 ⟨o354,o136,o137,o356,trivial⟩ Tryz.func261 (hB:=⟨Tryz.func85,Tryz.func355,trivial⟩)
abbrev g409:Fun:=fg [.val (.sl T102),.val (.int .i64),.val T41] [.tmp 6 ((.sl T102),.view)] unit_Keep
def l409:EL:={fs:=[(136,g136),(137,g137)],bs:=[(85,Tryz.f85),(461,Tryz.f461)]}
def a409:AG g409:=(.seq z (.seq (.reg (.oin 3 85 0 none (.seq z (.seq q42 (.seq z (.seq (.reg (.oin 4 461 0 none z (.ofin none))) q1)))) (.ofin none))) .leaf))
theorem o409:FnOk Tryz.prog 409 g409:=fnY tab_ok mixed l409 a409 ⟨o136,o137,trivial⟩ Tryz.func409 (hB:=⟨Tryz.func85,Tryz.func461,trivial⟩)
abbrev g336:Fun:=fg [.box T277] [] bulk_line_end
def l336:EL:={fs:=[(261,g261),(335,g335),(409,g409)]}
def a336:AG g336:=(.join [.pbox 0 T277] (.seq z (.cond (.seq (.rg [] (some (.op ⟨[],[]⟩ (.op ⟨[],[]⟩ (.op ⟨[],[]⟩ (.op ⟨[0],[]⟩ (.op ⟨[0],[]⟩ (.op ⟨[0],[]⟩ (.op ⟨[],[]⟩ (.op ⟨[0],[]⟩ (.op ⟨[0],[]⟩ (.op ⟨[0],[]⟩ (.op ⟨[0],[]⟩ (.op ⟨[0],[]⟩ (.op ⟨[],[]⟩ (.op ⟨[0],[]⟩ (.op ⟨[0],[]⟩ (.op ⟨[0],[]⟩ (.op ⟨[0],[]⟩ (.op ⟨[400,401],[]⟩ (.op ⟨[],[]⟩ (.op ⟨[],[]⟩ (.op ⟨[],[]⟩ q11))))))))))))))))))))))) (.join [.pbox 0 T277] (.seq (.rg [] (some (.op ⟨[],[]⟩ (.op ⟨[0],[]⟩ (.op ⟨[0],[]⟩ (.op ⟨[0],[]⟩ (.op ⟨[0],[]⟩ (.op ⟨[],[]⟩ (.op ⟨[],[]⟩ (.split 39 [(47,.bool)] (.op ⟨[],[]⟩ (.op ⟨[0],[]⟩ (.op ⟨[0],[]⟩ (.op ⟨[0],[]⟩ (.op ⟨[0],[]⟩ (.op ⟨[720],[]⟩ q0)))))) .done)))))))))) q48) z)) .leaf)) (.seq (.rg [] (some (.op ⟨[],[]⟩ (.op ⟨[],[]⟩ (.op ⟨[0],[]⟩ (.op ⟨[0],[]⟩ (.op ⟨[0],[]⟩ (.op ⟨[],[]⟩ (.op ⟨[0],[]⟩ (.op ⟨[0],[]⟩ (.op ⟨[0],[]⟩ (.op ⟨[0],[]⟩ (.op ⟨[0],[]⟩ (.op ⟨[],[]⟩ (.op ⟨[0],[]⟩ (.op ⟨[0],[]⟩ (.op ⟨[0],[]⟩ (.op ⟨[0],[]⟩ (.op ⟨[1232],[]⟩ (.op ⟨[0],[]⟩ q51)))))))))))))))))))) z))
theorem o336:FnOk Tryz.prog 336 g336:=fnY tab_ok mixed l336 a336 ⟨o261,o335,o409,trivial⟩ Tryz.func336
abbrev g243:Fun:=fg [.box T277,.val (.sl (.int .u8))] [] bulk_line_wrapper
def l243:EL:={fs:=[(331,g331),(332,g332),(334,g334),(333,g333),(335,g335),(246,g246),(336,g336)]}
def a243:AG g243:=(.seq z (.seq q42 (.seq (.rg [] (some (.op ⟨[],[]⟩ (.op ⟨[0],[]⟩ (.op ⟨[0],[]⟩ (.op ⟨[0],[]⟩ (.op ⟨[64],[]⟩ (.op ⟨[64],[]⟩ (.op ⟨[64],[]⟩ (.op ⟨[64],[]⟩ (.op ⟨[544,545],[]⟩ (.op ⟨[],[]⟩ (.op ⟨[],[]⟩ (.op ⟨[],[]⟩ (.op ⟨[112],[112]⟩ q80))))))))))))))) (.seq (.rg [] (some (.op ⟨[64],[]⟩ (.op ⟨[112],[]⟩ (.op ⟨[624],[]⟩ (.op ⟨[],[]⟩ (.op ⟨[0],[]⟩ (.op ⟨[0],[]⟩ (.op ⟨[0],[]⟩ (.op ⟨[704],[]⟩ (.op ⟨[128],[128]⟩ q33))))))))))) (.seq z (.seq z (.join [.pbox 0 T277,.box 7 T126,.box 8 T349] (.block (.seq z (.cond z q4))) (.join [.pbox 0 T277,.box 7 T126,.box 8 T349] (.seq z (.cond (.rg [] (some (.op ⟨[],[]⟩ (.op ⟨[],[]⟩ (.op ⟨[112],[]⟩ (.op ⟨[112],[]⟩ (.op ⟨[0],[]⟩ q11))))))) .leaf)) (.seq z (.block (.seq z (.cond (.rg [1792] (some (.op ⟨[],[]⟩ (.op ⟨[112],[]⟩ (.op ⟨[112],[]⟩ (.op ⟨[112],[]⟩ (.op ⟨[112],[]⟩ (.op ⟨[],[]⟩ (.op ⟨[],[]⟩ (.op ⟨[0],[]⟩ (.op ⟨[0],[]⟩ (.op ⟨[0],[]⟩ (.op ⟨[0],[]⟩ (.op ⟨[],[]⟩ (.op ⟨[],[]⟩ (.op ⟨[1792],[1792]⟩ (.op ⟨[0],[]⟩ (.op ⟨[0],[]⟩ (.op ⟨[0],[]⟩ (.op ⟨[0,1792],[0,1792]⟩ .done)))))))))))))))))))) q4))))))))))))
theorem o243:FnOk Tryz.prog 243 g243:=fnY tab_ok mixed l243 a243 ⟨o331,o332,o334,o333,o335,o246,o336,trivial⟩ Tryz.func243
abbrev g150:Fun:=fg [.val T45,.val (.sl T102),.val (.sl (.int .u8)),.val .bool] [.cell 8 T45,.tmp 9 ((.sl T102),.view)] bulk_Take
def l150:EL:={fs:=[(240,g240),(243,g243)],bs:=[(241,Tryz.f241),(242,Tryz.f242)]}
def a150:AG g150:=(.seq z (.seq (.reg (.oin 4 241 0 none (.seq z (.seq q42 (.seq z (.seq z (.join [.box 8 T45,.box 25 T45,.box 27 T277] (.reg (.oin 2 242 0 none (.seq z (.block (.seq z (.cond z (.seq z q3))))) (.ofin none))) (.seq (.rg [] (some (.op ⟨[],[]⟩ (.op ⟨[432],[]⟩ (.op ⟨[432],[]⟩ (.op ⟨[432],[]⟩ (.op ⟨[],[]⟩ (.op ⟨[432],[]⟩ (.op ⟨[432],[]⟩ (.op ⟨[432],[]⟩ (.op ⟨[400],[400]⟩ q40))))))))))) .leaf)))))) (.ofin none))) .leaf))
theorem o150:FnOk Tryz.prog 150 g150:=fnY tab_ok mixed l150 a150 ⟨o240,o243,trivial⟩ Tryz.func150 (hB:=⟨Tryz.func241,Tryz.func242,trivial⟩)
abbrev g247:Fun:=fg [.val T45] [.tmp 2 ((.int .i64),.view)] bulk_chunk
def l247:EL:={fs:=[]}
def a247:AG g247:=(.seq z q1)
theorem o247:FnOk Tryz.prog 247 g247:=fnY tab_ok mixed l247 a247 trivial Tryz.func247
abbrev g338:Fun:=fg [.val (.int .u32)] [.tmp 2 ((.sl (.int .u8)),.full)] cbw_put
def l338:EL:={fs:=[(128,g128)]}
def a338:AG g338:=(.seq z q1)
theorem o338:FnOk Tryz.prog 338 g338:=fnY tab_ok mixed l338 a338 ⟨o128,trivial⟩ Tryz.func338
abbrev g248:Fun:=fg [.val T69] [.tmp 2 ((.sl (.int .u8)),.full)] cbw_Status
def l248:EL:={fs:=[(338,g338),(127,g127)]}
def a248:AG g248:=(.seq z (.seq (.rg [48,96,144,208,224] (some (.op ⟨[48],[48]⟩ (.op ⟨[16],[]⟩ (.op ⟨[16],[]⟩ (.op ⟨[96],[96]⟩ (.op ⟨[16],[]⟩ (.op ⟨[16],[]⟩ (.op ⟨[144],[144]⟩ (.op ⟨[16],[]⟩ (.op ⟨[16],[]⟩ (.op ⟨[],[]⟩ (.op ⟨[208],[208]⟩ (.op ⟨[48,96,144,208,224],[48,96,144,208,224]⟩ (.op ⟨[224,240],[224,240]⟩ q40))))))))))))))) .leaf))
theorem o248:FnOk Tryz.prog 248 g248:=fnY tab_ok mixed l248 a248 ⟨o338,o127,trivial⟩ Tryz.func248
abbrev g152:Fun:=fg [.val T45] [.tmp 2 ((.sl (.int .u8)),.full),.tmp 3 (.bool,.view)] bulk_Next
def l152:EL:={fs:=[(240,g240),(247,g247),(246,g246),(248,g248)]}
def a152:AG g152:=(.seq z (.seq (.block (.seq z (.cond q1 (.seq z (.cond (.seq (.rg [] (some (.op ⟨[16],[]⟩ (.op ⟨[16],[]⟩ (.op ⟨[16],[]⟩ (.op ⟨[240],[]⟩ (.op ⟨[],[]⟩ (.op ⟨[272],[272]⟩ q0)))))))) .leaf) q42))))) q1))
theorem o152:FnOk Tryz.prog 152 g152:=fnY tab_ok mixed l152 a152 ⟨o240,o247,o246,o248,trivial⟩ Tryz.func152
abbrev g339:Fun:=fg [.val T114,.val .bool] [.cell 4 T114,.cell 5 T57] endpoint_send
def l339:EL:={fs:=[(246,g246),(326,g326)]}
def a339:AG g339:=(.seq z (.seq (.rg [176] (some (.op ⟨[32],[]⟩ (.op ⟨[32],[]⟩ (.op ⟨[32],[]⟩ (.op ⟨[32],[]⟩ (.op ⟨[176],[176]⟩ (.op ⟨[176],[176]⟩ (.op ⟨[96],[96]⟩ q81))))))))) (.join [.box 2 T114,.box 4 T114,.box 5 T57,.box 6 T57] (.seq z (.cond (.seq z z) .leaf)) (.seq (.rg [] (some (.op ⟨[32],[]⟩ (.op ⟨[96],[]⟩ q10)))) .leaf))))
theorem o339:FnOk Tryz.prog 339 g339:=fnY tab_ok mixed l339 a339 ⟨o246,o326,trivial⟩ Tryz.func339
abbrev g249:Fun:=fg [.val T114,.val T61,.val (.sl (.int .u8)),.val .bool] [.cell 8 T114,.cell 9 T57,.tmp 10 (.bool,.view)] endpoint_In
def l249:EL:={fs:=[(329,g329),(330,g330),(339,g339),(246,g246)]}
def a249:AG g249:=(.seq z (.seq (.block (.seq z (.cond (.seq (.rg [] (some (.op ⟨[64],[]⟩ (.op ⟨[320],[]⟩ q8)))) .leaf) (.seq (.rg [] (some (.op ⟨[64],[]⟩ (.op ⟨[64],[]⟩ (.op ⟨[],[]⟩ (.split 24 [(30,.bool)] (.op ⟨[64],[]⟩ (.op ⟨[64],[]⟩ (.op ⟨[80],[]⟩ (.op ⟨[80],[]⟩ q0)))) q40)))))) (.cond (.seq (.rg [] (some (.op ⟨[64],[]⟩ (.op ⟨[512],[]⟩ q8)))) .leaf) (.seq z (.cond (.seq z (.seq (.rg [] (some (.op ⟨[176],[]⟩ (.op ⟨[192],[]⟩ q8)))) .leaf)) (.seq z (.cond (.seq (.rg [] (some (.op ⟨[64],[]⟩ (.op ⟨[784],[]⟩ q8)))) .leaf) (.seq z (.cond (.seq (.rg [] (some (.op ⟨[64],[]⟩ (.op ⟨[864],[]⟩ q8)))) .leaf) .leaf))))))))))) (.seq (.rg [992] (some (.op ⟨[80],[]⟩ (.op ⟨[80],[]⟩ (.op ⟨[],[]⟩ (.op ⟨[],[]⟩ (.op ⟨[],[]⟩ (.op ⟨[],[]⟩ (.op ⟨[],[]⟩ (.op ⟨[992],[992]⟩ (.op ⟨[64],[]⟩ (.op ⟨[64],[64]⟩ (.op ⟨[64],[]⟩ (.op ⟨[64],[64]⟩ (.op ⟨[64],[]⟩ (.op ⟨[64,992],[64,992]⟩ .done)))))))))))))))) (.seq z (.seq (.rg [] (some (.op ⟨[208],[]⟩ (.op ⟨[224],[]⟩ q8)))) .leaf)))))
theorem o249:FnOk Tryz.prog 249 g249:=fnY tab_ok mixed l249 a249 ⟨o329,o330,o339,o246,trivial⟩ Tryz.func249
abbrev g337:Fun:=fg [.box T277,.val (.int .i64)] [] bulk_line_moved
def l337:EL:={fs:=[]}
def a337:AG g337:=(.seq z z)
theorem o337:FnOk Tryz.prog 337 g337:=fnY tab_ok mixed l337 a337 trivial Tryz.func337
abbrev g251:Fun:=fg [.box T277] [] bulk_line_goes
def l251:EL:={fs:=[(247,g247),(246,g246),(337,g337),(336,g336)]}
def a251:AG g251:=(.seq z (.seq z (.seq z (.block (.seq z (.cond .leaf (.seq (.rg [] (some (.op ⟨[],[]⟩ (.op ⟨[0],[]⟩ (.op ⟨[0],[]⟩ (.op ⟨[0],[]⟩ (.op ⟨[0],[]⟩ (.op ⟨[],[]⟩ (.op ⟨[],[]⟩ (.split 38 [(43,.bool)] (.op ⟨[],[]⟩ (.op ⟨[0],[]⟩ (.op ⟨[0],[]⟩ (.op ⟨[0],[]⟩ q40)))) q40)))))))))) (.cond (.seq z z) (.seq (.rg [] (some (.op ⟨[],[]⟩ (.op ⟨[0],[]⟩ (.op ⟨[0],[]⟩ (.op ⟨[0],[]⟩ (.op ⟨[0],[]⟩ (.op ⟨[],[]⟩ (.op ⟨[],[]⟩ (.split 57 [(60,.bool)] q41 q40)))))))))) q48)))))))))
theorem o251:FnOk Tryz.prog 251 g251:=fnY tab_ok mixed l251 a251 ⟨o247,o246,o337,o336,trivial⟩ Tryz.func251
abbrev g155:Fun:=fg [.val T45,.val (.sl T102),.val .bool] [.cell 6 T45,.tmp 7 ((.sl T102),.view)] bulk_Sent
def l155:EL:={fs:=[(240,g240),(251,g251)],bs:=[(241,Tryz.f241),(250,Tryz.f250)]}
def a155:AG g155:=(.seq z (.seq (.reg (.oin 3 241 0 none (.seq z (.seq q42 (.seq z (.seq z (.join [.box 6 T45,.box 22 T45,.box 24 T277] (.reg (.oin 2 250 0 none (.seq z (.block (.seq z (.cond z q4)))) (.ofin none))) (.seq (.rg [] (some (.op ⟨[],[]⟩ (.op ⟨[384],[]⟩ (.op ⟨[384],[]⟩ (.op ⟨[384],[]⟩ (.op ⟨[],[]⟩ (.op ⟨[384],[]⟩ (.op ⟨[384],[]⟩ (.op ⟨[384],[]⟩ (.op ⟨[352],[352]⟩ q40))))))))))) .leaf)))))) (.ofin none))) .leaf))
theorem o155:FnOk Tryz.prog 155 g155:=fnY tab_ok mixed l155 a155 ⟨o240,o251,trivial⟩ Tryz.func155 (hB:=⟨Tryz.func241,Tryz.func250,trivial⟩)
abbrev g347:Fun:=fg [.val (.int .i64)] [.tmp 2 (.bool,.view)] tags_may
def l347:EL:={fs:=[]}
def a347:AG g347:=q74
theorem o347:FnOk Tryz.prog 347 g347:=fnY tab_ok mixed l347 a347 trivial Tryz.func347
abbrev g349c:Fun:=fg [.val T86,.pv (.rp (.int .i64))] [.tmp 3 (.bool,.view)] tags_Find_1
def l349c:EL:={fs:=[]}
def a349c:AG g349c:=(.seq z q1)
theorem o349c:FnOk Tryz.prog 349 g349c:=fnY tab_ok mixed l349c a349c trivial Tryz.func349
abbrev g348s349:Fun:=fg [.val (.sl T86),.pv (.clo 349 (.int .i64))] [.tmp 4 ((.int .i64),.view)] slices_IndexFunc_api_Task_c349
def l348s349:EL:={fs:=[(349,g349c)]}
def a348s349:AG g348s349:=(.seq z (.seq (.seq z (.loop [.val 0 (.sl T86),.pv 1 (.clo 349 (.int .i64)),.val 7 (.int .i64),.val 8 (.int .i64)] [] slices_IndexFunc_api_Task_c349_L0 q72)) q1))
theorem o348s349:FnOk Tryz.prog 348 g348s349:=fnX tab_ok mixed l348s349 a348s349 ⟨o349c,trivial⟩ Tryz.func348 (⟨(obw rfl),⟨⟨(obw rfl),⟨fun _=>rfl,fun n j=>by kernel_rfl,fun n=>(obw rfl)⟩⟩,(obw rfl)⟩⟩)
abbrev g351:Fun:=fg [.val (.int .i64)] [.cell 2 (.arr 2 (.int .u8))] tags_of
def l351:EL:={fs:=[]}
def a351:AG g351:=(.seq z q1)
theorem o351:FnOk Tryz.prog 351 g351:=fnY tab_ok mixed l351 a351 trivial Tryz.func351
abbrev g350:Fun:=fg [.val (.sl T86)] [.tmp 2 ((.sl (.pair (.arr 2 (.int .u8)) (.int .i64))),.mp)] tags_places
def l350:EL:={fs:=[(347,g347),(351,g351)],ms:=[(366,((.arr 2 (.int .u8)),(.int .i64)))]}
def a350:AG g350:=(.seq z (.seq z (.seq (.seq z (.loop q31 [.row 3 (.pair (.arr 2 (.int .u8)) (.int .i64)) .mp] tags_places_L0 (.seq (.seq z q3) (.join q31 (.block q4) z)))) q1)))
theorem o350:FnOk Tryz.prog 350 g350:=fnX tab_ok mixed l350 a350 ⟨o347,o351,trivial⟩ Tryz.func350 (⟨(obw rfl),⟨(obw rfl),⟨⟨(obw rfl),⟨fun _=>rfl,fun n j=>by kernel_rfl,fun n=>(obw rfl)⟩⟩,(obw rfl)⟩⟩⟩)
abbrev g259:Fun:=fg [.val (.sl T86),.val (.int .i64)] [.tmp 4 ((.int .i64),.view)] tags_Find
def l259:EL:={fs:=[(347,g347),(348,g348s349),(350,g350),(351,g351)],os:=[3],ls:=[12],ms:=[(366,((.arr 2 (.int .u8)),(.int .i64)))]}
def a259:AG g259:=(.seq z (.seq q42 (.seq (.seq (.rg [] (some (.op ⟨[],[]⟩ (.op ⟨[240],[240]⟩ (.op ⟨[],[]⟩ (.op ⟨[272],[]⟩ (.op ⟨[240],[]⟩ q65))))))) q42) q1)))
theorem o259:FnOk Tryz.prog 259 g259:=fnY tab_ok mixed l259 a259 ⟨o347,o348s349,o350,o351,trivial⟩ Tryz.func259
abbrev g252:Fun:=fg [.val T49,.val T22,.val (.int .i64),.val (.int .i64)] [.tmp 8 ((.int .i64),.view)] uas_at
def l252:EL:={fs:=[(259,g259)]}
def a252:AG g252:=(.seq z (.seq z (.join [.val 3 (.int .i64),.box 4 T49,.val 9 (.int .i64)] q4 (.seq (.seq (.rg [] (some (.op ⟨[],[]⟩ (.op ⟨[],[]⟩ (.op ⟨[],[]⟩ (.split 18 [(24,.bool)] (.op ⟨[],[]⟩ q70) (.op ⟨[],[]⟩ (.split 25 [(34,.bool)] (.op ⟨[64],[]⟩ (.op ⟨[64],[]⟩ q82)) .done)))))))) q67) q1))))
theorem o252:FnOk Tryz.prog 252 g252:=fnY tab_ok mixed l252 a252 ⟨o259,trivial⟩ Tryz.func252
abbrev g253:Fun:=fg [.val (.sl (.int .u8))] [.tmp 2 ((.sl (.int .u8)),.full)] uas_chunk
def l253:EL:={fs:=[(246,g246)]}
def a253:AG g253:=(.seq z q1)
theorem o253:FnOk Tryz.prog 253 g253:=fnY tab_ok mixed l253 a253 ⟨o246,trivial⟩ Tryz.func253
abbrev g156:Fun:=fg [.val T49,.val T22,.val (.int .i64)] [.tmp 6 ((.sl (.int .u8)),.full),.tmp 7 (.bool,.view)] uas_Next
def l156:EL:={fs:=[(252,g252),(253,g253)]}
def a156:AG g156:=(.seq z q69)
theorem o156:FnOk Tryz.prog 156 g156:=fnY tab_ok mixed l156 a156 ⟨o252,o253,trivial⟩ Tryz.func156
abbrev g340:Fun:=fg [.val (.sl T86)] [.tmp 2 ((.sl T86),.full)] slices_Clone_api_TaskM
def l340:EL:={fs:=[]}
def a340:AG g340:=q69
theorem o340:FnOk Tryz.prog 340 g340:=by rw[show g340=fg [.val (.sl T86)] [.tmp 2 ((.sl T86),.full)] slices_Clone_api_Task from by show fg [.val (.sl T86)] [.tmp 2 ((.sl T86),.full)] slices_Clone_api_TaskM=_;rw[slices_Clone_api_TaskM_eq]];exact fnY tab_ok mixed l340 a340 trivial Tryz.func340
abbrev g341:Fun:=fg [.val (.sl T57)] [.tmp 2 ((.sl T57),.full)] slices_Clone_api_InfoM
def l341:EL:={fs:=[]}
def a341:AG g341:=q69
theorem o341:FnOk Tryz.prog 341 g341:=by rw[show g341=fg [.val (.sl T57)] [.tmp 2 ((.sl T57),.full)] slices_Clone_api_Info from by show fg [.val (.sl T57)] [.tmp 2 ((.sl T57),.full)] slices_Clone_api_InfoM=_;rw[slices_Clone_api_InfoM_eq]];exact fnY tab_ok mixed l341 a341 trivial Tryz.func341
abbrev g411:Fun:=fg [.val (.int .i64)] [.tmp 2 ((.sl (.int .u8)),.full)] iu_put
def l411:EL:={fs:=[(462,g462)]}
def a411:AG g411:=(.seq z q1)
theorem o411:FnOk Tryz.prog 411 g411:=fnY tab_ok mixed l411 a411 ⟨o462,trivial⟩ Tryz.func411
abbrev g424:Fun:=fg [.val (.int .i64),.val (.int .i64)] [.tmp 4 ((.sl (.int .u8)),.full)] iu_head
def l424:EL:={fs:=[(411,g411),(127,g127)]}
def a424:AG g424:=(.seq z q1)
theorem o424:FnOk Tryz.prog 424 g424:=fnY tab_ok mixed l424 a424 ⟨o411,o127,trivial⟩ Tryz.func424
abbrev g366:Fun:=fg [.val (.int .i64),.val (.int .i64),.val (.sl (.int .u8))] [.cell 6 T57] iu_info
def l366:EL:={fs:=[(424,g424),(127,g127)]}
def a366:AG g366:=(.seq z q1)
theorem o366:FnOk Tryz.prog 366 g366:=fnY tab_ok mixed l366 a366 ⟨o424,o127,trivial⟩ Tryz.func366
abbrev g342:Fun:=fg [.val (.int .i64),.val (.int .i64),.val T41] [.cell 6 T57] iu_Status
def l342:EL:={fs:=[(335,g335),(410,g410),(411,g411),(127,g127),(366,g366)]}
def a342:AG g342:=(.seq z (.seq z (.join [.val 0 (.int .i64),.val 1 (.int .i64),.box 6 T57,.row 7 (.int .u8) .full] q4 q1)))
theorem o342:FnOk Tryz.prog 342 g342:=fnY tab_ok mixed l342 a342 ⟨o335,o410,o411,o127,o366,trivial⟩ Tryz.func342
abbrev g158:Fun:=fg [.val T49,.val (.sl T102),.val T22,.val (.int .i64)] [.cell 8 T49,.tmp 9 ((.sl T102),.view)] uas_Sent
def l158:EL:={fs:=[(252,g252),(340,g340),(341,g341),(253,g253),(246,g246),(335,g335),(342,g342)],bs:=[(254,Tryz.f254),(255,Tryz.f255),(256,Tryz.f256),(264,Tryz.f264),(343,Tryz.f343)],cs:=[170],ws:=[163,169],os:=[72,90],rs:=[160],vb:=[70,84],vg:=[80,83],dd:=[151]}
def a158:AG g158:=(.seq z (.seq z (.seq q42 (.seq (.reg (.oin 3 254 0 none (.seq z (.seq (.rg [] (some (.op ⟨[1120],[]⟩ (.op ⟨[1120],[]⟩ (.op ⟨[1216],[1216]⟩ (.op ⟨[1120],[]⟩ (.op ⟨[1120],[]⟩ (.op ⟨[1264],[1264]⟩ (.op ⟨[1216,1264],[]⟩ (.op ⟨[],[]⟩ (.op ⟨[],[]⟩ (.op ⟨[],[]⟩ (.op ⟨[1344],[1344]⟩ q40))))))))))))) .leaf)) (.ofin none))) (.seq z (.seq (.rg [704] (some (.op ⟨[],[]⟩ (.op ⟨[],[]⟩ (.op ⟨[1216],[]⟩ (.op ⟨[1216],[]⟩ (.op ⟨[1216],[]⟩ (.op ⟨[],[]⟩ (.op ⟨[1216],[]⟩ (.op ⟨[1216],[]⟩ (.op ⟨[1216],[]⟩ (.op ⟨[656],[656]⟩ (.op ⟨[656],[]⟩ (.op ⟨[],[]⟩ (.op ⟨[704],[704]⟩ (.op ⟨[1216],[]⟩ (.op ⟨[1216],[]⟩ (.op ⟨[704,1216],[704,1216]⟩ .done)))))))))))))))))) (.join q7 (.seq z (.cond (.join q7 (.reg (.oin 3 255 18 none (.seq z (.seq z (.join [.box 8 T49,.vbx 11 T288 [([.fst,.fst],T86),([.fst,.snd,.fst],T57)],.ali 85 11,.val 86 (.int .i64),.rpt 90 T41,.val 91 (.int .i64)] q4 (.seq (.reg (.oin 13 264 0 (some ([],(.op ⟨[],[]⟩ (.op ⟨[],[]⟩ (.op ⟨[176],[]⟩ (.op ⟨[176],[]⟩ (.op ⟨[176],[]⟩ (.op ⟨[176],[]⟩ (.op ⟨[],[]⟩ (.op ⟨[178],[]⟩ (.op ⟨[178],[]⟩ (.op ⟨[178],[]⟩ (.op ⟨[],[]⟩ (.op ⟨[],[]⟩ (.op ⟨[1712],[]⟩ .done))))))))))))))) (.seq z (.rg [] (some (.op ⟨[],[]⟩ (.op ⟨[],[]⟩ (.op ⟨[176],[]⟩ (.op ⟨[176],[]⟩ (.op ⟨[176],[]⟩ (.op ⟨[176],[]⟩ (.op ⟨[2000],[]⟩ (.op ⟨[2128],[2128]⟩ (.op ⟨[179,2128,2144],[179,2144]⟩ (.op ⟨[176],[]⟩ (.op ⟨[176],[]⟩ (.op ⟨[176],[]⟩ (.op ⟨[176,2144],[176]⟩ .done)))))))))))))))) q38)) q77)))) (.ofin none))) (.reg (.oin 1 256 104 none (.seq z (.loop [.box 8 T49,.vbx 11 T288 [([.fst,.fst],T86),([.fst,.snd,.fst],T57)],.ali 171 11,.val 173 (.int .i64)] q7 uas_Sent_L0 (.seq (.seq (.rg [] (some (.op ⟨[],[]⟩ (.op ⟨[],[]⟩ (.op ⟨[176],[]⟩ (.op ⟨[176],[]⟩ (.op ⟨[176],[]⟩ (.op ⟨[176],[]⟩ (.op ⟨[178],[]⟩ (.op ⟨[],[]⟩ (.op ⟨[],[]⟩ (.split 182 [(192,.bool)] (.op ⟨[],[]⟩ (.op ⟨[176],[]⟩ (.op ⟨[176],[]⟩ (.op ⟨[176],[]⟩ (.op ⟨[176],[]⟩ (.op ⟨[],[]⟩ (.split 188 [(191,.bool)] q41 q40))))))) .done)))))))))))) q3) (.block (.seq q42 .leaf))))) (.ofin none)))) .leaf)) q16)))))))
theorem o158:FnOk Tryz.prog 158 g158:=fnX tab_ok mixed l158 a158 ⟨o252,o340,o341,o253,o246,o335,o342,trivial⟩ Tryz.func158 (⟨(obw rfl),⟨(obw rfl),⟨(obw rfl),⟨(obw rfl),⟨(obw rfl),⟨(obw rfl),⟨fun _=>⟨(obw rfl),⟨⟨fun _=>(obw rfl),⟨fun _=>⟨(obw rfl),⟨fun _=>rfl,fun n j=>by kernel_rfl,fun n=>(obw rfl)⟩⟩,trivial⟩⟩,(obw rfl)⟩⟩,(obw rfl)⟩⟩⟩⟩⟩⟩⟩) (hB:=⟨Tryz.func254,Tryz.func255,Tryz.func256,Tryz.func264,Tryz.func343,trivial⟩)
abbrev g257:Fun:=fg [.val T49,.val T22,.val (.int .i64)] [.tmp 6 ((.int .i64),.view)] uas_first
def l257:EL:={fs:=[],bs:=[(345,Tryz.f345),(346,Tryz.f346)],os:=[4,5]}
def a257:AG g257:=(.seq z (.seq (.reg (.oin 3 345 0 none (.seq z (.seq (.seq z (.loop [.val 11 (.sl T57),.pv 12 (.cl 346 (.cons (.rp T22) (.cons (.rp (.int .i64)) .nil))),.val 18 (.int .i64),.val 19 (.int .i64)] [] uas_first_L0 (.seq z (.seq q3 (.seq (.block (.seq z (.seq (.reg (.oin 5 346 0 none (.seq z (.seq (.rg [] (some (.op ⟨[],[]⟩ (.op ⟨[],[]⟩ (.op ⟨[],[]⟩ (.op ⟨[],[]⟩ (.split 38 [(43,.bool)] (.op ⟨[528],[]⟩ (.op ⟨[528],[]⟩ q41)) q40))))))) .leaf)) (.ofin none))) q67))) z))))) q1)) (.ofin none))) .leaf))
theorem o257:FnOk Tryz.prog 257 g257:=fnX tab_ok mixed l257 a257 trivial Tryz.func257 (⟨(obw rfl),⟨⟨fun _=>⟨(obw rfl),⟨⟨(obw rfl),⟨fun _=>rfl,fun n j=>by kernel_rfl,fun n=>(obw rfl)⟩⟩,(obw rfl)⟩⟩,trivial⟩,(obw rfl)⟩⟩) (hB:=⟨Tryz.func345,Tryz.func346,trivial⟩)
abbrev g159:Fun:=fg [.val T49,.val T22,.val (.int .i64)] [.tmp 6 ((.sl (.int .u8)),.full),.tmp 7 (.bool,.view)] uas_Status
def l159:EL:={fs:=[(257,g257),(246,g246)]}
def a159:AG g159:=(.seq z q69)
theorem o159:FnOk Tryz.prog 159 g159:=fnY tab_ok mixed l159 a159 ⟨o257,o246,trivial⟩ Tryz.func159
abbrev g161:Fun:=fg [.val T49,.val T22,.val (.int .i64)] [.cell 6 T49] uas_Told
def l161:EL:={fs:=[(257,g257),(340,g340),(341,g341),(259,g259)],bs:=[(254,Tryz.f254),(258,Tryz.f258)],cs:=[144],ws:=[137,143],os:=[99],rs:=[134],ls:=[49],vb:=[97,111],vg:=[107,110],dd:=[125]}
def a161:AG g161:=(.seq z (.seq z (.seq q42 (.seq (.reg (.oin 2 254 0 none (.seq z (.seq (.rg [] (some (.op ⟨[1552],[]⟩ (.op ⟨[1552],[]⟩ (.op ⟨[1648],[1648]⟩ (.op ⟨[1552],[]⟩ (.op ⟨[1552],[]⟩ (.op ⟨[1696],[1696]⟩ (.op ⟨[1648,1696],[]⟩ (.op ⟨[],[]⟩ (.op ⟨[],[]⟩ (.op ⟨[],[]⟩ (.op ⟨[1776],[1776]⟩ q40))))))))))))) .leaf)) (.ofin none))) (.seq z (.join [.box 6 T49,.vbx 8 T288 [([.fst,.fst],T86),([.fst,.snd,.fst],T57)],.box 9 T57] (.reg (.oin 9 258 18 none (.seq z (.seq z (.seq q42 (.seq z (.seq (.rg [] (some (.op ⟨[],[]⟩ (.op ⟨[],[]⟩ (.op ⟨[1696],[]⟩ (.op ⟨[],[]⟩ (.op ⟨[],[]⟩ (.op ⟨[1696],[]⟩ (.op ⟨[1696],[1696]⟩ q40))))))))) (.seq z q1)))))) (.ofin none))) (.seq (.rg [] (some (.op ⟨[],[]⟩ (.op ⟨[128],[]⟩ (.op ⟨[128],[]⟩ (.op ⟨[128],[]⟩ (.op ⟨[128],[]⟩ (.op ⟨[144],[]⟩ (.op ⟨[144],[]⟩ (.op ⟨[130,784],[]⟩ q40)))))))))) (.seq (.seq (.rg [] (some (.op ⟨[],[]⟩ (.op ⟨[],[]⟩ (.op ⟨[],[]⟩ (.split 52 [(63,.bool)] (.op ⟨[],[]⟩ (.op ⟨[128],[]⟩ (.op ⟨[128],[]⟩ (.op ⟨[128],[]⟩ (.op ⟨[128],[]⟩ (.op ⟨[],[]⟩ (.op ⟨[130],[]⟩ (.op ⟨[130],[]⟩ (.op ⟨[130],[]⟩ q0))))))))) .done)))))) q67) (.join [.box 6 T49,.vbx 8 T288 [([.fst,.fst],T86),([.fst,.snd,.fst],T57)]] (.seq z (.block (.seq z (.cond z q4)))) q1)))))))))
theorem o161:FnOk Tryz.prog 161 g161:=fnY tab_ok mixed l161 a161 ⟨o257,o340,o341,o259,trivial⟩ Tryz.func161 (hB:=⟨Tryz.func254,Tryz.func258,trivial⟩)
abbrev g162:Fun:=fg [.val T49,.val T22,.val (.int .i64)] [.tmp 6 (.bool,.view)] uas_Wants
def l162:EL:={fs:=[(252,g252)]}
def a162:AG g162:=(.seq z q1)
theorem o162:FnOk Tryz.prog 162 g162:=fnY tab_ok mixed l162 a162 ⟨o252,trivial⟩ Tryz.func162
abbrev g416:Fun:=fg [.pv (.rp T408),.val (.int .i64)] [.tmp 4 ((.int .u64),.view)] job_worker_place
def l416:EL:={fs:=[]}
def a416:AG g416:=(.seq z q69)
theorem o416:FnOk Tryz.prog 416 g416:=fnY tab_ok mixed l416 a416 trivial Tryz.func416
abbrev g489:Fun:=fg [.val T97,.val (.int .i64),.val (.arr 64 (.int .u8)),.val .bool] [.cell 8 T97,.tmp 9 ((.int .i64),.view)] cache_Write
def l489:EL:={fs:=[(221,g221),(313,g313),(315,g315)],bs:=[(223,Tryz.f223),(317,Tryz.f317),(392,Tryz.f392),(393,Tryz.f393),(509,Tryz.f509)],os:=[4,5,7,45],ps:=[245],vb:=[11,46,56,57],vg:=[63]}
def a489:AG g489:=(.seq z (.seq (.block q73) (.seq z (.seq (.reg (.oin 2 317 0 none (.seq z (.seq (.reg (.oin 2 223 0 none (.seq z (.seq z (.seq (.seq z (.loop q5 [.box 6 (.arr 64 (.int .u8)),.box 8 T97,.vbx 46 T97 [([.fst],(.arr 64 (.int .u8))),([.snd,.fst],T195)],.vbx 56 T97 [([.fst],(.arr 64 (.int .u8))),([.snd,.fst],T195)],.vbx 57 T97 [([.fst],(.arr 64 (.int .u8))),([.snd,.fst],T195)]] cache_Write_L0 (.seq z (.seq q3 (.join q5 (.block (.seq z (.block (.seq (.reg (.oin 3 392 0 none (.seq z (.seq (.reg (.oin 3 509 0 none (.seq z (.seq (.rg [] (some (.op ⟨[],[]⟩ (.op ⟨[],[]⟩ (.split 114 [(118,.bool)] q83 (.op ⟨[],[]⟩ (.split 119 [(128,.bool)] (.op ⟨[],[]⟩ (.op ⟨[],[]⟩ (.op ⟨[],[]⟩ (.split 122 [(127,.bool)] q65 q40)))) q40))))))) .leaf)) (.ofin none))) .leaf)) (.ofin none))) (.cond z (.seq (.reg (.oin 3 393 32 none (.seq z q1) (.ofin none))) q48)))))) z))))) q1))) (.ofin none))) .leaf)) (.ofin none))) (.join [.box 8 T97,.vbx 11 T97 [([.fst],(.arr 64 (.int .u8))),([.snd,.fst],T195)]] (.seq z (.cond z z)) q1)))))
theorem o489:FnOk Tryz.prog 489 g489:=fnX tab_ok mixed l489 a489 ⟨o221,o313,o315,trivial⟩ Tryz.func489 (⟨(obw rfl),⟨(obw rfl),⟨(obw rfl),⟨⟨fun _=>⟨(obw rfl),⟨⟨fun _=>⟨(obw rfl),⟨(obw rfl),⟨⟨(obw rfl),⟨fun _=>rfl,fun n j=>by kernel_rfl,fun n=>(obw rfl)⟩⟩,(obw rfl)⟩⟩⟩,trivial⟩,(obw rfl)⟩⟩,trivial⟩,(obw rfl)⟩⟩⟩⟩) (hB:=⟨Tryz.func223,Tryz.func317,Tryz.func392,Tryz.func393,Tryz.func509,trivial⟩)
abbrev g466:Fun:=fg [.val T99,.val (.int .i64),.val (.arr 64 (.int .u8)),.val .bool] [.cell 8 T99,.cell 9 T41] slot_Put
def l466:EL:={fs:=[(486,g486),(335,g335),(489,g489),(139,g139)]}
def a466:AG g466:=(.seq z (.seq z (.seq (.seq z (.cond (.seq (.rg [] (some (.op ⟨[64],[]⟩ (.op ⟨[160],[]⟩ q22)))) .leaf) .leaf)) (.seq z (.seq (.rg [] (some (.op ⟨[64],[]⟩ (.op ⟨[176],[]⟩ (.op ⟨[],[]⟩ (.op ⟨[544],[]⟩ (.op ⟨[160],[]⟩ q22))))))) .leaf)))))
theorem o466:FnOk Tryz.prog 466 g466:=fnY tab_ok mixed l466 a466 ⟨o486,o335,o489,o139,trivial⟩ Tryz.func466
abbrev g415:Fun:=fg [.box T408,.val (.int .u64),.val (.sl (.int .u8))] [] job_worker_block
def l415:EL:={fs:=[(335,g335),(452,g452),(464,g464),(443,g443),(466,g466)],ls:=[38]}
def a415:AG g415:=(.seq (.seq z q3) (.seq (.seq z (.cond (.seq z (.seq (.seq (.rg [] (some (.op ⟨[112],[]⟩ (.op ⟨[544],[]⟩ (.op ⟨[],[]⟩ (.split 35 [(40,.bool)] (.op ⟨[],[]⟩ (.op ⟨[],[]⟩ (.op ⟨[480,608],[]⟩ q0))) .done)))))) q3) q1)) .leaf)) (.seq z (.rg [] (some (.op ⟨[],[]⟩ (.op ⟨[],[]⟩ (.op ⟨[],[]⟩ (.op ⟨[0],[]⟩ (.op ⟨[0],[]⟩ (.op ⟨[0],[]⟩ (.op ⟨[0],[]⟩ (.op ⟨[],[]⟩ (.op ⟨[],[]⟩ (.op ⟨[],[]⟩ (.op ⟨[],[]⟩ (.op ⟨[],[]⟩ (.op ⟨[],[]⟩ (.op ⟨[0],[]⟩ (.op ⟨[0],[]⟩ (.op ⟨[0],[]⟩ (.op ⟨[0],[]⟩ (.op ⟨[0],[]⟩ (.op ⟨[],[]⟩ (.op ⟨[],[]⟩ (.split 69 [(76,.bool)] (.op ⟨[],[]⟩ (.op ⟨[0],[]⟩ (.op ⟨[0],[]⟩ (.op ⟨[0],[]⟩ (.op ⟨[0],[]⟩ q0))))) (.op ⟨[1232,1233],[]⟩ (.op ⟨[],[]⟩ (.op ⟨[],[]⟩ (.op ⟨[],[]⟩ (.op ⟨[0],[]⟩ q11)))))))))))))))))))))))))))))))
theorem o415:FnOk Tryz.prog 415 g415:=fnY tab_ok mixed l415 a415 ⟨o335,o452,o464,o443,o466,trivial⟩ Tryz.func415
abbrev g353:Fun:=fg [.val T102,.val T43,.val (.sl (.int .u8))] [.cell 6 T102,.cell 7 T43] job_Take
def l353:EL:={fs:=[(413,g413),(127,g127),(414,g414),(416,g416),(415,g415)],ls:=[63]}
def a353:AG g353:=(.seq z (.seq q54 (.seq z (.seq z (.seq z (.seq (.rg [640,656] (some (.op ⟨[64],[]⟩ (.op ⟨[64],[]⟩ (.op ⟨[],[]⟩ (.op ⟨[],[]⟩ (.op ⟨[],[]⟩ (.op ⟨[640],[640]⟩ (.op ⟨[640,656],[640,656]⟩ (.op ⟨[64],[]⟩ (.op ⟨[64,656],[64,656]⟩ .done))))))))))) (.seq q54 (.seq z (.seq (.loop [.box 6 T102,.box 7 T43,.val 9 (.int .i64),.box 10 T408] [.box 6 T102,.box 7 T43,.box 10 T408] job_Take_L0 (.seq (.seq z q3) (.block (.seq (.rg [] (some (.op ⟨[],[]⟩ (.op ⟨[],[]⟩ (.op ⟨[],[]⟩ (.op ⟨[160,1008],[]⟩ (.op ⟨[],[]⟩ (.op ⟨[160],[]⟩ (.op ⟨[160],[]⟩ (.op ⟨[160],[]⟩ (.op ⟨[160],[]⟩ (.op ⟨[],[]⟩ q39)))))))))))) z)))) (.seq (.rg [] (some (.op ⟨[],[]⟩ (.op ⟨[160],[]⟩ (.op ⟨[160],[]⟩ (.op ⟨[160],[]⟩ (.op ⟨[],[]⟩ (.op ⟨[160],[]⟩ (.op ⟨[160],[]⟩ (.op ⟨[160],[]⟩ q79)))))))))) .leaf))))))))))
theorem o353:FnOk Tryz.prog 353 g353:=fnX tab_ok mixed l353 a353 ⟨o413,o127,o414,o416,o415,trivial⟩ Tryz.func353 (⟨(obw rfl),⟨(obw rfl),⟨(obw rfl),⟨(obw rfl),⟨(obw rfl),⟨(obw rfl),⟨(obw rfl),⟨(obw rfl),⟨⟨fun _=>rfl,fun n j=>by kernel_rfl,fun n=>(obw rfl)⟩,(obw rfl)⟩⟩⟩⟩⟩⟩⟩⟩⟩)
abbrev g260:Fun:=fg [.val (.sl T102),.val (.int .i64),.val T43,.val (.sl (.int .u8))] [.tmp 8 ((.sl T102),.view),.cell 9 T43] unit_Take
def l260:EL:={fs:=[(136,g136),(137,g137),(353,g353)],bs:=[(85,Tryz.f85),(352,Tryz.f352)]}
def a260:AG g260:=(.seq z (.join [.box 6 T43,.box 9 T43,.val 10 (.sl T102)] (.reg (.oin 3 85 0 none (.seq z (.seq q42 (.seq z (.seq (.reg (.oin 4 352 0 none (.rg [] (some (.op ⟨[],[]⟩ (.op ⟨[],[]⟩ (.op ⟨[480],[]⟩ (.op ⟨[480],[]⟩ (.op ⟨[96],[]⟩ (.op ⟨[112],[]⟩ (.op ⟨[768,769],[]⟩ (.op ⟨[],[]⟩ (.op ⟨[],[]⟩ (.op ⟨[],[]⟩ (.op ⟨[480],[]⟩ (.op ⟨[480],[480]⟩ q81)))))))))))))) (.ofin none))) q1)))) (.ofin none))) (.seq (.rg [] (some (.op ⟨[],[]⟩ (.op ⟨[96],[]⟩ (.op ⟨[],[]⟩ q60))))) .leaf)))
theorem o260:FnOk Tryz.prog 260 g260:=fnY tab_ok mixed l260 a260 ⟨o136,o137,o353,trivial⟩ Tryz.func260 (hB:=⟨Tryz.func85,Tryz.func352,trivial⟩)
abbrev g164:Fun:=fg [.val T49,.val (.sl T102),.val T22,.val T61] [.cell 8 T49,.tmp 9 ((.sl T102),.view)] uas_Comes
def l164:EL:={fs:=[(252,g252),(340,g340),(341,g341),(260,g260),(261,g261),(335,g335),(342,g342)],bs:=[(254,Tryz.f254),(255,Tryz.f255),(256,Tryz.f256),(264,Tryz.f264),(343,Tryz.f343)],cs:=[207],ws:=[200,206],os:=[109,127],rs:=[197],vb:=[107,121],vg:=[117,120],dd:=[188]}
def a164:AG g164:=(.seq z (.seq z (.seq q42 (.seq (.reg (.oin 3 254 0 none (.seq z (.seq (.rg [] (some (.op ⟨[1712],[]⟩ (.op ⟨[1712],[]⟩ (.op ⟨[1808],[1808]⟩ (.op ⟨[1712],[]⟩ (.op ⟨[1712],[]⟩ (.op ⟨[1856],[1856]⟩ (.op ⟨[1808,1856],[]⟩ (.op ⟨[],[]⟩ (.op ⟨[],[]⟩ (.op ⟨[],[]⟩ (.op ⟨[1936],[1936]⟩ q40))))))))))))) .leaf)) (.ofin none))) (.seq z (.seq (.rg [] (some (.op ⟨[],[]⟩ (.op ⟨[],[]⟩ (.op ⟨[],[]⟩ (.op ⟨[1936],[]⟩ (.op ⟨[1936],[]⟩ (.op ⟨[1936],[]⟩ (.op ⟨[],[]⟩ (.op ⟨[1808],[]⟩ (.op ⟨[1808],[]⟩ (.op ⟨[1808],[]⟩ (.op ⟨[],[]⟩ (.op ⟨[1808],[]⟩ (.op ⟨[1808],[]⟩ (.op ⟨[1808],[]⟩ (.op ⟨[112],[]⟩ (.op ⟨[112],[]⟩ (.op ⟨[832,833],[]⟩ (.op ⟨[],[]⟩ (.op ⟨[],[]⟩ (.op ⟨[],[]⟩ (.op ⟨[1936],[]⟩ (.op ⟨[1936],[]⟩ (.op ⟨[1936],[1936]⟩ (.op ⟨[1808],[]⟩ (.op ⟨[1808],[]⟩ (.op ⟨[1808],[1808]⟩ .done)))))))))))))))))))))))))))) (.join q7 (.seq (.rg [] (some (.op ⟨[],[]⟩ (.op ⟨[1808],[]⟩ (.op ⟨[1808],[]⟩ (.op ⟨[1808],[]⟩ (.op ⟨[1808],[]⟩ (.op ⟨[],[]⟩ (.op ⟨[1808],[]⟩ (.op ⟨[1808],[]⟩ (.op ⟨[1808],[]⟩ (.op ⟨[1808],[]⟩ q40)))))))))))) (.cond (.seq (.rg [] (some (.op ⟨[],[]⟩ (.op ⟨[1936],[]⟩ (.op ⟨[1936],[]⟩ (.op ⟨[1936],[]⟩ (.op ⟨[],[]⟩ (.op ⟨[1808],[]⟩ (.op ⟨[1808],[]⟩ (.op ⟨[1808],[]⟩ (.op ⟨[],[]⟩ (.op ⟨[1808],[]⟩ (.op ⟨[1808],[]⟩ (.op ⟨[1808],[]⟩ (.op ⟨[1328,1329],[]⟩ (.op ⟨[],[]⟩ (.op ⟨[],[]⟩ (.op ⟨[],[]⟩ (.op ⟨[224],[224]⟩ (.op ⟨[],[]⟩ (.op ⟨[224],[224]⟩ .done))))))))))))))))))))) (.seq z (.join q7 (.reg (.oin 3 255 18 none (.seq z (.seq z (.join [.box 8 T49,.vbx 11 T288 [([.fst,.fst],T86),([.fst,.snd,.fst],T57)],.ali 122 11,.val 123 (.int .i64),.rpt 127 T41,.val 128 (.int .i64)] q4 (.seq (.reg (.oin 13 264 0 (some ([],(.op ⟨[],[]⟩ (.op ⟨[],[]⟩ (.op ⟨[176],[]⟩ (.op ⟨[176],[]⟩ (.op ⟨[176],[]⟩ (.op ⟨[176],[]⟩ (.op ⟨[],[]⟩ (.op ⟨[178],[]⟩ (.op ⟨[178],[]⟩ (.op ⟨[178],[]⟩ (.op ⟨[],[]⟩ (.op ⟨[],[]⟩ (.op ⟨[2304],[]⟩ .done))))))))))))))) (.seq z (.rg [] (some (.op ⟨[],[]⟩ (.op ⟨[],[]⟩ (.op ⟨[176],[]⟩ (.op ⟨[176],[]⟩ (.op ⟨[176],[]⟩ (.op ⟨[176],[]⟩ (.op ⟨[2592],[]⟩ (.op ⟨[2720],[2720]⟩ (.op ⟨[179,2720,2736],[179,2736]⟩ (.op ⟨[176],[]⟩ (.op ⟨[176],[]⟩ (.op ⟨[176],[]⟩ (.op ⟨[176,2736],[176]⟩ .done)))))))))))))))) q38)) q77)))) (.ofin none))) (.reg (.oin 1 256 104 none (.seq z (.loop [.box 8 T49,.vbx 11 T288 [([.fst,.fst],T86),([.fst,.snd,.fst],T57)],.ali 208 11,.val 210 (.int .i64)] q7 uas_Comes_L0 (.seq (.seq (.rg [] (some (.op ⟨[],[]⟩ (.op ⟨[],[]⟩ (.op ⟨[176],[]⟩ (.op ⟨[176],[]⟩ (.op ⟨[176],[]⟩ (.op ⟨[176],[]⟩ (.op ⟨[178],[]⟩ (.op ⟨[],[]⟩ (.op ⟨[],[]⟩ (.split 219 [(229,.bool)] (.op ⟨[],[]⟩ (.op ⟨[176],[]⟩ (.op ⟨[176],[]⟩ (.op ⟨[176],[]⟩ (.op ⟨[176],[]⟩ (.op ⟨[],[]⟩ (.split 225 [(228,.bool)] q41 q40))))))) .done)))))))))))) q3) (.block (.seq q42 .leaf))))) (.ofin none)))))) .leaf)) q16)))))))
theorem o164:FnOk Tryz.prog 164 g164:=fnX tab_ok mixed l164 a164 ⟨o252,o340,o341,o260,o261,o335,o342,trivial⟩ Tryz.func164 (⟨(obw rfl),⟨(obw rfl),⟨(obw rfl),⟨(obw rfl),⟨(obw rfl),⟨(obw rfl),⟨fun _=>⟨(obw rfl),⟨⟨(obw rfl),⟨(obw rfl),⟨fun _=>(obw rfl),⟨fun _=>⟨(obw rfl),⟨fun _=>rfl,fun n j=>by kernel_rfl,fun n=>(obw rfl)⟩⟩,trivial⟩⟩⟩⟩,(obw rfl)⟩⟩,(obw rfl)⟩⟩⟩⟩⟩⟩⟩) (hB:=⟨Tryz.func254,Tryz.func255,Tryz.func256,Tryz.func264,Tryz.func343,trivial⟩)
abbrev g165:Fun:=fg [.val T49] [.tmp 2 (.bool,.view)] uas_Ready
def l165:EL:={fs:=[]}
def a165:AG g165:=(.seq z q1)
theorem o165:FnOk Tryz.prog 165 g165:=fnY tab_ok mixed l165 a165 trivial Tryz.func165
abbrev g357:Fun:=fg [.val (.sl (.int .u8)),.val (.int .i64),.val (.int .i64)] [.tmp 6 (.bool,.view)] iu_is
def l357:EL:={fs:=[]}
def a357:AG g357:=(.seq z (.seq (.rg [] (some (.op ⟨[],[]⟩ (.op ⟨[],[]⟩ (.op ⟨[],[]⟩ (.op ⟨[],[]⟩ (.op ⟨[],[]⟩ (.split 11 [(18,.bool)] q82 q40)))))))) .leaf))
theorem o357:FnOk Tryz.prog 357 g357:=fnY tab_ok mixed l357 a357 trivial Tryz.func357
abbrev g358:Fun:=fg [.val (.sl (.int .u8)),.val (.int .i64)] [.tmp 4 ((.int .i64),.view)] iu_two
def l358:EL:={fs:=[(420,g420)]}
def a358:AG g358:=q49
theorem o358:FnOk Tryz.prog 358 g358:=fnY tab_ok mixed l358 a358 ⟨o420,trivial⟩ Tryz.func358
abbrev g268:Fun:=fg [.val (.sl (.int .u8))] [.tmp 2 ((.int .i64),.view)] iu_Tag
def l268:EL:={fs:=[(358,g358)]}
def a268:AG g268:=(.seq z q1)
theorem o268:FnOk Tryz.prog 268 g268:=fnY tab_ok mixed l268 a268 ⟨o358,trivial⟩ Tryz.func268
abbrev g422:Fun:=fg [.val (.int .i64)] [.tmp 2 ((.sl (.int .u8)),.full)] iu_place
def l422:EL:={fs:=[]}
def a422:AG g422:=(.seq z q1)
theorem o422:FnOk Tryz.prog 422 g422:=fnY tab_ok mixed l422 a422 trivial Tryz.func422
abbrev g421:Fun:=fg [.val (.sl (.int .u8)),.val (.sl (.int .u8))] [.tmp 4 (.bool,.view)] slices_Equal_byte
def l421:EL:={fs:=[]}
def a421:AG g421:=(.seq z (.seq q42 (.seq (.seq z (.loop [.val 0 (.sl (.int .u8)),.val 1 (.sl (.int .u8)),.val 12 (.int .i64),.val 13 (.int .i64)] [] slices_Equal_byte_L0 (.seq z (.seq q3 (.seq (.block (.seq z (.seq (.rg [] (some (.op ⟨[],[]⟩ (.op ⟨[],[]⟩ q82)))) q67))) z))))) q1)))
theorem o421:FnOk Tryz.prog 421 g421:=fnX tab_ok mixed l421 a421 trivial Tryz.func421 (⟨(obw rfl),⟨(obw rfl),⟨⟨(obw rfl),⟨fun _=>rfl,fun n j=>by kernel_rfl,fun n=>(obw rfl)⟩⟩,(obw rfl)⟩⟩⟩)
abbrev g359:Fun:=fg [.val (.sl (.int .u8))] [.tmp 2 ((.int .i64),.view)] iu_Lun
def l359:EL:={fs:=[(422,g422),(421,g421)],ls:=[13]}
def a359:AG g359:=(.seq z (.seq (.seq (.rg [] (some (.op ⟨[],[]⟩ (.op ⟨[],[]⟩ (.op ⟨[],[]⟩ (.op ⟨[],[]⟩ (.split 6 [(14,.bool)] (.op ⟨[],[]⟩ (.op ⟨[],[]⟩ (.op ⟨[],[]⟩ (.op ⟨[],[]⟩ (.op ⟨[],[]⟩ (.op ⟨[192],[192]⟩ (.op ⟨[192,208],[]⟩ q40))))))) .done))))))) q67) q1))
theorem o359:FnOk Tryz.prog 359 g359:=fnY tab_ok mixed l359 a359 ⟨o422,o421,trivial⟩ Tryz.func359
abbrev g262:Fun:=fg [.val (.sl (.int .u8))] [.cell 2 T300,.tmp 3 (.bool,.view)] iu_Manage
def l262:EL:={fs:=[(357,g357),(268,g268),(358,g358),(359,g359)]}
def a262:AG g262:=(.seq z (.seq q42 (.seq (.rg [] (some (.op ⟨[],[]⟩ (.op ⟨[144],[]⟩ (.op ⟨[],[]⟩ (.op ⟨[],[]⟩ (.op ⟨[],[]⟩ (.op ⟨[],[]⟩ (.op ⟨[],[]⟩ (.op ⟨[240],[]⟩ (.op ⟨[],[]⟩ (.op ⟨[],[]⟩ (.op ⟨[288],[]⟩ q18))))))))))))) .leaf)))
theorem o262:FnOk Tryz.prog 262 g262:=fnY tab_ok mixed l262 a262 ⟨o357,o268,o358,o359,trivial⟩ Tryz.func262
abbrev g266:Fun:=fg [.val (.sl (.int .u8))] [.cell 2 T86,.tmp 3 (.bool,.view)] iu_Command
def l266:EL:={fs:=[(357,g357),(268,g268),(359,g359)]}
def a266:AG g266:=(.seq z (.seq (.seq (.rg [] (some (.op ⟨[],[]⟩ (.op ⟨[80],[]⟩ (.op ⟨[],[]⟩ (.op ⟨[],[]⟩ (.split 7 [(12,.bool)] q65 .done))))))) q67) (.seq (.rg [] (some (.op ⟨[],[]⟩ (.op ⟨[240],[]⟩ (.op ⟨[],[]⟩ (.op ⟨[],[]⟩ (.op ⟨[288],[]⟩ q59))))))) (.seq z q1))))
theorem o266:FnOk Tryz.prog 266 g266:=fnY tab_ok mixed l266 a266 ⟨o357,o268,o359,trivial⟩ Tryz.func266
abbrev g473:Fun:=fg [.nils T86,.val (.int .i64)] [.tmp 4 ((.sl T86),.full)] slices_Grow_api_Task
def l473:EL:={fs:=[],cs:=[25]}
def a473:AG g473:=(.seq z (.seq (.seq z q3) (.join [.row 0 T86 .full] (.seq z q4) q1)))
theorem o473:FnOk Tryz.prog 473 g473:=fnY tab_ok mixed l473 a473 trivial Tryz.func473
abbrev g425:Fun:=fg [.val (.sl (.sl T86))] [.tmp 2 ((.sl T86),.full)] slices_Concat_api_Task
def l425:EL:={fs:=[(473,g473)]}
def a425:AG g425:=(.seq z (.seq z (.seq (.seq z (.loop [.val 0 (.sl (.sl T86)),.val 3 (.int .i64),.val 9 (.sl (.sl T86)),.val 10 (.int .i64),.val 11 (.int .i64)] [.val 0 (.sl (.sl T86)),.val 3 (.int .i64)] slices_Concat_api_Task_L0 q53)) (.seq z (.seq (.seq z (.loop [.row 6 T86 .full,.val 25 (.sl (.sl T86)),.val 26 (.int .i64),.val 27 (.int .i64)] [.row 6 T86 .full] slices_Concat_api_Task_L1 q47)) q1)))))
theorem o425:FnOk Tryz.prog 425 g425:=fnX tab_ok mixed l425 a425 ⟨o473,trivial⟩ Tryz.func425 (⟨(obw rfl),⟨(obw rfl),⟨⟨(obw rfl),⟨fun _=>rfl,fun n j=>by kernel_rfl,fun n=>(obw rfl)⟩⟩,⟨(obw rfl),⟨⟨(obw rfl),⟨fun _=>rfl,fun n j=>by kernel_rfl,fun n=>(obw rfl)⟩⟩,(obw rfl)⟩⟩⟩⟩⟩)
abbrev g265:Fun:=fg [.val (.int .i64),.val (.int .i64)] [.cell 4 T57] iu_Response
def l265:EL:={fs:=[(366,g366)]}
def a265:AG g265:=(.seq z q1)
theorem o265:FnOk Tryz.prog 265 g265:=fnY tab_ok mixed l265 a265 ⟨o366,trivial⟩ Tryz.func265
abbrev g361:Fun:=fg [.val (.sl T86)] [.tmp 2 ((.sl (.int .i64)),.full)] tags_Tags
def l361:EL:={fs:=[]}
def a361:AG g361:=(.seq z (.seq z (.seq (.seq z (.loop [.row 3 (.int .i64) .full,.val 6 (.sl T86),.val 7 (.int .i64),.val 8 (.int .i64)] [.row 3 (.int .i64) .full] tags_Tags_L0 q47)) q1)))
theorem o361:FnOk Tryz.prog 361 g361:=fnX tab_ok mixed l361 a361 trivial Tryz.func361 (⟨(obw rfl),⟨(obw rfl),⟨⟨(obw rfl),⟨fun _=>rfl,fun n j=>by kernel_rfl,fun n=>(obw rfl)⟩⟩,(obw rfl)⟩⟩⟩)
abbrev g412:Fun:=fg [.val (.int .i64),.val (.int .i64)] [.cell 4 T57] iu_Ready
def l412:EL:={fs:=[(366,g366)]}
def a412:AG g412:=q69
theorem o412:FnOk Tryz.prog 412 g412:=fnY tab_ok mixed l412 a412 ⟨o366,trivial⟩ Tryz.func412
abbrev g167:Fun:=fg [.val T49,.val (.sl T102),.val T22,.val (.sl (.int .u8))] [.cell 8 T49,.tmp 9 ((.sl T102),.view)] uas_Take
def l167:EL:={fs:=[(340,g340),(341,g341),(262,g262),(266,g266),(347,g347),(259,g259),(425,g425),(265,g265),(361,g361),(342,g342),(268,g268),(136,g136),(402,g402),(335,g335),(403,g403),(137,g137),(458,g458),(459,g459),(460,g460),(412,g412)],bs:=[(85,Tryz.f85),(254,Tryz.f254),(255,Tryz.f255),(256,Tryz.f256),(264,Tryz.f264),(267,Tryz.f267),(332,Tryz.f332),(343,Tryz.f343),(344,Tryz.f344),(367,Tryz.f367),(405,Tryz.f405),(406,Tryz.f406)],cs:=[588],ws:=[581,587],os:=[81,359,360,361,508],rs:=[578],ls:=[175,372,446,481],vb:=[79,93,281,363,432],vg:=[89,92],sa:=[301],vl:=[142],dd:=[569]}
def a167:AG g167:=(.seq z (.seq (.reg (.oin 3 254 0 none (.seq z (.seq (.rg [] (some (.op ⟨[1264],[]⟩ (.op ⟨[1264],[]⟩ (.op ⟨[1360],[1360]⟩ (.op ⟨[1264],[]⟩ (.op ⟨[1264],[]⟩ (.op ⟨[1408],[1408]⟩ (.op ⟨[1360,1408],[]⟩ (.op ⟨[],[]⟩ (.op ⟨[],[]⟩ (.op ⟨[],[]⟩ (.op ⟨[1488],[1488]⟩ q40))))))))))))) .leaf)) (.ofin none))) (.join q36 (.seq z (.seq z (.cond (.seq z q20) (.seq z (.seq z (.cond (.reg (.oin 2 267 18 none (.seq z (.seq (.reg (.oin 11 367 0 (some ([],(.op ⟨[],[]⟩ (.op ⟨[1488],[]⟩ (.op ⟨[1488],[]⟩ (.op ⟨[1488],[]⟩ (.op ⟨[1488],[]⟩ (.op ⟨[1552],[]⟩ (.op ⟨[],[]⟩ (.op ⟨[1488],[]⟩ (.op ⟨[1488],[]⟩ (.op ⟨[1488],[]⟩ (.op ⟨[1488],[]⟩ .done))))))))))))) (.seq z (.seq (.block (.seq z (.cond q1 q73))) q1)) (.ofin (some ([],q65))))) (.seq z (.block (.seq z (.cond z (.seq z (.cond (.reg (.oin 4 264 33 none (.seq z (.rg [] (some (.op ⟨[],[]⟩ (.op ⟨[],[]⟩ (.op ⟨[1488],[]⟩ (.op ⟨[1488],[]⟩ (.op ⟨[1488],[]⟩ (.op ⟨[1488],[]⟩ (.op ⟨[3088],[]⟩ (.op ⟨[3216],[3216]⟩ (.op ⟨[1408,3216,3232],[1408,3232]⟩ (.op ⟨[1488],[]⟩ (.op ⟨[1488],[]⟩ (.op ⟨[1488],[]⟩ (.op ⟨[1488,3232],[1488]⟩ .done)))))))))))))))) (.ofin none))) (.seq z (.cond q20 (.reg (.oin 5 264 49 none (.seq z (.rg [] (some (.op ⟨[],[]⟩ (.op ⟨[],[]⟩ (.op ⟨[1488],[]⟩ (.op ⟨[1488],[]⟩ (.op ⟨[1488],[]⟩ (.op ⟨[1488],[]⟩ (.op ⟨[3344],[]⟩ (.op ⟨[3472],[3472]⟩ (.op ⟨[1408,3472,3488],[1408,3488]⟩ (.op ⟨[1488],[]⟩ (.op ⟨[1488],[]⟩ (.op ⟨[1488],[]⟩ (.op ⟨[1488,3488],[1488]⟩ .done)))))))))))))))) (.ofin none))))))))))))) (.ofin none))) (.reg (.oin 4 264 146 none (.seq z (.rg [] (some (.op ⟨[],[]⟩ (.op ⟨[],[]⟩ (.op ⟨[1488],[]⟩ (.op ⟨[1488],[]⟩ (.op ⟨[1488],[]⟩ (.op ⟨[1488],[]⟩ (.op ⟨[3600],[]⟩ (.op ⟨[3728],[3728]⟩ (.op ⟨[1408,3728,3744],[1408,3744]⟩ (.op ⟨[1488],[]⟩ (.op ⟨[1488],[]⟩ (.op ⟨[1488],[]⟩ (.op ⟨[1488,3744],[1488]⟩ .done)))))))))))))))) (.ofin none))))))))) (.seq (.reg (.oin 1 256 162 none (.seq z (.loop [.box 8 T49,.vbx 10 T288 [([.fst,.fst],T86),([.fst,.snd,.fst],T57)],.ali 238 10,.val 240 (.int .i64)] q36 uas_Take_L0 (.seq (.seq (.rg [] (some (.op ⟨[],[]⟩ (.op ⟨[],[]⟩ (.op ⟨[160],[]⟩ (.op ⟨[160],[]⟩ (.op ⟨[160],[]⟩ (.op ⟨[160],[]⟩ (.op ⟨[162],[]⟩ (.op ⟨[],[]⟩ (.op ⟨[],[]⟩ (.split 249 [(259,.bool)] (.op ⟨[],[]⟩ (.op ⟨[160],[]⟩ (.op ⟨[160],[]⟩ (.op ⟨[160],[]⟩ (.op ⟨[160],[]⟩ (.op ⟨[],[]⟩ (.split 255 [(258,.bool)] q41 q40))))))) .done)))))))))))) q3) (.block (.seq q42 (.reg (.oin 2 344 0 none (.seq z (.join [.box 8 T49,.vbx 10 T288 [([.fst,.fst],T86),([.fst,.snd,.fst],T57)],.ali 238 10,.ali 275 10,.val 276 (.int .i64),.val 280 (.sl T102),.vbx 281 T126 [],.vel 279 10 0 [.fst,.fst] [] none] (.oalt 12 332 0 [] [([0,1,2,3,4,5,6,7,8,9,10,11],(.op ⟨[],[]⟩ (.op ⟨[160],[]⟩ (.op ⟨[160],[]⟩ (.op ⟨[160],[]⟩ (.op ⟨[],[]⟩ (.op ⟨[162],[]⟩ (.op ⟨[162],[]⟩ (.op ⟨[162],[]⟩ (.op ⟨[],[]⟩ (.op ⟨[162],[]⟩ (.op ⟨[162],[]⟩ (.op ⟨[162],[]⟩ .done)))))))))))),[13,14,15,16,17,18],[],(.op ⟨[],[]⟩ (.op ⟨[],[]⟩ (.op ⟨[],[]⟩ (.op ⟨[4496],[4496]⟩ (.op ⟨[],[]⟩ q37)))))),([0,1,2,3,4,5,6,7,8,9,10,11,16],(.op ⟨[],[]⟩ (.op ⟨[160],[]⟩ (.op ⟨[160],[]⟩ (.op ⟨[160],[]⟩ (.op ⟨[],[]⟩ (.op ⟨[162],[]⟩ (.op ⟨[162],[]⟩ (.op ⟨[162],[]⟩ (.op ⟨[],[]⟩ (.op ⟨[162],[]⟩ (.op ⟨[162],[]⟩ (.op ⟨[162],[]⟩ q37)))))))))))),[13,14,15,17,18],[],(.op ⟨[],[]⟩ (.op ⟨[],[]⟩ (.op ⟨[],[]⟩ (.op ⟨[],[]⟩ q37)))))] (.seq z (.seq (.seq z (.cond (.seq z (.seq (.seq z (.cond (.seq (.rg [] (some (.op ⟨[],[]⟩ (.op ⟨[5840],[]⟩ (.op ⟨[6080],[]⟩ q63))))) .leaf) .leaf)) q20)) .leaf)) (.join [.box 8 T49,.vbx 10 T288 [([.fst,.fst],T86),([.fst,.snd,.fst],T57)],.ali 238 10,.ali 275 10,.val 362 (.sl T102),.vbx 363 T126 [],.zbx 281 T126,.vel 279 10 0 [.fst,.fst] [] none] (.reg (.oin 3 85 0 none (.seq z (.seq q42 (.seq z (.join [.box 8 T49,.vbx 10 T288 [([.fst,.fst],T86),([.fst,.snd,.fst],T57)],.ali 238 10,.ali 275 10,.vbx 363 T126 [],.row 392 T102 .full,.zbx 281 T126,.vel 279 10 0 [.fst,.fst] [] none] (.reg (.oin 4 405 0 none (.reg (.oin 5 406 0 none (.seq z (.seq (.seq (.rg [] (some (.op ⟨[],[]⟩ (.op ⟨[6480],[]⟩ (.op ⟨[6480],[]⟩ (.op ⟨[6480],[]⟩ (.op ⟨[],[]⟩ (.op ⟨[],[]⟩ (.op ⟨[],[]⟩ (.split 444 [(448,.bool)] (.op ⟨[],[]⟩ (.op ⟨[162,7136],[]⟩ q0)) .done)))))))))) (.cond (.seq z q49) .leaf)) (.seq (.seq (.rg [] (some (.op ⟨[],[]⟩ (.op ⟨[],[]⟩ (.op ⟨[],[]⟩ (.op ⟨[],[]⟩ (.split 469 [(474,.bool)] (.op ⟨[],[]⟩ (.op ⟨[162],[]⟩ (.op ⟨[162],[]⟩ q0))) .done))))))) q48) (.seq z (.seq q42 (.seq (.rg [] (some (.op ⟨[],[]⟩ (.op ⟨[6480],[]⟩ (.op ⟨[6480],[]⟩ (.op ⟨[],[]⟩ (.op ⟨[],[]⟩ (.op ⟨[6944],[]⟩ (.op ⟨[7936,7937],[]⟩ (.op ⟨[],[]⟩ (.op ⟨[],[]⟩ (.op ⟨[],[]⟩ (.op ⟨[6976],[6976]⟩ (.op ⟨[6992],[6992]⟩ (.op ⟨[6976],[6976]⟩ (.op ⟨[6992],[6992]⟩ .done)))))))))))))))) (.seq z q1))))))) (.ofin none))) (.ofin none))) q1)))) (.ofin none))) (.seq (.rg [] (some (.op ⟨[],[]⟩ (.op ⟨[5808],[]⟩ q63)))) .leaf))))) (.seq z (.seq (.seq z (.cond (.seq (.reg (.oin 4 255 147 none (.seq z (.seq z (.join [.box 8 T49,.vbx 10 T288 [([.fst,.fst],T86),([.fst,.snd,.fst],T57)],.ali 238 10,.ali 503 10,.val 504 (.int .i64),.rpt 508 T41,.val 509 (.int .i64)] q4 (.seq (.reg (.oin 13 264 0 (some ([],(.op ⟨[],[]⟩ (.op ⟨[],[]⟩ (.op ⟨[160],[]⟩ (.op ⟨[160],[]⟩ (.op ⟨[160],[]⟩ (.op ⟨[160],[]⟩ (.op ⟨[],[]⟩ (.op ⟨[162],[]⟩ (.op ⟨[162],[]⟩ (.op ⟨[162],[]⟩ (.op ⟨[],[]⟩ (.op ⟨[],[]⟩ (.op ⟨[8400],[]⟩ .done))))))))))))))) (.seq z (.rg [] (some (.op ⟨[],[]⟩ (.op ⟨[],[]⟩ (.op ⟨[160],[]⟩ (.op ⟨[160],[]⟩ (.op ⟨[160],[]⟩ (.op ⟨[160],[]⟩ (.op ⟨[8688],[]⟩ (.op ⟨[8816],[8816]⟩ (.op ⟨[163,8816,8832],[163,8832]⟩ (.op ⟨[160],[]⟩ (.op ⟨[160],[]⟩ (.op ⟨[160],[]⟩ (.op ⟨[160,8832],[160]⟩ .done)))))))))))))))) q38)) (.reg (.oin 9 343 16 none (.seq z (.seq z (.seq q42 (.seq z (.seq (.rg [] (some (.op ⟨[],[]⟩ (.op ⟨[],[]⟩ (.op ⟨[162],[]⟩ (.op ⟨[],[]⟩ (.op ⟨[],[]⟩ (.op ⟨[162],[]⟩ (.op ⟨[162],[162]⟩ q40))))))))) (.seq z q1)))))) (.ofin none))))))) (.ofin none))) .leaf) .leaf)) (.seq (.rg [] (some (.op ⟨[],[]⟩ (.op ⟨[],[]⟩ (.op ⟨[4496],[]⟩ (.op ⟨[4496],[]⟩ (.op ⟨[4496],[]⟩ (.op ⟨[4496],[]⟩ (.op ⟨[162],[]⟩ (.op ⟨[162],[]⟩ (.op ⟨[162],[162]⟩ (.op ⟨[162],[]⟩ (.op ⟨[162],[]⟩ (.op ⟨[162],[162]⟩ .done)))))))))))))) (.block (.seq z (.cond (.seq z (.reg (.oin 8 264 233 (some ([],(.op ⟨[],[]⟩ (.op ⟨[],[]⟩ (.op ⟨[162],[]⟩ (.op ⟨[162],[]⟩ (.op ⟨[162],[]⟩ (.op ⟨[4496],[]⟩ (.op ⟨[4496],[]⟩ (.op ⟨[5552],[]⟩ .done)))))))))) (.seq z (.rg [] (some (.op ⟨[],[]⟩ (.op ⟨[],[]⟩ (.op ⟨[160],[]⟩ (.op ⟨[160],[]⟩ (.op ⟨[160],[]⟩ (.op ⟨[160],[]⟩ (.op ⟨[9472],[]⟩ (.op ⟨[9600],[9600]⟩ (.op ⟨[163,9600,9616],[163,9616]⟩ (.op ⟨[160],[]⟩ (.op ⟨[160],[]⟩ (.op ⟨[160],[]⟩ (.op ⟨[160,9616],[160]⟩ .done)))))))))))))))) q38))) (.seq z (.cond z z)))))))))) (.ofin none)))))))) (.ofin none))) (.seq (.rg [162,163] (some (.op ⟨[],[]⟩ (.op ⟨[160],[]⟩ (.op ⟨[160],[]⟩ (.op ⟨[160],[]⟩ (.op ⟨[],[]⟩ (.op ⟨[160],[]⟩ (.op ⟨[160],[]⟩ (.op ⟨[160],[]⟩ (.op ⟨[128,162,163],[128]⟩ q40))))))))))) .leaf)))))
theorem o167:FnOk Tryz.prog 167 g167:=fnX tab_ok mixed l167 a167 ⟨o340,o341,o262,o266,o347,o259,o425,o265,o361,o342,o268,o136,o402,o335,o403,o137,o458,o459,o460,o412,trivial⟩ Tryz.func167 (⟨(obw rfl),⟨(obw rfl),⟨fun _=>(obw rfl),⟨⟨fun _=>⟨(obw rfl),⟨fun _=>rfl,fun n j=>by kernel_rfl,fun n=>(obw rfl)⟩⟩,trivial⟩,(obw rfl)⟩⟩⟩⟩) (hB:=⟨Tryz.func85,Tryz.func254,Tryz.func255,Tryz.func256,Tryz.func264,Tryz.func267,Tryz.func332,Tryz.func343,Tryz.func344,Tryz.func367,Tryz.func405,Tryz.func406,trivial⟩)
abbrev g15:Fun:=fg [.val T51,.val T61] [.cell 4 T51,.cell 5 T57] gadget_Step
def l15:EL:={fs:=[(32,g32),(37,g37),(38,g38),(41,g41),(40,g40),(44,g44),(45,g45),(226,g226),(228,g228),(227,g227),(229,g229),(324,g324),(325,g325),(326,g326),(143,g143),(144,g144),(145,g145),(97,g97),(148,g148),(238,g238),(150,g150),(245,g245),(152,g152),(249,g249),(155,g155),(156,g156),(158,g158),(159,g159),(161,g161),(162,g162),(164,g164),(165,g165),(167,g167)],bs:=[(39,Tryz.f39),(46,Tryz.f46),(82,Tryz.f82),(96,Tryz.f96),(98,Tryz.f98),(99,Tryz.f99),(142,Tryz.f142),(147,Tryz.f147),(149,Tryz.f149),(151,Tryz.f151),(153,Tryz.f153),(154,Tryz.f154),(157,Tryz.f157),(160,Tryz.f160),(163,Tryz.f163),(166,Tryz.f166),(230,Tryz.f230)],os:=[368,462,710],ps:=[110],ls:=[209,341],vb:=[21,183,245,309,463,501,611,711,799,871,929,1000],vg:=[20,197,211,327,364],pes:=[(239,((.pair T51 (.pair T61 .unit)),[.fst,.snd,.snd,.snd,.snd,.fst],T114))]}
def a15:AG g15:=(.seq z (.seq (.seq (.rg [] (some (.op ⟨[32],[]⟩ (.op ⟨[144],[]⟩ (.op ⟨[],[]⟩ (.op ⟨[],[]⟩ (.split 11 [(15,.bool)] (.op ⟨[48],[]⟩ (.op ⟨[208],[]⟩ q0)) .done))))))) q67) (.seq z (.seq z (.join [.box 4 T51,.box 5 T57,.vbx 6 T111 [([.fst,.snd,.snd,.snd,.snd,.fst],T114)]] (.seq z (.block (.seq z (.cond (.seq (.reg (.oin 1 39 0 none (.seq z q32) (.ofin none))) (.rg [] (some (.op ⟨[],[]⟩ (.op ⟨[],[]⟩ (.op ⟨[336],[]⟩ (.op ⟨[336],[]⟩ (.op ⟨[336],[]⟩ (.op ⟨[336],[]⟩ (.op ⟨[768],[]⟩ (.op ⟨[784],[]⟩ q13))))))))))) (.seq z (.cond (.seq (.reg (.oin 1 39 31 none (.seq z q32) (.ofin none))) .leaf) (.seq z (.cond .leaf (.seq z (.cond (.rg [] (some (.op ⟨[],[]⟩ (.op ⟨[],[]⟩ (.op ⟨[336],[]⟩ (.op ⟨[336],[]⟩ (.op ⟨[336],[]⟩ (.op ⟨[336],[]⟩ (.op ⟨[48],[]⟩ (.op ⟨[48],[]⟩ (.op ⟨[1488],[]⟩ q13))))))))))) (.seq z (.cond (.rg [] (some (.op ⟨[],[]⟩ (.op ⟨[],[]⟩ (.op ⟨[336],[]⟩ (.op ⟨[336],[]⟩ (.op ⟨[336],[]⟩ (.op ⟨[336],[]⟩ (.op ⟨[48],[]⟩ (.op ⟨[48],[]⟩ (.op ⟨[48],[]⟩ (.op ⟨[48],[]⟩ (.op ⟨[],[]⟩ (.op ⟨[1760],[]⟩ q13)))))))))))))) (.join [.box 4 T51,.box 5 T57,.vbx 6 T111 [([.fst,.snd,.snd,.snd,.snd,.fst],T114)],.box 7 T57] (.reg (.oin 1 46 62 none (.seq z (.seq (.block (.seq (.rg [] (some (.op ⟨[],[]⟩ (.op ⟨[336],[]⟩ (.op ⟨[336],[]⟩ (.op ⟨[336],[]⟩ (.op ⟨[336],[]⟩ q50))))))) (.cond q1 (.seq z (.cond (.seq (.reg (.oin 1 96 0 none (.seq z (.seq (.seq z (.block (.seq z (.cond (.seq (.reg (.oin 1 142 0 none (.seq z (.seq z (.seq q42 (.seq (.rg [] (some (.op ⟨[],[]⟩ (.op ⟨[336],[]⟩ (.op ⟨[336],[]⟩ (.op ⟨[336],[]⟩ (.op ⟨[336],[]⟩ (.op ⟨[],[]⟩ (.op ⟨[336],[]⟩ (.op ⟨[336],[]⟩ (.op ⟨[336],[]⟩ (.op ⟨[336],[]⟩ (.op ⟨[],[]⟩ (.op ⟨[],[]⟩ (.op ⟨[336,400,5456],[]⟩ (.op ⟨[4960],[]⟩ (.op ⟨[5488,5489,5490,5491],[5490]⟩ (.op ⟨[],[]⟩ (.op ⟨[],[]⟩ (.op ⟨[],[]⟩ (.op ⟨[],[]⟩ (.op ⟨[],[]⟩ (.op ⟨[4992],[4992]⟩ (.op ⟨[5008],[5008]⟩ (.op ⟨[4992],[4992]⟩ (.op ⟨[5008],[5008]⟩ q0)))))))))))))))))))))))))) (.seq (.rg [5490] (some (.op ⟨[],[]⟩ (.op ⟨[],[]⟩ (.op ⟨[4992],[]⟩ (.op ⟨[4960],[]⟩ (.op ⟨[],[]⟩ (.op ⟨[],[]⟩ (.op ⟨[5490,5664],[]⟩ (.op ⟨[336],[]⟩ (.op ⟨[336],[]⟩ (.op ⟨[336],[]⟩ (.op ⟨[336],[336]⟩ q13))))))))))))) (.join q24 (.reg (.oin 2 230 0 none (.seq z (.seq z (.block (.seq z (.cond (.seq (.rg [] (some (.op ⟨[],[]⟩ (.op ⟨[336],[]⟩ (.op ⟨[336],[]⟩ (.op ⟨[336],[]⟩ (.op ⟨[336],[]⟩ (.op ⟨[336],[]⟩ (.op ⟨[],[]⟩ (.op ⟨[],[]⟩ (.split 382 [(391,.bool)] (.op ⟨[],[]⟩ (.op ⟨[],[]⟩ (.op ⟨[],[]⟩ (.op ⟨[],[]⟩ (.split 386 [(390,.bool)] q83 q40))))) .done))))))))))) (.cond (.rg [] (some (.op ⟨[],[]⟩ (.op ⟨[],[]⟩ (.op ⟨[],[]⟩ (.op ⟨[336,400],[]⟩ (.op ⟨[],[]⟩ (.op ⟨[],[]⟩ (.op ⟨[],[]⟩ (.op ⟨[336,400],[]⟩ (.op ⟨[400],[]⟩ (.op ⟨[400],[]⟩ (.op ⟨[6432],[]⟩ q62))))))))))))) .leaf)) (.seq z (.cond (.rg [] (some (.op ⟨[],[]⟩ (.op ⟨[],[]⟩ (.op ⟨[],[]⟩ (.op ⟨[336,400],[]⟩ (.op ⟨[],[]⟩ (.op ⟨[],[]⟩ (.op ⟨[],[]⟩ (.op ⟨[336,400],[]⟩ (.op ⟨[400],[]⟩ (.op ⟨[400],[]⟩ (.op ⟨[6656],[]⟩ q62))))))))))))) (.seq z (.cond q32 (.seq z (.cond (.seq z (.seq z (.loop [.box 4 T51,.box 5 T57,.vbx 6 T111 [([.fst,.snd,.snd,.snd,.snd,.fst],T114)],.vbx 183 T57 [],.vbx 245 T57 [],.vbx 309 T57 [],.ali 365 6,.val 429 (.arr 2 (.int .i64)),.val 430 (.int .i64)] q24 gadget_Step_L0 q47))) .leaf))))))))))) (.ofin none))) q1)))))) (.ofin none))) .leaf) (.seq z (.cond (.seq (.rg [] (some (.op ⟨[],[]⟩ (.op ⟨[],[]⟩ (.op ⟨[336],[]⟩ (.op ⟨[336],[]⟩ (.op ⟨[336],[]⟩ (.op ⟨[336],[]⟩ (.op ⟨[],[]⟩ (.op ⟨[336],[]⟩ (.op ⟨[336],[]⟩ (.op ⟨[336],[]⟩ (.op ⟨[4304,4305],[]⟩ (.op ⟨[],[]⟩ (.op ⟨[],[]⟩ (.op ⟨[],[]⟩ (.op ⟨[336],[]⟩ (.op ⟨[336],[]⟩ (.op ⟨[336],[]⟩ (.op ⟨[336],[336]⟩ (.op ⟨[3920],[3920]⟩ .done))))))))))))))))))))) q1) .leaf)))))) (.seq z (.join [.box 4 T51,.box 5 T57,.vbx 6 T111 [([.fst,.snd,.snd,.snd,.snd,.fst],T114)],.vbx 183 T57 [],.vbx 245 T57 []] (.seq (.rg [] (some (.op ⟨[],[]⟩ (.op ⟨[],[]⟩ (.op ⟨[336],[]⟩ (.op ⟨[336],[]⟩ (.op ⟨[336],[]⟩ (.op ⟨[336],[]⟩ (.op ⟨[],[]⟩ (.op ⟨[336],[]⟩ (.op ⟨[336],[]⟩ (.op ⟨[336],[]⟩ (.op ⟨[336],[]⟩ (.op ⟨[4608,4609,4610],[]⟩ (.op ⟨[],[]⟩ (.op ⟨[],[]⟩ (.op ⟨[],[]⟩ (.op ⟨[],[]⟩ (.op ⟨[336],[]⟩ (.op ⟨[336],[]⟩ (.op ⟨[336],[]⟩ (.op ⟨[336],[336]⟩ (.op ⟨[3920],[3920]⟩ q40))))))))))))))))))))))) q4) q1)))) (.ofin none))) .leaf) q42))))) (.join [.box 4 T51,.box 5 T57,.vbx 6 T111 [([.fst,.snd,.snd,.snd,.snd,.fst],T114)],.ali 181 6,.vbx 183 T57 []] (.seq (.rg [] (some (.op ⟨[],[]⟩ (.op ⟨[336],[]⟩ (.op ⟨[336],[]⟩ (.op ⟨[336],[]⟩ (.op ⟨[336],[]⟩ (.op ⟨[336],[]⟩ (.op ⟨[],[]⟩ (.op ⟨[],[]⟩ (.split 219 [(227,.bool)] q50 .done))))))))))) q48) (.seq (.seq z (.cond (.seq (.reg (.oin 1 98 218 none (.seq z (.seq (.seq z (.cond (.seq (.reg (.oin 8 147 0 (some ([],(.op ⟨[],[]⟩ (.op ⟨[],[]⟩ (.op ⟨[96],[]⟩ (.op ⟨[96],[]⟩ (.op ⟨[96],[]⟩ (.op ⟨[96],[]⟩ (.op ⟨[7648],[]⟩ q40))))))))) (.seq z (.seq (.rg [] (some (.op ⟨[],[]⟩ (.op ⟨[],[]⟩ (.op ⟨[96],[]⟩ (.op ⟨[96],[]⟩ (.op ⟨[96],[]⟩ (.op ⟨[96],[]⟩ (.op ⟨[96,98],[]⟩ (.op ⟨[98],[]⟩ (.op ⟨[98],[]⟩ (.op ⟨[],[]⟩ (.op ⟨[96],[]⟩ (.op ⟨[96],[]⟩ (.op ⟨[96],[]⟩ (.op ⟨[],[]⟩ (.op ⟨[8320,8321,8322],[]⟩ (.op ⟨[],[]⟩ (.op ⟨[],[]⟩ (.op ⟨[],[]⟩ (.op ⟨[],[]⟩ (.op ⟨[8032],[8032]⟩ (.op ⟨[8048],[8048]⟩ (.op ⟨[8032],[8032]⟩ (.op ⟨[8048],[8048]⟩ q40))))))))))))))))))))))))) (.seq (.rg [] (some (.op ⟨[],[]⟩ (.op ⟨[],[]⟩ (.op ⟨[96],[]⟩ (.op ⟨[96],[]⟩ (.op ⟨[96],[]⟩ (.op ⟨[96],[]⟩ (.op ⟨[96,98],[]⟩ (.op ⟨[8032],[]⟩ q19)))))))))) (.join [.box 4 T51,.box 5 T57,.vbx 6 T111 [([.fst,.snd,.snd,.snd,.snd,.fst],T114)],.vbx 183 T57 [],.vbx 463 T57 [],.vbx 501 T57 [],.box 503 T57] (.seq z (.cond (.reg (.oin 1 149 0 none (.seq (.rg [] (some (.op ⟨[],[]⟩ (.op ⟨[],[]⟩ (.op ⟨[],[]⟩ (.op ⟨[96],[]⟩ (.op ⟨[96],[]⟩ (.op ⟨[96],[]⟩ (.op ⟨[96],[]⟩ (.op ⟨[],[]⟩ (.op ⟨[96],[]⟩ (.op ⟨[96],[]⟩ (.op ⟨[96],[]⟩ (.op ⟨[96],[]⟩ (.op ⟨[],[]⟩ (.op ⟨[96],[]⟩ (.op ⟨[96],[]⟩ (.op ⟨[96],[]⟩ (.op ⟨[96],[]⟩ (.op ⟨[],[]⟩ (.op ⟨[96],[]⟩ (.op ⟨[96],[]⟩ (.op ⟨[96],[]⟩ (.op ⟨[96],[]⟩ (.op ⟨[96],[]⟩ (.op ⟨[8992,8993],[]⟩ q2)))))))))))))))))))))))))) (.reg (.oin 1 151 0 none (.join [.box 4 T51,.box 5 T57,.vbx 6 T111 [([.fst,.snd,.snd,.snd,.snd,.fst],T114)],.vbx 183 T57 [],.vbx 463 T57 [],.vbx 501 T57 [],.box 503 T57,.ali 573 6] q4 q4) (.ofin none)))) (.ofin none))) .leaf)) q1)))) (.ofin (some ([],(.op ⟨[7408],[7408]⟩ .done)))))) .leaf) .leaf)) (.seq z (.seq (.reg (.oin 4 153 108 none (.seq z (.seq (.rg [7792] (some (.op ⟨[],[]⟩ (.op ⟨[],[]⟩ (.op ⟨[96],[]⟩ (.op ⟨[96],[]⟩ (.op ⟨[96],[]⟩ (.op ⟨[96],[]⟩ (.op ⟨[96,98],[]⟩ (.op ⟨[98],[]⟩ (.op ⟨[98],[]⟩ (.op ⟨[],[]⟩ (.op ⟨[96],[]⟩ (.op ⟨[96],[]⟩ (.op ⟨[96],[]⟩ (.op ⟨[],[]⟩ (.op ⟨[],[]⟩ (.op ⟨[7792,10096,10097,10098],[]⟩ (.op ⟨[],[]⟩ (.op ⟨[],[]⟩ (.op ⟨[],[]⟩ (.op ⟨[],[]⟩ (.op ⟨[9792],[9792]⟩ (.op ⟨[9808],[9808]⟩ (.op ⟨[9792],[9792]⟩ (.op ⟨[9808],[9808]⟩ q40)))))))))))))))))))))))))) (.seq (.rg [] (some (.op ⟨[],[]⟩ (.op ⟨[],[]⟩ (.op ⟨[96],[]⟩ (.op ⟨[96],[]⟩ (.op ⟨[96],[]⟩ (.op ⟨[96],[]⟩ (.op ⟨[96,98],[]⟩ (.op ⟨[9792],[]⟩ q19)))))))))) (.join [.box 4 T51,.box 5 T57,.vbx 6 T111 [([.fst,.snd,.snd,.snd,.snd,.fst],T114)],.vbx 183 T57 [],.vbx 463 T57 [],.vbx 611 T57 [],.box 613 T57] (.seq z (.cond (.reg (.oin 1 154 0 none (.seq (.rg [] (some (.op ⟨[],[]⟩ (.op ⟨[],[]⟩ (.op ⟨[],[]⟩ (.op ⟨[96],[]⟩ (.op ⟨[96],[]⟩ (.op ⟨[96],[]⟩ (.op ⟨[96],[]⟩ (.op ⟨[],[]⟩ (.op ⟨[96],[]⟩ (.op ⟨[96],[]⟩ (.op ⟨[96],[]⟩ (.op ⟨[96],[]⟩ (.op ⟨[],[]⟩ (.op ⟨[96],[]⟩ (.op ⟨[96],[]⟩ (.op ⟨[96],[]⟩ (.op ⟨[96],[]⟩ (.op ⟨[96],[]⟩ (.op ⟨[10688,10689],[]⟩ q2))))))))))))))))))))) (.reg (.oin 1 151 0 none (.join [.box 4 T51,.box 5 T57,.vbx 6 T111 [([.fst,.snd,.snd,.snd,.snd,.fst],T114)],.vbx 183 T57 [],.vbx 463 T57 [],.vbx 611 T57 [],.box 613 T57,.ali 679 6] q4 q4) (.ofin none)))) (.ofin none))) .leaf)) q1)))) (.ofin none))) .leaf)))) (.ofin none))) .leaf) .leaf)) (.seq (.reg (.oin 1 99 466 none (.seq z (.seq (.rg [] (some (.op ⟨[],[]⟩ (.op ⟨[96],[]⟩ (.op ⟨[96],[]⟩ (.op ⟨[96],[]⟩ (.op ⟨[96],[]⟩ (.op ⟨[],[]⟩ (.op ⟨[96],[]⟩ (.op ⟨[96],[]⟩ (.op ⟨[96],[]⟩ (.op ⟨[96],[]⟩ (.op ⟨[11392],[11392]⟩ (.op ⟨[11408],[11408]⟩ (.op ⟨[11392],[11392]⟩ (.op ⟨[11408],[11408]⟩ .done)))))))))))))))) (.seq (.seq z (.block (.seq z (.cond (.seq (.rg [] (some (.op ⟨[],[]⟩ (.op ⟨[96],[]⟩ (.op ⟨[96],[]⟩ (.op ⟨[96],[]⟩ (.op ⟨[96],[]⟩ (.op ⟨[11392],[]⟩ (.op ⟨[11408],[]⟩ (.op ⟨[11888,11889],[11888]⟩ q65)))))))))) (.seq (.reg (.oin 4 153 0 none (.seq z (.seq (.rg [11888] (some (.op ⟨[],[]⟩ (.op ⟨[],[]⟩ (.op ⟨[96],[]⟩ (.op ⟨[96],[]⟩ (.op ⟨[96],[]⟩ (.op ⟨[96],[]⟩ (.op ⟨[96,98],[]⟩ (.op ⟨[98],[]⟩ (.op ⟨[98],[]⟩ (.op ⟨[],[]⟩ (.op ⟨[96],[]⟩ (.op ⟨[96],[]⟩ (.op ⟨[96],[]⟩ (.op ⟨[],[]⟩ (.op ⟨[],[]⟩ (.op ⟨[11888,13104,13105,13106],[]⟩ (.op ⟨[],[]⟩ (.op ⟨[],[]⟩ (.op ⟨[],[]⟩ (.op ⟨[],[]⟩ (.op ⟨[12800],[12800]⟩ (.op ⟨[12816],[12816]⟩ (.op ⟨[12800],[12800]⟩ (.op ⟨[12816],[12816]⟩ q40)))))))))))))))))))))))))) (.seq (.rg [] (some (.op ⟨[],[]⟩ (.op ⟨[],[]⟩ (.op ⟨[96],[]⟩ (.op ⟨[96],[]⟩ (.op ⟨[96],[]⟩ (.op ⟨[96],[]⟩ (.op ⟨[96,98],[]⟩ (.op ⟨[12800],[]⟩ q19)))))))))) (.join [.box 4 T51,.box 5 T57,.vbx 6 T111 [([.fst,.snd,.snd,.snd,.snd,.fst],T114)],.vbx 183 T57 [],.vbx 711 T57 [],.vbx 799 T57 [],.box 801 T57] (.seq z (.cond (.reg (.oin 1 157 0 none (.rg [] (some (.op ⟨[],[]⟩ (.op ⟨[],[]⟩ (.op ⟨[],[]⟩ (.op ⟨[96],[]⟩ (.op ⟨[96],[]⟩ (.op ⟨[96],[]⟩ (.op ⟨[96],[]⟩ (.op ⟨[],[]⟩ (.op ⟨[96],[]⟩ (.op ⟨[96],[]⟩ (.op ⟨[96],[]⟩ (.op ⟨[96],[]⟩ (.op ⟨[11392],[]⟩ (.op ⟨[11408],[]⟩ (.op ⟨[13664,13665],[]⟩ q2))))))))))))))))) (.ofin none))) .leaf)) q1)))) (.ofin none))) .leaf)) (.seq z (.cond (.seq (.rg [] (some (.op ⟨[],[]⟩ (.op ⟨[96],[]⟩ (.op ⟨[96],[]⟩ (.op ⟨[96],[]⟩ (.op ⟨[96],[]⟩ (.op ⟨[11392],[]⟩ (.op ⟨[11408],[]⟩ (.op ⟨[12176,12177],[12176]⟩ q65)))))))))) (.seq (.reg (.oin 4 153 72 none (.seq z (.seq (.rg [12176] (some (.op ⟨[],[]⟩ (.op ⟨[],[]⟩ (.op ⟨[96],[]⟩ (.op ⟨[96],[]⟩ (.op ⟨[96],[]⟩ (.op ⟨[96],[]⟩ (.op ⟨[96,98],[]⟩ (.op ⟨[98],[]⟩ (.op ⟨[98],[]⟩ (.op ⟨[],[]⟩ (.op ⟨[96],[]⟩ (.op ⟨[96],[]⟩ (.op ⟨[96],[]⟩ (.op ⟨[],[]⟩ (.op ⟨[],[]⟩ (.op ⟨[12176,14256,14257,14258],[]⟩ (.op ⟨[],[]⟩ (.op ⟨[],[]⟩ (.op ⟨[],[]⟩ (.op ⟨[],[]⟩ (.op ⟨[13952],[13952]⟩ (.op ⟨[13968],[13968]⟩ (.op ⟨[13952],[13952]⟩ (.op ⟨[13968],[13968]⟩ q40)))))))))))))))))))))))))) (.seq (.rg [] (some (.op ⟨[],[]⟩ (.op ⟨[],[]⟩ (.op ⟨[96],[]⟩ (.op ⟨[96],[]⟩ (.op ⟨[96],[]⟩ (.op ⟨[96],[]⟩ (.op ⟨[96,98],[]⟩ (.op ⟨[13952],[]⟩ q19)))))))))) (.join [.box 4 T51,.box 5 T57,.vbx 6 T111 [([.fst,.snd,.snd,.snd,.snd,.fst],T114)],.vbx 183 T57 [],.vbx 711 T57 [],.vbx 871 T57 [],.box 873 T57] (.seq z (.cond (.reg (.oin 1 160 0 none (.rg [] (some (.op ⟨[],[]⟩ (.op ⟨[],[]⟩ (.op ⟨[96],[]⟩ (.op ⟨[96],[]⟩ (.op ⟨[96],[]⟩ (.op ⟨[96],[]⟩ (.op ⟨[11392],[]⟩ (.op ⟨[11408],[]⟩ (.op ⟨[14704],[]⟩ q55))))))))))) (.ofin none))) .leaf)) q1)))) (.ofin none))) .leaf)) (.seq z (.cond (.seq (.reg (.oin 10 147 132 (some ([],(.op ⟨[],[]⟩ (.op ⟨[],[]⟩ (.op ⟨[96],[]⟩ (.op ⟨[96],[]⟩ (.op ⟨[96],[]⟩ (.op ⟨[96],[]⟩ (.op ⟨[11392],[]⟩ (.op ⟨[11408],[]⟩ (.op ⟨[12464],[]⟩ q40))))))))))) (.seq z (.seq (.rg [] (some (.op ⟨[],[]⟩ (.op ⟨[],[]⟩ (.op ⟨[96],[]⟩ (.op ⟨[96],[]⟩ (.op ⟨[96],[]⟩ (.op ⟨[96],[]⟩ (.op ⟨[96,98],[]⟩ (.op ⟨[98],[]⟩ (.op ⟨[98],[]⟩ (.op ⟨[],[]⟩ (.op ⟨[96],[]⟩ (.op ⟨[96],[]⟩ (.op ⟨[96],[]⟩ (.op ⟨[],[]⟩ (.op ⟨[15168,15169,15170],[]⟩ (.op ⟨[],[]⟩ (.op ⟨[],[]⟩ (.op ⟨[],[]⟩ (.op ⟨[],[]⟩ (.op ⟨[14880],[14880]⟩ (.op ⟨[14896],[14896]⟩ (.op ⟨[14880],[14880]⟩ (.op ⟨[14896],[14896]⟩ q40))))))))))))))))))))))))) (.seq (.rg [] (some (.op ⟨[],[]⟩ (.op ⟨[],[]⟩ (.op ⟨[96],[]⟩ (.op ⟨[96],[]⟩ (.op ⟨[96],[]⟩ (.op ⟨[96],[]⟩ (.op ⟨[96,98],[]⟩ (.op ⟨[14880],[]⟩ q19)))))))))) (.join [.box 4 T51,.box 5 T57,.vbx 6 T111 [([.fst,.snd,.snd,.snd,.snd,.fst],T114)],.vbx 183 T57 [],.vbx 711 T57 [],.vbx 929 T57 [],.box 931 T57] (.seq z (.cond (.reg (.oin 1 163 0 none (.rg [] (some (.op ⟨[],[]⟩ (.op ⟨[],[]⟩ (.op ⟨[],[]⟩ (.op ⟨[96],[]⟩ (.op ⟨[96],[]⟩ (.op ⟨[96],[]⟩ (.op ⟨[96],[]⟩ (.op ⟨[],[]⟩ (.op ⟨[96],[]⟩ (.op ⟨[96],[]⟩ (.op ⟨[96],[]⟩ (.op ⟨[96],[]⟩ (.op ⟨[11392],[]⟩ (.op ⟨[],[]⟩ (.op ⟨[96],[]⟩ (.op ⟨[96],[]⟩ (.op ⟨[96],[]⟩ (.op ⟨[15760,15761],[]⟩ q2)))))))))))))))))))) (.ofin none))) .leaf)) q1)))) (.ofin (some ([],(.op ⟨[11376],[11376]⟩ .done)))))) .leaf) .leaf)))))))) (.seq (.reg (.oin 8 147 203 (some ([],(.op ⟨[],[]⟩ (.op ⟨[],[]⟩ (.op ⟨[96],[]⟩ (.op ⟨[96],[]⟩ (.op ⟨[96],[]⟩ (.op ⟨[96],[]⟩ (.op ⟨[12608],[]⟩ q40))))))))) (.seq z (.seq (.rg [] (some (.op ⟨[],[]⟩ (.op ⟨[],[]⟩ (.op ⟨[96],[]⟩ (.op ⟨[96],[]⟩ (.op ⟨[96],[]⟩ (.op ⟨[96],[]⟩ (.op ⟨[96,98],[]⟩ (.op ⟨[98],[]⟩ (.op ⟨[98],[]⟩ (.op ⟨[],[]⟩ (.op ⟨[96],[]⟩ (.op ⟨[96],[]⟩ (.op ⟨[96],[]⟩ (.op ⟨[],[]⟩ (.op ⟨[16304,16305,16306],[]⟩ (.op ⟨[],[]⟩ (.op ⟨[],[]⟩ (.op ⟨[],[]⟩ (.op ⟨[],[]⟩ (.op ⟨[16016],[16016]⟩ (.op ⟨[16032],[16032]⟩ (.op ⟨[16016],[16016]⟩ (.op ⟨[16032],[16032]⟩ q40))))))))))))))))))))))))) (.seq (.rg [] (some (.op ⟨[],[]⟩ (.op ⟨[],[]⟩ (.op ⟨[96],[]⟩ (.op ⟨[96],[]⟩ (.op ⟨[96],[]⟩ (.op ⟨[96],[]⟩ (.op ⟨[96,98],[]⟩ (.op ⟨[16016],[]⟩ q19)))))))))) (.join [.box 4 T51,.box 5 T57,.vbx 6 T111 [([.fst,.snd,.snd,.snd,.snd,.fst],T114)],.vbx 183 T57 [],.vbx 711 T57 [],.vbx 1000 T57 [],.box 1002 T57] (.seq z (.cond (.reg (.oin 1 166 0 none (.rg [] (some (.op ⟨[],[]⟩ (.op ⟨[],[]⟩ (.op ⟨[],[]⟩ (.op ⟨[96],[]⟩ (.op ⟨[96],[]⟩ (.op ⟨[96],[]⟩ (.op ⟨[96],[]⟩ (.op ⟨[],[]⟩ (.op ⟨[96],[]⟩ (.op ⟨[96],[]⟩ (.op ⟨[96],[]⟩ (.op ⟨[96],[]⟩ (.op ⟨[11392],[]⟩ (.op ⟨[],[]⟩ (.op ⟨[96],[]⟩ (.op ⟨[96],[]⟩ (.op ⟨[96],[]⟩ (.op ⟨[96],[]⟩ (.op ⟨[16912,16913],[]⟩ q2))))))))))))))))))))) (.ofin none))) .leaf)) q1)))) (.ofin (some ([],(.op ⟨[11376],[11376]⟩ .done)))))) .leaf)))) (.ofin none))) .leaf))))) (.ofin none))) (.seq (.rg [98] (some (.op ⟨[],[]⟩ (.op ⟨[96],[]⟩ (.op ⟨[96],[]⟩ (.op ⟨[96],[]⟩ (.op ⟨[112],[]⟩ (.op ⟨[64,98],[64]⟩ (.op ⟨[80],[80]⟩ .done))))))))) .leaf)))))))))))))) q1)))))
theorem o15:FnOk Tryz.prog 15 g15:=fnX tab_ok mixed l15 a15 ⟨o32,o37,o38,o41,o40,o44,o45,o226,o228,o227,o229,o324,o325,o326,o143,o144,o145,o97,o148,o238,o150,o245,o152,o249,o155,o156,o158,o159,o161,o162,o164,o165,o167,trivial⟩ Tryz.func15 (⟨(obw rfl),⟨(obw rfl),⟨(obw rfl),⟨(obw rfl),⟨fun _=>⟨(obw rfl),⟨(obw rfl),⟨(obw rfl),⟨(obw rfl),⟨(obw rfl),⟨(obw rfl),⟨(obw rfl),⟨(obw rfl),⟨(obw rfl),⟨(obw rfl),⟨(obw rfl),⟨fun _=>⟨fun _=>⟨(obw rfl),⟨⟨(obw rfl),⟨(obw rfl),⟨(obw rfl),⟨⟨⟨fun _=>⟨(obw rfl),⟨⟨(obw rfl),⟨(obw rfl),⟨⟨⟨fun _=>⟨(obw rfl),⟨(obw rfl),⟨(obw rfl),⟨(obw rfl),⟨(obw rfl),⟨fun _=>⟨fun _=>⟨(obw rfl),⟨(obw rfl),⟨(obw rfl),⟨(obw rfl),⟨(obw rfl),⟨(obw rfl),⟨(obw rfl),⟨(obw rfl),⟨(obw rfl),⟨⟨(obw rfl),⟨(obw rfl),⟨fun _=>rfl,fun n j=>by kernel_rfl,fun n=>(obw rfl)⟩⟩⟩,(obw rfl)⟩⟩⟩⟩⟩⟩⟩⟩⟩⟩,trivial⟩,(obw rfl)⟩⟩⟩⟩⟩⟩,trivial⟩,(obw rfl)⟩,(obw rfl)⟩⟩⟩,(obw rfl)⟩⟩,trivial⟩,(obw rfl)⟩,(obw rfl)⟩⟩⟩⟩,(obw rfl)⟩⟩,trivial⟩,(obw rfl)⟩⟩⟩⟩⟩⟩⟩⟩⟩⟩⟩⟩,(obw rfl)⟩⟩⟩⟩⟩) (hB:=⟨Tryz.func39,Tryz.func46,Tryz.func82,Tryz.func96,Tryz.func98,Tryz.func99,Tryz.func142,Tryz.func147,Tryz.func149,Tryz.func151,Tryz.func153,Tryz.func154,Tryz.func157,Tryz.func160,Tryz.func163,Tryz.func166,Tryz.func230,trivial⟩) (hP:=⟨gadget_work_end_pe,trivial⟩)
abbrev g21:Fun:=fg [.val T51,.val (.sl T61)] [.cell 4 T51,.tmp 5 (.bool,.view)] reticuletop_all
def l21:EL:={fs:=[(15,g15)]}
def a21:AG g21:=(.seq z (.seq z (.seq (.seq z (.loop [.val 1 (.sl T61),.box 2 T51,.box 4 T51,.val 6 .bool,.val 7 (.int .i64)] [.box 2 T51,.box 4 T51,.val 6 .bool] reticuletop_all_L0 (.seq (.seq z q3) (.seq (.block (.seq (.rg [] (some (.op ⟨[32],[]⟩ (.op ⟨[],[]⟩ (.op ⟨[],[]⟩ (.op ⟨[],[]⟩ (.op ⟨[],[]⟩ (.op ⟨[352,353],[]⟩ (.op ⟨[],[]⟩ (.op ⟨[],[]⟩ (.op ⟨[],[]⟩ (.op ⟨[128],[128]⟩ (.op ⟨[144],[144]⟩ q22))))))))))))) (.seq (.rg [] (some (.op ⟨[],[]⟩ (.op ⟨[],[]⟩ (.split 26 [(43,.bool)] (.op ⟨[144],[]⟩ (.op ⟨[144],[]⟩ (.op ⟨[],[]⟩ (.op ⟨[],[]⟩ (.split 30 [(34,.bool)] q64 (.op ⟨[],[]⟩ (.split 35 [(42,.bool)] q82 q40))))))) q40))))) z))) z)))) q1)))
theorem o21:FnOk Tryz.prog 21 g21:=fnX tab_ok mixed l21 a21 ⟨o15,trivial⟩ Tryz.func21 (⟨(obw rfl),⟨(obw rfl),⟨⟨(obw rfl),⟨fun _=>rfl,fun n j=>by kernel_rfl,fun n=>(obw rfl)⟩⟩,(obw rfl)⟩⟩⟩)
abbrev g122:Fun:=fg [.val (.int .u64),.val (.int .i64)] [.tmp 4 ((.sl (.int .u8)),.full)] reticuleref01_PutLittle
def l122:EL:={fs:=[]}
def a122:AG g122:=(.seq z (.seq (.seq (.rg [] (some (.op ⟨[],[]⟩ (.op ⟨[],[]⟩ (.op ⟨[],[]⟩ (.split 9 [(12,.bool)] q41 .done)))))) q67) (.seq z (.seq (.seq z (.loop [.val 0 (.int .u64),.val 1 (.int .i64),.row 5 (.int .u8) .full,.val 6 (.int .i64)] [.row 5 (.int .u8) .full] reticuleref01_PutLittle_L0 (.seq (.seq z q3) q12))) q1))))
theorem o122:FnOk Tryz.prog 122 g122:=fnX tab_ok mixed l122 a122 trivial Tryz.func122 (⟨(obw rfl),⟨(obw rfl),⟨(obw rfl),⟨⟨(obw rfl),⟨fun _=>rfl,fun n j=>by kernel_rfl,fun n=>(obw rfl)⟩⟩,(obw rfl)⟩⟩⟩⟩)
abbrev g62:Fun:=fg [.val T36] [.tmp 2 ((.sl (.int .u8)),.full),.tmp 3 (.bool,.view)] reticuleref19_Bytes
def l62:EL:={fs:=[(122,g122)]}
def a62:AG g62:=(.seq z (.seq (.seq (.rg [] (some (.op ⟨[16],[]⟩ (.op ⟨[16],[]⟩ (.op ⟨[],[]⟩ (.op ⟨[],[]⟩ (.split 10 [(14,.bool)] q43 (.op ⟨[],[]⟩ (.split 15 [(20,.bool)] q68 (.op ⟨[],[]⟩ (.split 21 [(26,.bool)] q68 .done))))))))))) q67) (.seq z (.seq z (.seq z (.seq z (.join [.box 1 T36,.row 4 (.int .u8) .full,.val 5 (.int .u8)] q4 (.seq z (.seq z (.seq (.seq z (.loop [.row 4 (.int .u8) .full,.val 6 (.int .i64)] [.row 4 (.int .u8) .full] reticuleref19_Bytes_L0 (.seq (.seq (.rg [] (some (.op ⟨[],[]⟩ (.op ⟨[],[]⟩ (.op ⟨[],[]⟩ (.split 60 [(64,.bool)] (.op ⟨[],[]⟩ (.op ⟨[64],[]⟩ q0)) .done)))))) q3) (.seq (.block z) z)))) q1))))))))))
theorem o62:FnOk Tryz.prog 62 g62:=fnX tab_ok mixed l62 a62 ⟨o122,trivial⟩ Tryz.func62 (⟨(obw rfl),⟨(obw rfl),⟨(obw rfl),⟨(obw rfl),⟨(obw rfl),⟨(obw rfl),⟨fun _=>(obw rfl),⟨(obw rfl),⟨(obw rfl),⟨⟨(obw rfl),⟨fun _=>rfl,fun n j=>by kernel_rfl,fun n=>(obw rfl)⟩⟩,(obw rfl)⟩⟩⟩⟩⟩⟩⟩⟩⟩⟩)
abbrev g63:Fun:=fg [.val T76,.val (.int .i64)] [.cell 4 T76,.tmp 5 (.bool,.view)] reticuletop_line_clear
def l63:EL:={fs:=[(27,g27),(21,g21)]}
def a63:AG g63:=(.seq z (.seq (.rg [272] (some (.op ⟨[32],[]⟩ (.op ⟨[32],[]⟩ (.op ⟨[32],[]⟩ (.op ⟨[32],[]⟩ (.op ⟨[32],[]⟩ (.op ⟨[32],[]⟩ (.op ⟨[],[]⟩ (.op ⟨[],[]⟩ (.op ⟨[272],[272]⟩ (.op ⟨[272,288,289],[272]⟩ (.op ⟨[],[]⟩ (.op ⟨[],[]⟩ (.op ⟨[],[]⟩ (.op ⟨[96],[96]⟩ (.op ⟨[96],[96]⟩ q40))))))))))))))))) (.seq z q1)))
theorem o63:FnOk Tryz.prog 63 g63:=fnY tab_ok mixed l63 a63 ⟨o27,o21,trivial⟩ Tryz.func63
abbrev g65:Fun:=fg [.val T76,.val (.int .i64),.val (.int .i64),.val (.sl (.int .u8))] [.cell 8 T61] reticuletop_line_packet
def l65:EL:={fs:=[]}
def a65:AG g65:=(.seq z (.seq z (.join [.box 8 T61,.box 9 T61] (.seq (.rg [] (some (.op ⟨[],[]⟩ (.op ⟨[],[]⟩ (.op ⟨[],[]⟩ (.split 20 [(27,.bool)] (.op ⟨[],[]⟩ (.op ⟨[64],[]⟩ q70)) .done)))))) q48) q1)))
theorem o65:FnOk Tryz.prog 65 g65:=fnY tab_ok mixed l65 a65 trivial Tryz.func65
abbrev g123:Fun:=fg [.val T76] [.cell 2 T76,.tmp 3 (.bool,.view)] reticuletop_line_lost
def l123:EL:={fs:=[]}
def a123:AG g123:=(.seq z (.seq z (.seq (.rg [] (some (.op ⟨[16],[]⟩ (.op ⟨[16],[]⟩ (.op ⟨[16],[]⟩ (.op ⟨[16],[]⟩ (.op ⟨[16],[]⟩ (.op ⟨[],[]⟩ (.op ⟨[],[]⟩ (.op ⟨[],[]⟩ (.split 15 [(23,.bool)] q66 (.op ⟨[32],[32]⟩ q40)))))))))))) .leaf)))
theorem o123:FnOk Tryz.prog 123 g123:=fnY tab_ok mixed l123 a123 trivial Tryz.func123
abbrev g64:Fun:=fg [.val T76,.val T61] [.cell 4 T76,.cell 5 T57] reticuletop_line_send
def l64:EL:={fs:=[(123,g123),(15,g15)]}
def a64:AG g64:=(.seq z (.seq z (.seq z (.seq z (.join [.box 2 T76,.box 4 T76,.box 5 T57,.box 8 T57] (.seq (.rg [] (some (.op ⟨[],[]⟩ (.op ⟨[],[]⟩ (.split 24 [(28,.bool)] (.op ⟨[128],[]⟩ (.op ⟨[128],[]⟩ q0)) .done))))) q48) (.seq (.rg [] (some (.op ⟨[32],[]⟩ (.op ⟨[128],[]⟩ q10)))) .leaf))))))
theorem o64:FnOk Tryz.prog 64 g64:=fnY tab_ok mixed l64 a64 ⟨o123,o15,trivial⟩ Tryz.func64
abbrev g66:Fun:=fg [.val (.sl (.int .u8))] [.tmp 2 ((.sl (.int .u8)),.view)] reticuleref16_Cut
def l66:EL:={fs:=[]}
def a66:AG g66:=q69
theorem o66:FnOk Tryz.prog 66 g66:=fnY tab_ok mixed l66 a66 trivial Tryz.func66
abbrev g67:Fun:=fg [.val T76,.val (.int .i64),.val (.int .i64)] [.cell 6 T76,.cell 7 T57] reticuletop_line_ask
def l67:EL:={fs:=[(71,g71),(123,g123),(15,g15)]}
def a67:AG g67:=(.seq z (.seq z (.seq z (.join [.box 3 T76,.box 6 T76,.box 7 T57,.box 8 T61] (.seq z (.cond (.seq z (.seq z z)) .leaf)) (.seq z (.seq z (.seq (.rg [] (some (.op ⟨[48],[]⟩ (.op ⟨[192],[]⟩ q79)))) .leaf)))))))
theorem o67:FnOk Tryz.prog 67 g67:=fnY tab_ok mixed l67 a67 ⟨o71,o123,o15,trivial⟩ Tryz.func67
abbrev g197:Fun:=fg [.val (.sl (.int .u8)),.val (.int .i64),.val (.int .i64)] [.tmp 6 ((.int .u64),.view),.tmp 7 (.bool,.view)] reticuleref01_Little
def l197:EL:={fs:=[]}
def a197:AG g197:=(.seq z (.seq (.seq (.rg [] (some (.op ⟨[],[]⟩ (.op ⟨[],[]⟩ (.op ⟨[],[]⟩ (.split 12 [(15,.bool)] q41 (.op ⟨[],[]⟩ (.split 16 [(19,.bool)] q41 (.op ⟨[],[]⟩ (.split 20 [(25,.bool)] q65 (.op ⟨[],[]⟩ (.split 26 [(33,.bool)] q82 .done)))))))))))) q67) (.seq z (.seq (.seq z (.loop [.val 0 (.sl (.int .u8)),.val 1 (.int .i64),.val 8 (.int .u64),.val 9 (.int .i64)] [.val 8 (.int .u64)] reticuleref01_Little_L0 (.seq (.seq z q3) (.seq (.block z) z)))) q1))))
theorem o197:FnOk Tryz.prog 197 g197:=fnX tab_ok mixed l197 a197 trivial Tryz.func197 (⟨(obw rfl),⟨(obw rfl),⟨(obw rfl),⟨⟨(obw rfl),⟨fun _=>rfl,fun n j=>by kernel_rfl,fun n=>(obw rfl)⟩⟩,(obw rfl)⟩⟩⟩⟩)
abbrev g114:Fun:=fg [.val (.sl (.int .u8)),.val (.int .i64)] [.tmp 4 ((.int .u32),.view)] reticuleref19_four
def l114:EL:={fs:=[(197,g197)]}
def a114:AG g114:=q49
theorem o114:FnOk Tryz.prog 114 g114:=fnY tab_ok mixed l114 a114 ⟨o197,trivial⟩ Tryz.func114
abbrev g59:Fun:=fg [.val (.sl (.int .u8))] [.cell 2 T69,.tmp 3 (.bool,.view)] reticuleref19_ReadStatus
def l59:EL:={fs:=[(114,g114)]}
def a59:AG g59:=(.seq z (.seq (.seq (.rg [] (some (.op ⟨[],[]⟩ (.op ⟨[],[]⟩ (.op ⟨[],[]⟩ (.op ⟨[],[]⟩ (.split 7 [(12,.bool)] q65 (.op ⟨[],[]⟩ (.split 13 [(18,.bool)] q65 .done))))))))) q67) (.seq (.rg [] (some (.op ⟨[],[]⟩ (.op ⟨[336],[]⟩ (.op ⟨[],[]⟩ (.op ⟨[368],[]⟩ q57)))))) .leaf)))
theorem o59:FnOk Tryz.prog 59 g59:=fnY tab_ok mixed l59 a59 ⟨o114,trivial⟩ Tryz.func59
abbrev g24:Fun:=fg [.val T76,.val T36,.val (.sl (.int .u8))] [.cell 6 T76,.tmp 7 ((.sl (.int .u8)),.full),.cell 8 T69,.tmp 9 (.bool,.view)] reticuletop_line_command
def l24:EL:={fs:=[(62,g62),(63,g63),(65,g65),(64,g64),(66,g66),(67,g67),(59,g59)]}
def a24:AG g24:=(.seq z (.seq z (.join [.val 2 (.sl (.int .u8)),.box 3 T76,.box 6 T76,.box 8 T69,.row 10 (.int .u8) .full,.val 11 .bool] (.seq (.rg [] (some (.op ⟨[],[]⟩ (.op ⟨[],[]⟩ (.split 26 [(32,.bool)] (.op ⟨[48],[]⟩ (.op ⟨[48],[]⟩ (.op ⟨[48],[]⟩ q41))) (.op ⟨[],[]⟩ (.split 33 [(40,.bool)] (.op ⟨[48],[]⟩ (.op ⟨[48],[]⟩ (.op ⟨[48],[]⟩ q83))) .done))))))) q48) (.seq q42 (.seq (.rg [160] (some (.op ⟨[48],[]⟩ (.op ⟨[48],[]⟩ (.op ⟨[],[]⟩ (.op ⟨[160,864],[]⟩ (.op ⟨[880,881],[]⟩ (.op ⟨[],[]⟩ (.op ⟨[],[]⟩ (.op ⟨[],[]⟩ (.op ⟨[192],[192]⟩ q61))))))))))) (.seq q42 (.seq z (.seq (.seq z (.loop q25 [.box 3 T76,.box 6 T76,.box 8 T69,.row 13 (.int .u8) .full] reticuletop_line_command_L0 (.seq (.seq z q3) (.join q25 (.block (.seq (.seq (.rg [] (some (.op ⟨[48],[]⟩ (.op ⟨[48],[]⟩ (.op ⟨[48],[]⟩ (.op ⟨[48],[]⟩ (.op ⟨[],[]⟩ (.op ⟨[],[]⟩ (.split 72 [(76,.bool)] q83 .done))))))))) (.cond (.seq z (.seq (.rg [] (some (.op ⟨[48],[]⟩ (.op ⟨[48],[]⟩ (.op ⟨[],[]⟩ (.op ⟨[1328],[]⟩ (.op ⟨[1344,1345],[]⟩ (.op ⟨[],[]⟩ (.op ⟨[],[]⟩ (.op ⟨[],[]⟩ q61)))))))))) (.seq z (.seq q42 .leaf)))) .leaf)) (.seq z (.seq z (.seq z (.block (.seq z (.cond (.seq (.seq z (.cond (.seq z (.seq (.rg [] (some (.op ⟨[48],[]⟩ (.op ⟨[],[]⟩ (.op ⟨[256],[]⟩ (.op ⟨[],[]⟩ (.op ⟨[96],[96]⟩ (.op ⟨[],[]⟩ (.op ⟨[128],[128]⟩ q40))))))))) .leaf)) .leaf)) z) (.seq z (.cond (.seq z (.seq z q42)) q1)))))))))) z)))) q1))))))))
theorem o24:FnOk Tryz.prog 24 g24:=fnX tab_ok mixed l24 a24 ⟨o62,o63,o65,o64,o66,o67,o59,trivial⟩ Tryz.func24 (⟨(obw rfl),⟨(obw rfl),⟨fun _=>(obw rfl),⟨(obw rfl),⟨(obw rfl),⟨(obw rfl),⟨(obw rfl),⟨⟨(obw rfl),⟨fun _=>rfl,fun n j=>by kernel_rfl,fun n=>(obw rfl)⟩⟩,(obw rfl)⟩⟩⟩⟩⟩⟩⟩⟩)
abbrev g20:Fun:=fg [] [.tmp 0 (.bool,.view)] reticuletop_alive27
def l20:EL:={fs:=[(12,g12),(22,g22),(21,g21),(24,g24)],es:=[28,70]}
def a20:AG g20:=(.seq z (.seq z (.seq (.rg [240] (some (.op ⟨[16],[]⟩ (.op ⟨[240],[240]⟩ (.op ⟨[240,256,257],[240]⟩ (.op ⟨[],[]⟩ (.op ⟨[],[]⟩ (.op ⟨[],[]⟩ (.op ⟨[16],[16]⟩ q40))))))))) (.seq z (.seq (.rg [368] (some (.op ⟨[64],[]⟩ (.op ⟨[368],[368]⟩ (.op ⟨[368],[368]⟩ (.op ⟨[400,401,402,403],[401]⟩ (.op ⟨[],[]⟩ (.op ⟨[],[]⟩ (.op ⟨[],[]⟩ (.op ⟨[],[]⟩ (.op ⟨[],[]⟩ (.op ⟨[96],[96]⟩ (.op ⟨[64],[64]⟩ (.op ⟨[],[]⟩ (.op ⟨[96],[96]⟩ q40))))))))))))))) (.seq (.rg [] (some (.op ⟨[],[]⟩ (.op ⟨[],[]⟩ (.op ⟨[],[]⟩ (.split 32 [(34,.bool)] q0 (.op ⟨[],[]⟩ (.split 35 [(37,.bool)] q0 (.op ⟨[],[]⟩ (.split 38 [(42,.bool)] (.op ⟨[96],[]⟩ q41) (.op ⟨[],[]⟩ (.split 43 [(49,.bool)] (.op ⟨[64],[]⟩ q70) q40)))))))))))) .leaf))))))
theorem o20:FnOk Tryz.prog 20 g20:=fnY tab_ok mixed l20 a20 ⟨o12,o22,o21,o24,trivial⟩ Tryz.func20
abbrev g14:Fun:=fg [.val (.sl T61),.val (.int .i64)] [.tmp 4 (.bool,.view)] reticuleref13_Great
def l14:EL:={fs:=[]}
def a14:AG g14:=(.seq z (.seq q42 (.seq (.seq z (.loop [.val 0 (.sl T61),.val 5 (.int .i64)] [] reticuleref13_Great_L0 (.seq (.seq z q3) (.seq (.block q42) z)))) q1)))
theorem o14:FnOk Tryz.prog 14 g14:=fnX tab_ok mixed l14 a14 trivial Tryz.func14 (⟨(obw rfl),⟨(obw rfl),⟨⟨(obw rfl),⟨fun _=>rfl,fun n j=>by kernel_rfl,fun n=>(obw rfl)⟩⟩,(obw rfl)⟩⟩⟩)
abbrev g18:Fun:=fg [.val T22,.val (.sl T61),.val (.int .i64)] [.cell 6 T51,.tmp 7 (.bool,.view)] reticuletop_played
def l18:EL:={fs:=[(12,g12),(14,g14),(15,g15)]}
def a18:AG g18:=(.seq z (.seq z (.seq (.seq (.rg [] (some (.op ⟨[],[]⟩ (.op ⟨[],[]⟩ (.op ⟨[],[]⟩ (.split 18 [(22,.bool)] (.op ⟨[],[]⟩ (.op ⟨[],[]⟩ (.op ⟨[336],[]⟩ q40))) .done)))))) q67) (.seq (.seq z (.loop [.val 1 (.sl T61),.box 6 T51,.box 8 T51,.val 10 (.int .i64)] [.box 6 T51,.box 8 T51] reticuletop_played_L0 (.seq (.seq z q3) (.seq (.block (.rg [] (some (.op ⟨[128],[]⟩ (.op ⟨[],[]⟩ (.op ⟨[],[]⟩ (.op ⟨[],[]⟩ (.op ⟨[],[]⟩ (.op ⟨[576,577],[]⟩ (.op ⟨[],[]⟩ (.op ⟨[],[]⟩ (.op ⟨[],[]⟩ q33)))))))))))) z)))) q1))))
theorem o18:FnOk Tryz.prog 18 g18:=fnX tab_ok mixed l18 a18 ⟨o12,o14,o15,trivial⟩ Tryz.func18 (⟨(obw rfl),⟨(obw rfl),⟨(obw rfl),⟨⟨(obw rfl),⟨fun _=>rfl,fun n j=>by kernel_rfl,fun n=>(obw rfl)⟩⟩,(obw rfl)⟩⟩⟩⟩)
abbrev g215:Fun:=fg [.val (.int .i64)] [.tmp 2 ((.sl (.int .u8)),.full)] reticuleref22_two
def l215:EL:={fs:=[]}
def a215:AG g215:=(.seq z q1)
theorem o215:FnOk Tryz.prog 215 g215:=fnY tab_ok mixed l215 a215 trivial Tryz.func215
abbrev g124:Fun:=fg [.val (.int .u8),.val (.int .i64)] [.tmp 4 ((.sl (.int .u8)),.full)] reticuleref22_head
def l124:EL:={fs:=[(215,g215)]}
def a124:AG g124:=(.seq z q1)
theorem o124:FnOk Tryz.prog 124 g124:=fnY tab_ok mixed l124 a124 ⟨o215,trivial⟩ Tryz.func124
abbrev g125:Fun:=fg [.val (.int .i64)] [.tmp 2 ((.sl (.int .u8)),.full)] reticuleref22_lun
def l125:EL:={fs:=[]}
def a125:AG g125:=(.seq z q1)
theorem o125:FnOk Tryz.prog 125 g125:=fnY tab_ok mixed l125 a125 trivial Tryz.func125
abbrev g68:Fun:=fg [.val T86] [.tmp 2 ((.sl (.int .u8)),.full)] reticuleref22_PutCommand
def l68:EL:={fs:=[(124,g124),(125,g125)]}
def a68:AG g68:=(.seq z (.seq z (.seq z (.seq (.seq z (.loop [.box 1 T86,.row 3 (.int .u8) .full,.val 4 (.int .i64)] [.row 3 (.int .u8) .full] reticuleref22_PutCommand_L0 (.seq (.seq z q3) (.seq (.block z) z)))) q1))))
theorem o68:FnOk Tryz.prog 68 g68:=fnX tab_ok mixed l68 a68 ⟨o124,o125,trivial⟩ Tryz.func68 (⟨(obw rfl),⟨(obw rfl),⟨(obw rfl),⟨⟨(obw rfl),⟨fun _=>rfl,fun n j=>by kernel_rfl,fun n=>(obw rfl)⟩⟩,(obw rfl)⟩⟩⟩⟩)
abbrev g26:Fun:=fg [.val T76,.val T86,.val (.sl (.int .u8))] [.cell 6 T76,.tmp 7 ((.sl (.int .u8)),.full),.tmp 8 ((.int .i64),.view),.tmp 9 (.bool,.view)] reticuletop_line_attached
def l26:EL:={fs:=[(68,g68),(65,g65),(64,g64),(67,g67),(66,g66)]}
def a26:AG g26:=(.seq z (.seq (.rg [320] (some (.op ⟨[48],[]⟩ (.op ⟨[48],[]⟩ (.op ⟨[64],[]⟩ (.op ⟨[320],[320]⟩ (.op ⟨[320,336],[320]⟩ (.op ⟨[352,353],[]⟩ (.op ⟨[],[]⟩ (.op ⟨[],[]⟩ (.op ⟨[],[]⟩ (.op ⟨[160],[160]⟩ (.op ⟨[48],[48]⟩ q39))))))))))))) (.seq z (.seq (.seq z (.loop q26 [.box 3 T76,.box 6 T76,.row 11 (.int .u8) .full] reticuletop_line_attached_L0 (.seq (.seq (.rg [] (some (.op ⟨[],[]⟩ (.op ⟨[],[]⟩ (.op ⟨[],[]⟩ (.split 27 [(31,.bool)] (.op ⟨[160],[]⟩ (.op ⟨[160],[]⟩ q0)) .done)))))) q3) (.join q26 (.block (.seq z (.seq z (.seq (.seq (.rg [] (some (.op ⟨[224],[]⟩ (.op ⟨[224],[]⟩ (.op ⟨[],[]⟩ (.op ⟨[],[]⟩ (.split 45 [(50,.bool)] (.op ⟨[224],[]⟩ (.op ⟨[224],[]⟩ q41)) (.op ⟨[],[]⟩ (.split 51 [(57,.bool)] (.op ⟨[224],[]⟩ (.op ⟨[224],[]⟩ q83)) .done))))))))) (.cond (.seq (.rg [] (some (.op ⟨[48],[]⟩ (.op ⟨[],[]⟩ (.op ⟨[224],[]⟩ (.op ⟨[224],[]⟩ (.op ⟨[],[]⟩ (.op ⟨[],[]⟩ (.op ⟨[],[]⟩ (.op ⟨[96],[96]⟩ q41)))))))))) .leaf) .leaf)) (.seq (.seq z q3) (.seq (.seq z (.cond (.seq z (.seq z (.seq (.rg [] (some (.op ⟨[48],[]⟩ (.op ⟨[48],[]⟩ (.op ⟨[64],[]⟩ (.op ⟨[64],[]⟩ (.op ⟨[],[]⟩ (.op ⟨[1328],[]⟩ (.op ⟨[1344,1345],[]⟩ (.op ⟨[],[]⟩ (.op ⟨[],[]⟩ (.op ⟨[],[]⟩ (.op ⟨[48],[48]⟩ q39))))))))))))) .leaf))) .leaf)) (.seq z (.seq z (.seq q42 z))))))))) z)))) q1))))
theorem o26:FnOk Tryz.prog 26 g26:=fnX tab_ok mixed l26 a26 ⟨o68,o65,o64,o67,o66,trivial⟩ Tryz.func26 (⟨(obw rfl),⟨(obw rfl),⟨(obw rfl),⟨⟨(obw rfl),⟨fun _=>rfl,fun n j=>by kernel_rfl,fun n=>(obw rfl)⟩⟩,(obw rfl)⟩⟩⟩⟩)
abbrev g25:Fun:=fg [.val (.int .u8),.val (.int .i64),.val (.int .i64)] [.tmp 6 ((.sl (.int .u8)),.full)] reticuletop_ten
def l25:EL:={fs:=[]}
def a25:AG g25:=(.seq z q1)
theorem o25:FnOk Tryz.prog 25 g25:=fnY tab_ok mixed l25 a25 trivial Tryz.func25
abbrev g7:Fun:=fg [.val T22,.val (.int .u8),.val (.sl (.int .u8))] [.tmp 6 (.bool,.view)] reticuletop_WholeAttached
def l7:EL:={fs:=[(20,g20),(18,g18),(22,g22),(21,g21),(26,g26),(25,g25),(27,g27),(24,g24)],es:=[70]}
def a7:AG g7:=(.seq z (.seq q42 (.seq z (.seq z (.seq (.seq (.rg [] (some (.op ⟨[],[]⟩ (.op ⟨[],[]⟩ (.op ⟨[],[]⟩ (.split 42 [(45,.bool)] q41 (.op ⟨[],[]⟩ (.split 46 [(49,.bool)] q41 (.op ⟨[],[]⟩ (.split 50 [(55,.bool)] (.op ⟨[],[]⟩ q44) .done)))))))))) q67) (.seq z (.seq z (.seq (.rg [1120] (some (.op ⟨[112],[]⟩ (.op ⟨[1120],[1120]⟩ (.op ⟨[1120,1136,1137],[1120]⟩ q27))))) (.seq z (.seq (.seq z (.loop [.val 2 (.sl (.int .u8)),.box 7 T51,.val 9 (.int .i64),.val 10 (.int .i64),.val 11 .bool,.box 12 T76,.val 13 (.int .i64)] [.val 2 (.sl (.int .u8)),.box 7 T51,.val 9 (.int .i64),.val 10 (.int .i64),.val 11 .bool,.box 12 T76] reticuletop_WholeAttached_L0 (.seq (.seq z q3) (.seq (.block (.seq z (.seq (.seq (.rg [] (some (.op ⟨[],[]⟩ (.op ⟨[],[]⟩ (.op ⟨[],[]⟩ (.split 90 [(93,.bool)] q41 .done)))))) q67) z))) z)))) (.seq z (.seq (.seq z (.loop [.val 2 (.sl (.int .u8)),.box 7 T51,.val 9 (.int .i64),.val 10 (.int .i64),.val 11 .bool,.box 12 T76,.box 18 T86,.box 19 T86,.val 20 (.int .i64)] [.val 2 (.sl (.int .u8)),.box 7 T51,.val 9 (.int .i64),.val 10 (.int .i64),.val 11 .bool,.box 12 T76,.box 18 T86,.box 19 T86] reticuletop_WholeAttached_L1 (.seq (.seq z q3) (.seq (.block (.rg [] (some (.op ⟨[],[]⟩ (.op ⟨[],[]⟩ (.op ⟨[],[]⟩ (.op ⟨[],[]⟩ (.op ⟨[1680],[1680]⟩ (.op ⟨[],[]⟩ (.op ⟨[1680],[]⟩ (.op ⟨[1680],[]⟩ (.op ⟨[],[]⟩ (.op ⟨[],[]⟩ (.op ⟨[1776],[1776]⟩ (.op ⟨[],[]⟩ (.op ⟨[1776],[]⟩ (.op ⟨[1776],[]⟩ (.op ⟨[288],[]⟩ (.op ⟨[288],[]⟩ (.op ⟨[288],[288]⟩ (.op ⟨[304],[]⟩ (.op ⟨[304],[]⟩ (.op ⟨[304],[304]⟩ .done))))))))))))))))))))))) z)))) (.seq z (.seq z (.seq (.seq (.rg [] (some (.op ⟨[],[]⟩ (.op ⟨[],[]⟩ (.op ⟨[],[]⟩ (.split 138 [(141,.bool)] q41 (.op ⟨[],[]⟩ (.split 142 [(145,.bool)] q41 (.op ⟨[],[]⟩ (.split 146 [(149,.bool)] q41 (.op ⟨[],[]⟩ (.split 150 [(153,.bool)] q41 (.op ⟨[],[]⟩ (.split 154 [(160,.bool)] (.op ⟨[],[]⟩ (.op ⟨[2097],[]⟩ q83)) .done)))))))))))))) q67) (.seq (.rg [2640] (some (.op ⟨[192],[]⟩ (.op ⟨[192],[]⟩ (.op ⟨[],[]⟩ (.op ⟨[2640],[2640]⟩ (.op ⟨[2640,2656,2657],[2640]⟩ q27))))))) (.seq (.rg [2832] (some (.op ⟨[112],[]⟩ (.op ⟨[],[]⟩ (.op ⟨[],[]⟩ (.op ⟨[],[]⟩ (.op ⟨[],[]⟩ (.op ⟨[],[]⟩ (.op ⟨[],[]⟩ (.op ⟨[2832],[2832]⟩ (.op ⟨[2832],[2832]⟩ (.op ⟨[2864,2865,2866,2867],[2865]⟩ (.op ⟨[],[]⟩ (.op ⟨[],[]⟩ (.op ⟨[],[]⟩ (.op ⟨[],[]⟩ (.op ⟨[],[]⟩ (.op ⟨[432],[432]⟩ (.op ⟨[448],[448]⟩ (.op ⟨[432],[432]⟩ (.op ⟨[],[]⟩ (.op ⟨[448],[448]⟩ q40)))))))))))))))))))))) (.seq (.rg [] (some (.op ⟨[],[]⟩ (.op ⟨[],[]⟩ (.split 185 [(187,.bool)] q0 (.op ⟨[],[]⟩ (.split 188 [(192,.bool)] (.op ⟨[448],[]⟩ q41) (.op ⟨[],[]⟩ (.split 193 [(199,.bool)] (.op ⟨[],[]⟩ (.op ⟨[2865],[]⟩ q83)) q40))))))))) .leaf))))))))))))))))))
theorem o7:FnOk Tryz.prog 7 g7:=fnX tab_ok mixed l7 a7 ⟨o20,o18,o22,o21,o26,o25,o27,o24,trivial⟩ Tryz.func7 (⟨(obw rfl),⟨(obw rfl),⟨(obw rfl),⟨(obw rfl),⟨(obw rfl),⟨(obw rfl),⟨(obw rfl),⟨(obw rfl),⟨(obw rfl),⟨⟨(obw rfl),⟨fun _=>rfl,fun n j=>by kernel_rfl,fun n=>(obw rfl)⟩⟩,⟨(obw rfl),⟨⟨(obw rfl),⟨fun _=>rfl,fun n j=>by kernel_rfl,fun n=>(obw rfl)⟩⟩,(obw rfl)⟩⟩⟩⟩⟩⟩⟩⟩⟩⟩⟩⟩)
end
end Go.Proofs.YthnpgnabfcaaiaaGreat
