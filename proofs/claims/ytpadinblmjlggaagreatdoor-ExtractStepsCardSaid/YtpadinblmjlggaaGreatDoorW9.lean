/- Texts joined by a program: Tb. -/
import Derived.KernelRfl
import Derived.Test.YtpadinblmjlggaaGreatDoorW5
set_option linter.unusedSimpArgs false
set_option linter.unusedVariables false
namespace Go.Proofs.YtpadinblmjlggaaGreatDoor
@[simp] theorem Tb.tk3:tk Tryz.prog 3=1:=by kernel_rfl
@[simp] theorem Tb.sz3:Program.cellsOf Tryz.prog 3=1:=by kernel_rfl
@[simp] theorem Tb.sl3:slT Tryz.prog 3=none:=by kernel_rfl
@[simp] theorem Tb.st3:isStr Tryz.prog 3=false:=by kernel_rfl
@[simp] theorem Tb.bo3:isBool Tryz.prog 3=false:=by kernel_rfl
@[simp] theorem Tb.in3:intT Tryz.prog 3=some .i64:=by kernel_rfl
@[simp] theorem Tb.un3:(Tryz.prog.underlying 3).isSome=true:=by kernel_rfl
@[simp] theorem Tb.zr3:zrT Tryz.prog 3=[.int .i64 0]:=by kernel_rfl
@[simp] theorem Tb.za3:(Tryz.prog.info? 3).any (·.zero.isSome)=true:=by kernel_rfl
@[simp] theorem Tb.zb3:((Tryz.prog.info? 3).bind (·.zero)).isSome=true:=by kernel_rfl
@[simp] theorem Tb.el3:elOK Tryz.prog 3:=elOK_of (by kernel_rfl)
@[simp] theorem Tb.tk4:tk Tryz.prog 4=1:=by kernel_rfl
@[simp] theorem Tb.sz4:Program.cellsOf Tryz.prog 4=1:=by kernel_rfl
@[simp] theorem Tb.sl4:slT Tryz.prog 4=none:=by kernel_rfl
@[simp] theorem Tb.st4:isStr Tryz.prog 4=false:=by kernel_rfl
@[simp] theorem Tb.bo4:isBool Tryz.prog 4=true:=by kernel_rfl
@[simp] theorem Tb.in4:intT Tryz.prog 4=none:=by kernel_rfl
@[simp] theorem Tb.un4:(Tryz.prog.underlying 4).isSome=true:=by kernel_rfl
@[simp] theorem Tb.zr4:zrT Tryz.prog 4=[.bool false]:=by kernel_rfl
@[simp] theorem Tb.za4:(Tryz.prog.info? 4).any (·.zero.isSome)=true:=by kernel_rfl
@[simp] theorem Tb.zb4:((Tryz.prog.info? 4).bind (·.zero)).isSome=true:=by kernel_rfl
@[simp] theorem Tb.el4:elOK Tryz.prog 4:=elOK_of (by kernel_rfl)
@[simp] theorem Tb.tk5:tk Tryz.prog 5=1:=by kernel_rfl
@[simp] theorem Tb.sz5:Program.cellsOf Tryz.prog 5=1:=by kernel_rfl
@[simp] theorem Tb.sl5:slT Tryz.prog 5=none:=by kernel_rfl
@[simp] theorem Tb.st5:isStr Tryz.prog 5=false:=by kernel_rfl
@[simp] theorem Tb.bo5:isBool Tryz.prog 5=false:=by kernel_rfl
@[simp] theorem Tb.in5:intT Tryz.prog 5=some .u8:=by kernel_rfl
@[simp] theorem Tb.un5:(Tryz.prog.underlying 5).isSome=true:=by kernel_rfl
@[simp] theorem Tb.zr5:zrT Tryz.prog 5=[.int .u8 0]:=by kernel_rfl
@[simp] theorem Tb.za5:(Tryz.prog.info? 5).any (·.zero.isSome)=true:=by kernel_rfl
@[simp] theorem Tb.zb5:((Tryz.prog.info? 5).bind (·.zero)).isSome=true:=by kernel_rfl
@[simp] theorem Tb.el5:elOK Tryz.prog 5:=elOK_of (by kernel_rfl)
@[simp] theorem Tb.tk9:tk Tryz.prog 9=1:=by kernel_rfl
@[simp] theorem Tb.sz9:Program.cellsOf Tryz.prog 9=1:=by kernel_rfl
@[simp] theorem Tb.sl9:slT Tryz.prog 9=none:=by kernel_rfl
@[simp] theorem Tb.st9:isStr Tryz.prog 9=true:=by kernel_rfl
@[simp] theorem Tb.bo9:isBool Tryz.prog 9=false:=by kernel_rfl
@[simp] theorem Tb.in9:intT Tryz.prog 9=none:=by kernel_rfl
@[simp] theorem Tb.un9:(Tryz.prog.underlying 9).isSome=true:=by kernel_rfl
@[simp] theorem Tb.zr9:zrT Tryz.prog 9=[.string ⟨#[]⟩]:=by kernel_rfl
@[simp] theorem Tb.za9:(Tryz.prog.info? 9).any (·.zero.isSome)=true:=by kernel_rfl
@[simp] theorem Tb.zb9:((Tryz.prog.info? 9).bind (·.zero)).isSome=true:=by kernel_rfl
@[simp] theorem Tb.el9:elOK Tryz.prog 9:=elOK_of (by kernel_rfl)
@[simp] theorem Tb.tk21:tk Tryz.prog 21=1:=by kernel_rfl
@[simp] theorem Tb.sz21:Program.cellsOf Tryz.prog 21=1:=by kernel_rfl
@[simp] theorem Tb.sl21:slT Tryz.prog 21=none:=by kernel_rfl
@[simp] theorem Tb.st21:isStr Tryz.prog 21=false:=by kernel_rfl
@[simp] theorem Tb.bo21:isBool Tryz.prog 21=false:=by kernel_rfl
@[simp] theorem Tb.in21:intT Tryz.prog 21=some .i32:=by kernel_rfl
@[simp] theorem Tb.un21:(Tryz.prog.underlying 21).isSome=true:=by kernel_rfl
@[simp] theorem Tb.zr21:zrT Tryz.prog 21=[.int .i32 0]:=by kernel_rfl
@[simp] theorem Tb.za21:(Tryz.prog.info? 21).any (·.zero.isSome)=true:=by kernel_rfl
@[simp] theorem Tb.zb21:((Tryz.prog.info? 21).bind (·.zero)).isSome=true:=by kernel_rfl
@[simp] theorem Tb.el21:elOK Tryz.prog 21:=elOK_of (by kernel_rfl)
@[simp] theorem Tb.tk22:tk Tryz.prog 22=1:=by kernel_rfl
@[simp] theorem Tb.sz22:Program.cellsOf Tryz.prog 22=1:=by kernel_rfl
@[simp] theorem Tb.sl22:slT Tryz.prog 22=some 82:=by kernel_rfl
@[simp] theorem Tb.st22:isStr Tryz.prog 22=false:=by kernel_rfl
@[simp] theorem Tb.bo22:isBool Tryz.prog 22=false:=by kernel_rfl
@[simp] theorem Tb.in22:intT Tryz.prog 22=none:=by kernel_rfl
@[simp] theorem Tb.un22:(Tryz.prog.underlying 22).isSome=true:=by kernel_rfl
@[simp] theorem Tb.zr22:zrT Tryz.prog 22=[.slice none 0 0]:=by kernel_rfl
@[simp] theorem Tb.za22:(Tryz.prog.info? 22).any (·.zero.isSome)=true:=by kernel_rfl
@[simp] theorem Tb.zb22:((Tryz.prog.info? 22).bind (·.zero)).isSome=true:=by kernel_rfl
@[simp] theorem Tb.el22:elOK Tryz.prog 22:=elOK_of (by kernel_rfl)
@[simp] theorem Tb.tk23:tk Tryz.prog 23=1:=by kernel_rfl
@[simp] theorem Tb.sz23:Program.cellsOf Tryz.prog 23=1:=by kernel_rfl
@[simp] theorem Tb.sl23:slT Tryz.prog 23=some 93:=by kernel_rfl
@[simp] theorem Tb.st23:isStr Tryz.prog 23=false:=by kernel_rfl
@[simp] theorem Tb.bo23:isBool Tryz.prog 23=false:=by kernel_rfl
@[simp] theorem Tb.in23:intT Tryz.prog 23=none:=by kernel_rfl
@[simp] theorem Tb.un23:(Tryz.prog.underlying 23).isSome=true:=by kernel_rfl
@[simp] theorem Tb.zr23:zrT Tryz.prog 23=[.slice none 0 0]:=by kernel_rfl
@[simp] theorem Tb.za23:(Tryz.prog.info? 23).any (·.zero.isSome)=true:=by kernel_rfl
@[simp] theorem Tb.zb23:((Tryz.prog.info? 23).bind (·.zero)).isSome=true:=by kernel_rfl
@[simp] theorem Tb.el23:elOK Tryz.prog 23:=elOK_of (by kernel_rfl)
@[simp] theorem Tb.tk25:tk Tryz.prog 25=2:=by kernel_rfl
@[simp] theorem Tb.sz25:Program.cellsOf Tryz.prog 25=2:=by kernel_rfl
@[simp] theorem Tb.ff25_0:foff Tryz.prog 25 0=some (0,22):=by kernel_rfl
@[simp] theorem Tb.ff25_1:foff Tryz.prog 25 1=some (1,23):=by kernel_rfl
@[simp] theorem Tb.cm25:cmpT Tryz.prog 25=none:=by kernel_rfl
@[simp] theorem Tb.sl25:slT Tryz.prog 25=none:=by kernel_rfl
@[simp] theorem Tb.st25:isStr Tryz.prog 25=false:=by kernel_rfl
@[simp] theorem Tb.bo25:isBool Tryz.prog 25=false:=by kernel_rfl
@[simp] theorem Tb.in25:intT Tryz.prog 25=none:=by kernel_rfl
@[simp] theorem Tb.un25:(Tryz.prog.underlying 25).isSome=true:=by kernel_rfl
@[simp] theorem Tb.zr25:zrT Tryz.prog 25=[.slice none 0 0,.slice none 0 0]:=by kernel_rfl
@[simp] theorem Tb.za25:(Tryz.prog.info? 25).any (·.zero.isSome)=true:=by kernel_rfl
@[simp] theorem Tb.zb25:((Tryz.prog.info? 25).bind (·.zero)).isSome=true:=by kernel_rfl
@[simp] theorem Tb.el25:elOK Tryz.prog 25:=elOK_of (by kernel_rfl)
@[simp] theorem Tb.bl25:bldT Tryz.prog 25=some ([.slice none 0 0,.slice none 0 0],[(0,1),(1,1)]):=by kernel_rfl
@[simp] theorem Tb.tk26:tk Tryz.prog 26=1:=by kernel_rfl
@[simp] theorem Tb.sz26:Program.cellsOf Tryz.prog 26=1:=by kernel_rfl
@[simp] theorem Tb.sl26:slT Tryz.prog 26=some 3:=by kernel_rfl
@[simp] theorem Tb.st26:isStr Tryz.prog 26=false:=by kernel_rfl
@[simp] theorem Tb.bo26:isBool Tryz.prog 26=false:=by kernel_rfl
@[simp] theorem Tb.in26:intT Tryz.prog 26=none:=by kernel_rfl
@[simp] theorem Tb.un26:(Tryz.prog.underlying 26).isSome=true:=by kernel_rfl
@[simp] theorem Tb.zr26:zrT Tryz.prog 26=[.slice none 0 0]:=by kernel_rfl
@[simp] theorem Tb.za26:(Tryz.prog.info? 26).any (·.zero.isSome)=true:=by kernel_rfl
@[simp] theorem Tb.zb26:((Tryz.prog.info? 26).bind (·.zero)).isSome=true:=by kernel_rfl
@[simp] theorem Tb.el26:elOK Tryz.prog 26:=elOK_of (by kernel_rfl)
@[simp] theorem Tb.tk29:tk Tryz.prog 29=1:=by kernel_rfl
@[simp] theorem Tb.sz29:Program.cellsOf Tryz.prog 29=1:=by kernel_rfl
@[simp] theorem Tb.sl29:slT Tryz.prog 29=some 4:=by kernel_rfl
@[simp] theorem Tb.st29:isStr Tryz.prog 29=false:=by kernel_rfl
@[simp] theorem Tb.bo29:isBool Tryz.prog 29=false:=by kernel_rfl
@[simp] theorem Tb.in29:intT Tryz.prog 29=none:=by kernel_rfl
@[simp] theorem Tb.un29:(Tryz.prog.underlying 29).isSome=true:=by kernel_rfl
@[simp] theorem Tb.zr29:zrT Tryz.prog 29=[.slice none 0 0]:=by kernel_rfl
@[simp] theorem Tb.za29:(Tryz.prog.info? 29).any (·.zero.isSome)=true:=by kernel_rfl
@[simp] theorem Tb.zb29:((Tryz.prog.info? 29).bind (·.zero)).isSome=true:=by kernel_rfl
@[simp] theorem Tb.el29:elOK Tryz.prog 29:=elOK_of (by kernel_rfl)
@[simp] theorem Tb.tk31:tk Tryz.prog 31=2:=by kernel_rfl
@[simp] theorem Tb.sz31:Program.cellsOf Tryz.prog 31=5:=by kernel_rfl
@[simp] theorem Tb.ff31_0:foff Tryz.prog 31 0=some (0,26):=by kernel_rfl
@[simp] theorem Tb.ff31_1:foff Tryz.prog 31 1=some (1,29):=by kernel_rfl
@[simp] theorem Tb.ff31_2:foff Tryz.prog 31 2=some (2,29):=by kernel_rfl
@[simp] theorem Tb.ff31_3:foff Tryz.prog 31 3=some (3,29):=by kernel_rfl
@[simp] theorem Tb.ff31_4:foff Tryz.prog 31 4=some (4,26):=by kernel_rfl
@[simp] theorem Tb.cm31:cmpT Tryz.prog 31=none:=by kernel_rfl
@[simp] theorem Tb.sl31:slT Tryz.prog 31=none:=by kernel_rfl
@[simp] theorem Tb.st31:isStr Tryz.prog 31=false:=by kernel_rfl
@[simp] theorem Tb.bo31:isBool Tryz.prog 31=false:=by kernel_rfl
@[simp] theorem Tb.in31:intT Tryz.prog 31=none:=by kernel_rfl
@[simp] theorem Tb.un31:(Tryz.prog.underlying 31).isSome=true:=by kernel_rfl
@[simp] theorem Tb.zr31:zrT Tryz.prog 31=[.slice none 0 0,.slice none 0 0,.slice none 0 0,.slice none 0 0,.slice none 0 0]:=by kernel_rfl
@[simp] theorem Tb.za31:(Tryz.prog.info? 31).any (·.zero.isSome)=true:=by kernel_rfl
@[simp] theorem Tb.zb31:((Tryz.prog.info? 31).bind (·.zero)).isSome=true:=by kernel_rfl
@[simp] theorem Tb.el31:elOK Tryz.prog 31:=elOK_of (by kernel_rfl)
@[simp] theorem Tb.bl31:bldT Tryz.prog 31=some ([.slice none 0 0,.slice none 0 0,.slice none 0 0,.slice none 0 0,.slice none 0 0],[(0,1),(1,1),(2,1),(3,1),(4,1)]):=by kernel_rfl
@[simp] theorem Tb.tk32:tk Tryz.prog 32=1:=by kernel_rfl
@[simp] theorem Tb.sz32:Program.cellsOf Tryz.prog 32=1:=by kernel_rfl
@[simp] theorem Tb.sl32:slT Tryz.prog 32=none:=by kernel_rfl
@[simp] theorem Tb.st32:isStr Tryz.prog 32=false:=by kernel_rfl
@[simp] theorem Tb.bo32:isBool Tryz.prog 32=false:=by kernel_rfl
@[simp] theorem Tb.in32:intT Tryz.prog 32=some .i64:=by kernel_rfl
@[simp] theorem Tb.un32:(Tryz.prog.underlying 32).isSome=true:=by kernel_rfl
@[simp] theorem Tb.zr32:zrT Tryz.prog 32=[.int .i64 0]:=by kernel_rfl
@[simp] theorem Tb.za32:(Tryz.prog.info? 32).any (·.zero.isSome)=true:=by kernel_rfl
@[simp] theorem Tb.zb32:((Tryz.prog.info? 32).bind (·.zero)).isSome=true:=by kernel_rfl
@[simp] theorem Tb.el32:elOK Tryz.prog 32:=elOK_of (by kernel_rfl)
@[simp] theorem Tb.tk41:tk Tryz.prog 41=1:=by kernel_rfl
@[simp] theorem Tb.sz41:Program.cellsOf Tryz.prog 41=1:=by kernel_rfl
@[simp] theorem Tb.sl41:slT Tryz.prog 41=some 9:=by kernel_rfl
@[simp] theorem Tb.st41:isStr Tryz.prog 41=false:=by kernel_rfl
@[simp] theorem Tb.bo41:isBool Tryz.prog 41=false:=by kernel_rfl
@[simp] theorem Tb.in41:intT Tryz.prog 41=none:=by kernel_rfl
@[simp] theorem Tb.un41:(Tryz.prog.underlying 41).isSome=true:=by kernel_rfl
@[simp] theorem Tb.zr41:zrT Tryz.prog 41=[.slice none 0 0]:=by kernel_rfl
@[simp] theorem Tb.za41:(Tryz.prog.info? 41).any (·.zero.isSome)=true:=by kernel_rfl
@[simp] theorem Tb.zb41:((Tryz.prog.info? 41).bind (·.zero)).isSome=true:=by kernel_rfl
@[simp] theorem Tb.el41:elOK Tryz.prog 41:=elOK_of (by kernel_rfl)
@[simp] theorem Tb.tk42:tk Tryz.prog 42=1:=by kernel_rfl
@[simp] theorem Tb.sz42:Program.cellsOf Tryz.prog 42=1:=by kernel_rfl
@[simp] theorem Tb.sl42:slT Tryz.prog 42=some 100:=by kernel_rfl
@[simp] theorem Tb.st42:isStr Tryz.prog 42=false:=by kernel_rfl
@[simp] theorem Tb.bo42:isBool Tryz.prog 42=false:=by kernel_rfl
@[simp] theorem Tb.in42:intT Tryz.prog 42=none:=by kernel_rfl
@[simp] theorem Tb.un42:(Tryz.prog.underlying 42).isSome=true:=by kernel_rfl
@[simp] theorem Tb.zr42:zrT Tryz.prog 42=[.slice none 0 0]:=by kernel_rfl
@[simp] theorem Tb.za42:(Tryz.prog.info? 42).any (·.zero.isSome)=true:=by kernel_rfl
@[simp] theorem Tb.zb42:((Tryz.prog.info? 42).bind (·.zero)).isSome=true:=by kernel_rfl
@[simp] theorem Tb.el42:elOK Tryz.prog 42:=elOK_of (by kernel_rfl)
@[simp] theorem Tb.tk44:tk Tryz.prog 44=2:=by kernel_rfl
@[simp] theorem Tb.sz44:Program.cellsOf Tryz.prog 44=5:=by kernel_rfl
@[simp] theorem Tb.ff44_0:foff Tryz.prog 44 0=some (0,3):=by kernel_rfl
@[simp] theorem Tb.ff44_1:foff Tryz.prog 44 1=some (1,41):=by kernel_rfl
@[simp] theorem Tb.ff44_2:foff Tryz.prog 44 2=some (2,42):=by kernel_rfl
@[simp] theorem Tb.ff44_3:foff Tryz.prog 44 3=some (3,26):=by kernel_rfl
@[simp] theorem Tb.ff44_4:foff Tryz.prog 44 4=some (4,26):=by kernel_rfl
@[simp] theorem Tb.cm44:cmpT Tryz.prog 44=none:=by kernel_rfl
@[simp] theorem Tb.sl44:slT Tryz.prog 44=none:=by kernel_rfl
@[simp] theorem Tb.st44:isStr Tryz.prog 44=false:=by kernel_rfl
@[simp] theorem Tb.bo44:isBool Tryz.prog 44=false:=by kernel_rfl
@[simp] theorem Tb.in44:intT Tryz.prog 44=none:=by kernel_rfl
@[simp] theorem Tb.un44:(Tryz.prog.underlying 44).isSome=true:=by kernel_rfl
@[simp] theorem Tb.zr44:zrT Tryz.prog 44=[.int .i64 0,.slice none 0 0,.slice none 0 0,.slice none 0 0,.slice none 0 0]:=by kernel_rfl
@[simp] theorem Tb.za44:(Tryz.prog.info? 44).any (·.zero.isSome)=true:=by kernel_rfl
@[simp] theorem Tb.zb44:((Tryz.prog.info? 44).bind (·.zero)).isSome=true:=by kernel_rfl
@[simp] theorem Tb.el44:elOK Tryz.prog 44:=elOK_of (by kernel_rfl)
@[simp] theorem Tb.bl44:bldT Tryz.prog 44=some ([.int .i64 0,.slice none 0 0,.slice none 0 0,.slice none 0 0,.slice none 0 0],[(0,1),(1,1),(2,1),(3,1),(4,1)]):=by kernel_rfl
@[simp] theorem Tb.tk61:tk Tryz.prog 61=1:=by kernel_rfl
@[simp] theorem Tb.sz61:Program.cellsOf Tryz.prog 61=1:=by kernel_rfl
@[simp] theorem Tb.sl61:slT Tryz.prog 61=some 68:=by kernel_rfl
@[simp] theorem Tb.st61:isStr Tryz.prog 61=false:=by kernel_rfl
@[simp] theorem Tb.bo61:isBool Tryz.prog 61=false:=by kernel_rfl
@[simp] theorem Tb.in61:intT Tryz.prog 61=none:=by kernel_rfl
@[simp] theorem Tb.un61:(Tryz.prog.underlying 61).isSome=true:=by kernel_rfl
@[simp] theorem Tb.zr61:zrT Tryz.prog 61=[.slice none 0 0]:=by kernel_rfl
@[simp] theorem Tb.za61:(Tryz.prog.info? 61).any (·.zero.isSome)=true:=by kernel_rfl
@[simp] theorem Tb.zb61:((Tryz.prog.info? 61).bind (·.zero)).isSome=true:=by kernel_rfl
@[simp] theorem Tb.el61:elOK Tryz.prog 61:=elOK_of (by kernel_rfl)
@[simp] theorem Tb.tk64:tk Tryz.prog 64=1:=by kernel_rfl
@[simp] theorem Tb.sz64:Program.cellsOf Tryz.prog 64=1:=by kernel_rfl
@[simp] theorem Tb.sl64:slT Tryz.prog 64=some 71:=by kernel_rfl
@[simp] theorem Tb.st64:isStr Tryz.prog 64=false:=by kernel_rfl
@[simp] theorem Tb.bo64:isBool Tryz.prog 64=false:=by kernel_rfl
@[simp] theorem Tb.in64:intT Tryz.prog 64=none:=by kernel_rfl
@[simp] theorem Tb.un64:(Tryz.prog.underlying 64).isSome=true:=by kernel_rfl
@[simp] theorem Tb.zr64:zrT Tryz.prog 64=[.slice none 0 0]:=by kernel_rfl
@[simp] theorem Tb.za64:(Tryz.prog.info? 64).any (·.zero.isSome)=true:=by kernel_rfl
@[simp] theorem Tb.zb64:((Tryz.prog.info? 64).bind (·.zero)).isSome=true:=by kernel_rfl
@[simp] theorem Tb.el64:elOK Tryz.prog 64:=elOK_of (by kernel_rfl)
@[simp] theorem Tb.tk68:tk Tryz.prog 68=1:=by kernel_rfl
@[simp] theorem Tb.sz68:Program.cellsOf Tryz.prog 68=1:=by kernel_rfl
@[simp] theorem Tb.sl68:slT Tryz.prog 68=some 73:=by kernel_rfl
@[simp] theorem Tb.st68:isStr Tryz.prog 68=false:=by kernel_rfl
@[simp] theorem Tb.bo68:isBool Tryz.prog 68=false:=by kernel_rfl
@[simp] theorem Tb.in68:intT Tryz.prog 68=none:=by kernel_rfl
@[simp] theorem Tb.un68:(Tryz.prog.underlying 68).isSome=true:=by kernel_rfl
@[simp] theorem Tb.zr68:zrT Tryz.prog 68=[.slice none 0 0]:=by kernel_rfl
@[simp] theorem Tb.za68:(Tryz.prog.info? 68).any (·.zero.isSome)=true:=by kernel_rfl
@[simp] theorem Tb.zb68:((Tryz.prog.info? 68).bind (·.zero)).isSome=true:=by kernel_rfl
@[simp] theorem Tb.el68:elOK Tryz.prog 68:=elOK_of (by kernel_rfl)
@[simp] theorem Tb.tk71:tk Tryz.prog 71=2:=by kernel_rfl
@[simp] theorem Tb.sz71:Program.cellsOf Tryz.prog 71=2:=by kernel_rfl
@[simp] theorem Tb.ff71_0:foff Tryz.prog 71 0=some (0,3):=by kernel_rfl
@[simp] theorem Tb.ff71_1:foff Tryz.prog 71 1=some (1,3):=by kernel_rfl
@[simp] theorem Tb.cm71:cmpT Tryz.prog 71=some [.int .i64,.int .i64]:=by kernel_rfl
@[simp] theorem Tb.sl71:slT Tryz.prog 71=none:=by kernel_rfl
@[simp] theorem Tb.st71:isStr Tryz.prog 71=false:=by kernel_rfl
@[simp] theorem Tb.bo71:isBool Tryz.prog 71=false:=by kernel_rfl
@[simp] theorem Tb.in71:intT Tryz.prog 71=none:=by kernel_rfl
@[simp] theorem Tb.un71:(Tryz.prog.underlying 71).isSome=true:=by kernel_rfl
@[simp] theorem Tb.zr71:zrT Tryz.prog 71=[.int .i64 0,.int .i64 0]:=by kernel_rfl
@[simp] theorem Tb.za71:(Tryz.prog.info? 71).any (·.zero.isSome)=true:=by kernel_rfl
@[simp] theorem Tb.zb71:((Tryz.prog.info? 71).bind (·.zero)).isSome=true:=by kernel_rfl
@[simp] theorem Tb.el71:elOK Tryz.prog 71:=elOK_of (by kernel_rfl)
@[simp] theorem Tb.bl71:bldT Tryz.prog 71=some ([.int .i64 0,.int .i64 0],[(0,1),(1,1)]):=by kernel_rfl
@[simp] theorem Tb.tk73:tk Tryz.prog 73=2:=by kernel_rfl
@[simp] theorem Tb.sz73:Program.cellsOf Tryz.prog 73=2:=by kernel_rfl
@[simp] theorem Tb.ff73_0:foff Tryz.prog 73 0=some (0,3):=by kernel_rfl
@[simp] theorem Tb.ff73_1:foff Tryz.prog 73 1=some (1,9):=by kernel_rfl
@[simp] theorem Tb.cm73:cmpT Tryz.prog 73=some [.int .i64,.string]:=by kernel_rfl
@[simp] theorem Tb.sl73:slT Tryz.prog 73=none:=by kernel_rfl
@[simp] theorem Tb.st73:isStr Tryz.prog 73=false:=by kernel_rfl
@[simp] theorem Tb.bo73:isBool Tryz.prog 73=false:=by kernel_rfl
@[simp] theorem Tb.in73:intT Tryz.prog 73=none:=by kernel_rfl
@[simp] theorem Tb.un73:(Tryz.prog.underlying 73).isSome=true:=by kernel_rfl
@[simp] theorem Tb.zr73:zrT Tryz.prog 73=[.int .i64 0,.string ⟨#[]⟩]:=by kernel_rfl
@[simp] theorem Tb.za73:(Tryz.prog.info? 73).any (·.zero.isSome)=true:=by kernel_rfl
@[simp] theorem Tb.zb73:((Tryz.prog.info? 73).bind (·.zero)).isSome=true:=by kernel_rfl
@[simp] theorem Tb.el73:elOK Tryz.prog 73:=elOK_of (by kernel_rfl)
@[simp] theorem Tb.bl73:bldT Tryz.prog 73=some ([.int .i64 0,.string ⟨#[]⟩],[(0,1),(1,1)]):=by kernel_rfl
@[simp] theorem Tb.tk82:tk Tryz.prog 82=2:=by kernel_rfl
@[simp] theorem Tb.sz82:Program.cellsOf Tryz.prog 82=3:=by kernel_rfl
@[simp] theorem Tb.ff82_0:foff Tryz.prog 82 0=some (0,3):=by kernel_rfl
@[simp] theorem Tb.ff82_1:foff Tryz.prog 82 1=some (1,9):=by kernel_rfl
@[simp] theorem Tb.ff82_2:foff Tryz.prog 82 2=some (2,3):=by kernel_rfl
@[simp] theorem Tb.cm82:cmpT Tryz.prog 82=some [.int .i64,.string,.int .i64]:=by kernel_rfl
@[simp] theorem Tb.sl82:slT Tryz.prog 82=none:=by kernel_rfl
@[simp] theorem Tb.st82:isStr Tryz.prog 82=false:=by kernel_rfl
@[simp] theorem Tb.bo82:isBool Tryz.prog 82=false:=by kernel_rfl
@[simp] theorem Tb.in82:intT Tryz.prog 82=none:=by kernel_rfl
@[simp] theorem Tb.un82:(Tryz.prog.underlying 82).isSome=true:=by kernel_rfl
@[simp] theorem Tb.zr82:zrT Tryz.prog 82=[.int .i64 0,.string ⟨#[]⟩,.int .i64 0]:=by kernel_rfl
@[simp] theorem Tb.za82:(Tryz.prog.info? 82).any (·.zero.isSome)=true:=by kernel_rfl
@[simp] theorem Tb.zb82:((Tryz.prog.info? 82).bind (·.zero)).isSome=true:=by kernel_rfl
@[simp] theorem Tb.el82:elOK Tryz.prog 82:=elOK_of (by kernel_rfl)
@[simp] theorem Tb.bl82:bldT Tryz.prog 82=some ([.int .i64 0,.string ⟨#[]⟩,.int .i64 0],[(0,1),(1,1),(2,1)]):=by kernel_rfl
@[simp] theorem Tb.tk93:tk Tryz.prog 93=2:=by kernel_rfl
@[simp] theorem Tb.sz93:Program.cellsOf Tryz.prog 93=4:=by kernel_rfl
@[simp] theorem Tb.ff93_0:foff Tryz.prog 93 0=some (0,73):=by kernel_rfl
@[simp] theorem Tb.ff93_1:foff Tryz.prog 93 1=some (2,73):=by kernel_rfl
@[simp] theorem Tb.cm93:cmpT Tryz.prog 93=some [.int .i64,.string,.int .i64,.string]:=by kernel_rfl
@[simp] theorem Tb.sl93:slT Tryz.prog 93=none:=by kernel_rfl
@[simp] theorem Tb.st93:isStr Tryz.prog 93=false:=by kernel_rfl
@[simp] theorem Tb.bo93:isBool Tryz.prog 93=false:=by kernel_rfl
@[simp] theorem Tb.in93:intT Tryz.prog 93=none:=by kernel_rfl
@[simp] theorem Tb.un93:(Tryz.prog.underlying 93).isSome=true:=by kernel_rfl
@[simp] theorem Tb.zr93:zrT Tryz.prog 93=[.int .i64 0,.string ⟨#[]⟩,.int .i64 0,.string ⟨#[]⟩]:=by kernel_rfl
@[simp] theorem Tb.za93:(Tryz.prog.info? 93).any (·.zero.isSome)=true:=by kernel_rfl
@[simp] theorem Tb.zb93:((Tryz.prog.info? 93).bind (·.zero)).isSome=true:=by kernel_rfl
@[simp] theorem Tb.el93:elOK Tryz.prog 93:=elOK_of (by kernel_rfl)
@[simp] theorem Tb.bl93:bldT Tryz.prog 93=some ([.int .i64 0,.string ⟨#[]⟩,.int .i64 0,.string ⟨#[]⟩],[(0,2),(2,2)]):=by kernel_rfl
@[simp] theorem Tb.tk96:tk Tryz.prog 96=1:=by kernel_rfl
@[simp] theorem Tb.sz96:Program.cellsOf Tryz.prog 96=1:=by kernel_rfl
@[simp] theorem Tb.sl96:slT Tryz.prog 96=some 98:=by kernel_rfl
@[simp] theorem Tb.st96:isStr Tryz.prog 96=false:=by kernel_rfl
@[simp] theorem Tb.bo96:isBool Tryz.prog 96=false:=by kernel_rfl
@[simp] theorem Tb.in96:intT Tryz.prog 96=none:=by kernel_rfl
@[simp] theorem Tb.un96:(Tryz.prog.underlying 96).isSome=true:=by kernel_rfl
@[simp] theorem Tb.zr96:zrT Tryz.prog 96=[.slice none 0 0]:=by kernel_rfl
@[simp] theorem Tb.za96:(Tryz.prog.info? 96).any (·.zero.isSome)=true:=by kernel_rfl
@[simp] theorem Tb.zb96:((Tryz.prog.info? 96).bind (·.zero)).isSome=true:=by kernel_rfl
@[simp] theorem Tb.el96:elOK Tryz.prog 96:=elOK_of (by kernel_rfl)
@[simp] theorem Tb.tk98:tk Tryz.prog 98=2:=by kernel_rfl
@[simp] theorem Tb.sz98:Program.cellsOf Tryz.prog 98=3:=by kernel_rfl
@[simp] theorem Tb.ff98_0:foff Tryz.prog 98 0=some (0,3):=by kernel_rfl
@[simp] theorem Tb.ff98_1:foff Tryz.prog 98 1=some (1,3):=by kernel_rfl
@[simp] theorem Tb.ff98_2:foff Tryz.prog 98 2=some (2,96):=by kernel_rfl
@[simp] theorem Tb.cm98:cmpT Tryz.prog 98=none:=by kernel_rfl
@[simp] theorem Tb.sl98:slT Tryz.prog 98=none:=by kernel_rfl
@[simp] theorem Tb.st98:isStr Tryz.prog 98=false:=by kernel_rfl
@[simp] theorem Tb.bo98:isBool Tryz.prog 98=false:=by kernel_rfl
@[simp] theorem Tb.in98:intT Tryz.prog 98=none:=by kernel_rfl
@[simp] theorem Tb.un98:(Tryz.prog.underlying 98).isSome=true:=by kernel_rfl
@[simp] theorem Tb.zr98:zrT Tryz.prog 98=[.int .i64 0,.int .i64 0,.slice none 0 0]:=by kernel_rfl
@[simp] theorem Tb.za98:(Tryz.prog.info? 98).any (·.zero.isSome)=true:=by kernel_rfl
@[simp] theorem Tb.zb98:((Tryz.prog.info? 98).bind (·.zero)).isSome=true:=by kernel_rfl
@[simp] theorem Tb.el98:elOK Tryz.prog 98:=elOK_of (by kernel_rfl)
@[simp] theorem Tb.bl98:bldT Tryz.prog 98=some ([.int .i64 0,.int .i64 0,.slice none 0 0],[(0,1),(1,1),(2,1)]):=by kernel_rfl
@[simp] theorem Tb.tk100:tk Tryz.prog 100=2:=by kernel_rfl
@[simp] theorem Tb.sz100:Program.cellsOf Tryz.prog 100=10:=by kernel_rfl
@[simp] theorem Tb.ff100_0:foff Tryz.prog 100 0=some (0,9):=by kernel_rfl
@[simp] theorem Tb.ff100_1:foff Tryz.prog 100 1=some (1,3):=by kernel_rfl
@[simp] theorem Tb.ff100_2:foff Tryz.prog 100 2=some (2,98):=by kernel_rfl
@[simp] theorem Tb.ff100_3:foff Tryz.prog 100 3=some (5,98):=by kernel_rfl
@[simp] theorem Tb.ff100_4:foff Tryz.prog 100 4=some (8,3):=by kernel_rfl
@[simp] theorem Tb.ff100_5:foff Tryz.prog 100 5=some (9,4):=by kernel_rfl
@[simp] theorem Tb.cm100:cmpT Tryz.prog 100=none:=by kernel_rfl
@[simp] theorem Tb.sl100:slT Tryz.prog 100=none:=by kernel_rfl
@[simp] theorem Tb.st100:isStr Tryz.prog 100=false:=by kernel_rfl
@[simp] theorem Tb.bo100:isBool Tryz.prog 100=false:=by kernel_rfl
@[simp] theorem Tb.in100:intT Tryz.prog 100=none:=by kernel_rfl
@[simp] theorem Tb.un100:(Tryz.prog.underlying 100).isSome=true:=by kernel_rfl
@[simp] theorem Tb.zr100:zrT Tryz.prog 100=[.string ⟨#[]⟩,.int .i64 0,.int .i64 0,.int .i64 0,.slice none 0 0,.int .i64 0,.int .i64 0,.slice none 0 0,.int .i64 0,.bool false]:=by kernel_rfl
@[simp] theorem Tb.za100:(Tryz.prog.info? 100).any (·.zero.isSome)=true:=by kernel_rfl
@[simp] theorem Tb.zb100:((Tryz.prog.info? 100).bind (·.zero)).isSome=true:=by kernel_rfl
@[simp] theorem Tb.el100:elOK Tryz.prog 100:=elOK_of (by kernel_rfl)
@[simp] theorem Tb.bl100:bldT Tryz.prog 100=some ([.string ⟨#[]⟩,.int .i64 0,.int .i64 0,.int .i64 0,.slice none 0 0,.int .i64 0,.int .i64 0,.slice none 0 0,.int .i64 0,.bool false],[(0,1),(1,1),(2,3),(5,3),(8,1),(9,1)]):=by kernel_rfl
@[simp] theorem Tb.tk101:tk Tryz.prog 101=1:=by kernel_rfl
@[simp] theorem Tb.sz101:Program.cellsOf Tryz.prog 101=1:=by kernel_rfl
@[simp] theorem Tb.sl101:slT Tryz.prog 101=none:=by kernel_rfl
@[simp] theorem Tb.st101:isStr Tryz.prog 101=false:=by kernel_rfl
@[simp] theorem Tb.bo101:isBool Tryz.prog 101=false:=by kernel_rfl
@[simp] theorem Tb.in101:intT Tryz.prog 101=none:=by kernel_rfl
@[simp] theorem Tb.un101:(Tryz.prog.underlying 101).isSome=true:=by kernel_rfl
@[simp] theorem Tb.zr101:zrT Tryz.prog 101=[.pointer none]:=by kernel_rfl
@[simp] theorem Tb.za101:(Tryz.prog.info? 101).any (·.zero.isSome)=true:=by kernel_rfl
@[simp] theorem Tb.zb101:((Tryz.prog.info? 101).bind (·.zero)).isSome=true:=by kernel_rfl
@[simp] theorem Tb.el101:elOK Tryz.prog 101:=elOK_of (by kernel_rfl)
@[simp] theorem Tb.tk105:tk Tryz.prog 105=1:=by kernel_rfl
@[simp] theorem Tb.sz105:Program.cellsOf Tryz.prog 105=1:=by kernel_rfl
@[simp] theorem Tb.sl105:slT Tryz.prog 105=none:=by kernel_rfl
@[simp] theorem Tb.mp105:mpT Tryz.prog 105=none:=by kernel_rfl
@[simp] theorem Tb.ms105:msT Tryz.prog 105=none:=by kernel_rfl
@[simp] theorem Tb.pk105:pkT Tryz.prog 105=some (73,false,[.int .i64 0]):=by kernel_rfl
@[simp] theorem Tb.st105:isStr Tryz.prog 105=false:=by kernel_rfl
@[simp] theorem Tb.bo105:isBool Tryz.prog 105=false:=by kernel_rfl
@[simp] theorem Tb.in105:intT Tryz.prog 105=none:=by kernel_rfl
@[simp] theorem Tb.un105:(Tryz.prog.underlying 105).isSome=true:=by kernel_rfl
@[simp] theorem Tb.zr105:zrT Tryz.prog 105=[.map none]:=by kernel_rfl
@[simp] theorem Tb.za105:(Tryz.prog.info? 105).any (·.zero.isSome)=true:=by kernel_rfl
@[simp] theorem Tb.zb105:((Tryz.prog.info? 105).bind (·.zero)).isSome=true:=by kernel_rfl
@[simp] theorem Tb.el105:elOK Tryz.prog 105:=elOK_of (by kernel_rfl)
@[simp] theorem Tb.tk106:tk Tryz.prog 106=1:=by kernel_rfl
@[simp] theorem Tb.sz106:Program.cellsOf Tryz.prog 106=1:=by kernel_rfl
@[simp] theorem Tb.sl106:slT Tryz.prog 106=none:=by kernel_rfl
@[simp] theorem Tb.mp106:mpT Tryz.prog 106=some (.int .i64,.int .i64 0):=by kernel_rfl
@[simp] theorem Tb.st106:isStr Tryz.prog 106=false:=by kernel_rfl
@[simp] theorem Tb.bo106:isBool Tryz.prog 106=false:=by kernel_rfl
@[simp] theorem Tb.in106:intT Tryz.prog 106=none:=by kernel_rfl
@[simp] theorem Tb.un106:(Tryz.prog.underlying 106).isSome=true:=by kernel_rfl
@[simp] theorem Tb.zr106:zrT Tryz.prog 106=[.map none]:=by kernel_rfl
@[simp] theorem Tb.za106:(Tryz.prog.info? 106).any (·.zero.isSome)=true:=by kernel_rfl
@[simp] theorem Tb.zb106:((Tryz.prog.info? 106).bind (·.zero)).isSome=true:=by kernel_rfl
@[simp] theorem Tb.el106:elOK Tryz.prog 106:=elOK_of (by kernel_rfl)
@[simp] theorem Tb.tk108:tk Tryz.prog 108=2:=by kernel_rfl
@[simp] theorem Tb.sz108:Program.cellsOf Tryz.prog 108=9:=by kernel_rfl
@[simp] theorem Tb.ff108_0:foff Tryz.prog 108 0=some (0,25):=by kernel_rfl
@[simp] theorem Tb.ff108_1:foff Tryz.prog 108 1=some (2,61):=by kernel_rfl
@[simp] theorem Tb.ff108_2:foff Tryz.prog 108 2=some (3,105):=by kernel_rfl
@[simp] theorem Tb.ff108_3:foff Tryz.prog 108 3=some (4,64):=by kernel_rfl
@[simp] theorem Tb.ff108_4:foff Tryz.prog 108 4=some (5,26):=by kernel_rfl
@[simp] theorem Tb.ff108_5:foff Tryz.prog 108 5=some (6,26):=by kernel_rfl
@[simp] theorem Tb.ff108_6:foff Tryz.prog 108 6=some (7,26):=by kernel_rfl
@[simp] theorem Tb.ff108_7:foff Tryz.prog 108 7=some (8,106):=by kernel_rfl
@[simp] theorem Tb.cm108:cmpT Tryz.prog 108=none:=by kernel_rfl
@[simp] theorem Tb.sl108:slT Tryz.prog 108=none:=by kernel_rfl
@[simp] theorem Tb.st108:isStr Tryz.prog 108=false:=by kernel_rfl
@[simp] theorem Tb.bo108:isBool Tryz.prog 108=false:=by kernel_rfl
@[simp] theorem Tb.in108:intT Tryz.prog 108=none:=by kernel_rfl
@[simp] theorem Tb.un108:(Tryz.prog.underlying 108).isSome=true:=by kernel_rfl
@[simp] theorem Tb.zr108:zrT Tryz.prog 108=[.slice none 0 0,.slice none 0 0,.slice none 0 0,.map none,.slice none 0 0,.slice none 0 0,.slice none 0 0,.slice none 0 0,.map none]:=by kernel_rfl
@[simp] theorem Tb.za108:(Tryz.prog.info? 108).any (·.zero.isSome)=true:=by kernel_rfl
@[simp] theorem Tb.zb108:((Tryz.prog.info? 108).bind (·.zero)).isSome=true:=by kernel_rfl
@[simp] theorem Tb.el108:elOK Tryz.prog 108:=elOK_of (by kernel_rfl)
@[simp] theorem Tb.bl108:bldT Tryz.prog 108=some ([.slice none 0 0,.slice none 0 0,.slice none 0 0,.map none,.slice none 0 0,.slice none 0 0,.slice none 0 0,.slice none 0 0,.map none],[(0,2),(2,1),(3,1),(4,1),(5,1),(6,1),(7,1),(8,1)]):=by kernel_rfl
@[simp] theorem Tb.tk110:tk Tryz.prog 110=1:=by kernel_rfl
@[simp] theorem Tb.sz110:Program.cellsOf Tryz.prog 110=1:=by kernel_rfl
@[simp] theorem Tb.sl110:slT Tryz.prog 110=none:=by kernel_rfl
@[simp] theorem Tb.st110:isStr Tryz.prog 110=false:=by kernel_rfl
@[simp] theorem Tb.bo110:isBool Tryz.prog 110=false:=by kernel_rfl
@[simp] theorem Tb.in110:intT Tryz.prog 110=none:=by kernel_rfl
@[simp] theorem Tb.un110:(Tryz.prog.underlying 110).isSome=true:=by kernel_rfl
@[simp] theorem Tb.zr110:zrT Tryz.prog 110=[.nilFunc]:=by kernel_rfl
@[simp] theorem Tb.za110:(Tryz.prog.info? 110).any (·.zero.isSome)=true:=by kernel_rfl
@[simp] theorem Tb.zb110:((Tryz.prog.info? 110).bind (·.zero)).isSome=true:=by kernel_rfl
@[simp] theorem Tb.el110:elOK Tryz.prog 110:=elOK_of (by kernel_rfl)
@[simp] theorem Tb.tk115:tk Tryz.prog 115=2:=by kernel_rfl
@[simp] theorem Tb.sz115:Program.cellsOf Tryz.prog 115=2:=by kernel_rfl
@[simp] theorem Tb.sl115:slT Tryz.prog 115=none:=by kernel_rfl
@[simp] theorem Tb.ar115:arT Tryz.prog 115=some (2,3):=by kernel_rfl
@[simp] theorem Tb.st115:isStr Tryz.prog 115=false:=by kernel_rfl
@[simp] theorem Tb.bo115:isBool Tryz.prog 115=false:=by kernel_rfl
@[simp] theorem Tb.in115:intT Tryz.prog 115=none:=by kernel_rfl
@[simp] theorem Tb.un115:(Tryz.prog.underlying 115).isSome=true:=by kernel_rfl
@[simp] theorem Tb.zr115:zrT Tryz.prog 115=[.int .i64 0,.int .i64 0]:=by kernel_rfl
@[simp] theorem Tb.za115:(Tryz.prog.info? 115).any (·.zero.isSome)=true:=by kernel_rfl
@[simp] theorem Tb.zb115:((Tryz.prog.info? 115).bind (·.zero)).isSome=true:=by kernel_rfl
@[simp] theorem Tb.el115:elOK Tryz.prog 115:=elOK_of (by kernel_rfl)
@[simp] theorem Tb.bl115:bldT Tryz.prog 115=some ([.int .i64 0,.int .i64 0],[(0,1),(1,1)]):=by kernel_rfl
@[simp] theorem Tb.tk118:tk Tryz.prog 118=1:=by kernel_rfl
@[simp] theorem Tb.sz118:Program.cellsOf Tryz.prog 118=1:=by kernel_rfl
@[simp] theorem Tb.sl118:slT Tryz.prog 118=some 164:=by kernel_rfl
@[simp] theorem Tb.st118:isStr Tryz.prog 118=false:=by kernel_rfl
@[simp] theorem Tb.bo118:isBool Tryz.prog 118=false:=by kernel_rfl
@[simp] theorem Tb.in118:intT Tryz.prog 118=none:=by kernel_rfl
@[simp] theorem Tb.un118:(Tryz.prog.underlying 118).isSome=true:=by kernel_rfl
@[simp] theorem Tb.zr118:zrT Tryz.prog 118=[.slice none 0 0]:=by kernel_rfl
@[simp] theorem Tb.za118:(Tryz.prog.info? 118).any (·.zero.isSome)=true:=by kernel_rfl
@[simp] theorem Tb.zb118:((Tryz.prog.info? 118).bind (·.zero)).isSome=true:=by kernel_rfl
@[simp] theorem Tb.el118:elOK Tryz.prog 118:=elOK_of (by kernel_rfl)
@[simp] theorem Tb.tk120:tk Tryz.prog 120=2:=by kernel_rfl
@[simp] theorem Tb.sz120:Program.cellsOf Tryz.prog 120=5:=by kernel_rfl
@[simp] theorem Tb.ff120_0:foff Tryz.prog 120 0=some (0,25):=by kernel_rfl
@[simp] theorem Tb.ff120_1:foff Tryz.prog 120 1=some (2,118):=by kernel_rfl
@[simp] theorem Tb.ff120_2:foff Tryz.prog 120 2=some (3,61):=by kernel_rfl
@[simp] theorem Tb.ff120_3:foff Tryz.prog 120 3=some (4,26):=by kernel_rfl
@[simp] theorem Tb.cm120:cmpT Tryz.prog 120=none:=by kernel_rfl
@[simp] theorem Tb.sl120:slT Tryz.prog 120=none:=by kernel_rfl
@[simp] theorem Tb.st120:isStr Tryz.prog 120=false:=by kernel_rfl
@[simp] theorem Tb.bo120:isBool Tryz.prog 120=false:=by kernel_rfl
@[simp] theorem Tb.in120:intT Tryz.prog 120=none:=by kernel_rfl
@[simp] theorem Tb.un120:(Tryz.prog.underlying 120).isSome=true:=by kernel_rfl
@[simp] theorem Tb.zr120:zrT Tryz.prog 120=[.slice none 0 0,.slice none 0 0,.slice none 0 0,.slice none 0 0,.slice none 0 0]:=by kernel_rfl
@[simp] theorem Tb.za120:(Tryz.prog.info? 120).any (·.zero.isSome)=true:=by kernel_rfl
@[simp] theorem Tb.zb120:((Tryz.prog.info? 120).bind (·.zero)).isSome=true:=by kernel_rfl
@[simp] theorem Tb.el120:elOK Tryz.prog 120:=elOK_of (by kernel_rfl)
@[simp] theorem Tb.bl120:bldT Tryz.prog 120=some ([.slice none 0 0,.slice none 0 0,.slice none 0 0,.slice none 0 0,.slice none 0 0],[(0,2),(2,1),(3,1),(4,1)]):=by kernel_rfl
@[simp] theorem Tb.tk136:tk Tryz.prog 136=1:=by kernel_rfl
@[simp] theorem Tb.sz136:Program.cellsOf Tryz.prog 136=1:=by kernel_rfl
@[simp] theorem Tb.sl136:slT Tryz.prog 136=none:=by kernel_rfl
@[simp] theorem Tb.st136:isStr Tryz.prog 136=false:=by kernel_rfl
@[simp] theorem Tb.bo136:isBool Tryz.prog 136=false:=by kernel_rfl
@[simp] theorem Tb.in136:intT Tryz.prog 136=none:=by kernel_rfl
@[simp] theorem Tb.un136:(Tryz.prog.underlying 136).isSome=true:=by kernel_rfl
@[simp] theorem Tb.zr136:zrT Tryz.prog 136=[.pointer none]:=by kernel_rfl
@[simp] theorem Tb.za136:(Tryz.prog.info? 136).any (·.zero.isSome)=true:=by kernel_rfl
@[simp] theorem Tb.zb136:((Tryz.prog.info? 136).bind (·.zero)).isSome=true:=by kernel_rfl
@[simp] theorem Tb.el136:elOK Tryz.prog 136:=elOK_of (by kernel_rfl)
@[simp] theorem Tb.tk153:tk Tryz.prog 153=2:=by kernel_rfl
@[simp] theorem Tb.sz153:Program.cellsOf Tryz.prog 153=11:=by kernel_rfl
@[simp] theorem Tb.ff153_0:foff Tryz.prog 153 0=some (0,44):=by kernel_rfl
@[simp] theorem Tb.ff153_1:foff Tryz.prog 153 1=some (5,31):=by kernel_rfl
@[simp] theorem Tb.ff153_2:foff Tryz.prog 153 2=some (10,3):=by kernel_rfl
@[simp] theorem Tb.cm153:cmpT Tryz.prog 153=none:=by kernel_rfl
@[simp] theorem Tb.sl153:slT Tryz.prog 153=none:=by kernel_rfl
@[simp] theorem Tb.st153:isStr Tryz.prog 153=false:=by kernel_rfl
@[simp] theorem Tb.bo153:isBool Tryz.prog 153=false:=by kernel_rfl
@[simp] theorem Tb.in153:intT Tryz.prog 153=none:=by kernel_rfl
@[simp] theorem Tb.un153:(Tryz.prog.underlying 153).isSome=true:=by kernel_rfl
@[simp] theorem Tb.zr153:zrT Tryz.prog 153=[.int .i64 0,.slice none 0 0,.slice none 0 0,.slice none 0 0,.slice none 0 0,.slice none 0 0,.slice none 0 0,.slice none 0 0,.slice none 0 0,.slice none 0 0,.int .i64 0]:=by kernel_rfl
@[simp] theorem Tb.za153:(Tryz.prog.info? 153).any (·.zero.isSome)=true:=by kernel_rfl
@[simp] theorem Tb.zb153:((Tryz.prog.info? 153).bind (·.zero)).isSome=true:=by kernel_rfl
@[simp] theorem Tb.el153:elOK Tryz.prog 153:=elOK_of (by kernel_rfl)
@[simp] theorem Tb.bl153:bldT Tryz.prog 153=some ([.int .i64 0,.slice none 0 0,.slice none 0 0,.slice none 0 0,.slice none 0 0,.slice none 0 0,.slice none 0 0,.slice none 0 0,.slice none 0 0,.slice none 0 0,.int .i64 0],[(0,5),(5,5),(10,1)]):=by kernel_rfl
@[simp] theorem Tb.tk164:tk Tryz.prog 164=2:=by kernel_rfl
@[simp] theorem Tb.sz164:Program.cellsOf Tryz.prog 164=2:=by kernel_rfl
@[simp] theorem Tb.ff164_0:foff Tryz.prog 164 0=some (0,3):=by kernel_rfl
@[simp] theorem Tb.ff164_1:foff Tryz.prog 164 1=some (1,3):=by kernel_rfl
@[simp] theorem Tb.cm164:cmpT Tryz.prog 164=some [.int .i64,.int .i64]:=by kernel_rfl
@[simp] theorem Tb.sl164:slT Tryz.prog 164=none:=by kernel_rfl
@[simp] theorem Tb.st164:isStr Tryz.prog 164=false:=by kernel_rfl
@[simp] theorem Tb.bo164:isBool Tryz.prog 164=false:=by kernel_rfl
@[simp] theorem Tb.in164:intT Tryz.prog 164=none:=by kernel_rfl
@[simp] theorem Tb.un164:(Tryz.prog.underlying 164).isSome=true:=by kernel_rfl
@[simp] theorem Tb.zr164:zrT Tryz.prog 164=[.int .i64 0,.int .i64 0]:=by kernel_rfl
@[simp] theorem Tb.za164:(Tryz.prog.info? 164).any (·.zero.isSome)=true:=by kernel_rfl
@[simp] theorem Tb.zb164:((Tryz.prog.info? 164).bind (·.zero)).isSome=true:=by kernel_rfl
@[simp] theorem Tb.el164:elOK Tryz.prog 164:=elOK_of (by kernel_rfl)
@[simp] theorem Tb.bl164:bldT Tryz.prog 164=some ([.int .i64 0,.int .i64 0],[(0,1),(1,1)]):=by kernel_rfl
@[simp] theorem Tb.tk167:tk Tryz.prog 167=2:=by kernel_rfl
@[simp] theorem Tb.sz167:Program.cellsOf Tryz.prog 167=5:=by kernel_rfl
@[simp] theorem Tb.sl167:slT Tryz.prog 167=none:=by kernel_rfl
@[simp] theorem Tb.ar167:arT Tryz.prog 167=some (5,9):=by kernel_rfl
@[simp] theorem Tb.st167:isStr Tryz.prog 167=false:=by kernel_rfl
@[simp] theorem Tb.bo167:isBool Tryz.prog 167=false:=by kernel_rfl
@[simp] theorem Tb.in167:intT Tryz.prog 167=none:=by kernel_rfl
@[simp] theorem Tb.un167:(Tryz.prog.underlying 167).isSome=true:=by kernel_rfl
@[simp] theorem Tb.zr167:zrT Tryz.prog 167=[.string ⟨#[]⟩,.string ⟨#[]⟩,.string ⟨#[]⟩,.string ⟨#[]⟩,.string ⟨#[]⟩]:=by kernel_rfl
@[simp] theorem Tb.za167:(Tryz.prog.info? 167).any (·.zero.isSome)=true:=by kernel_rfl
@[simp] theorem Tb.zb167:((Tryz.prog.info? 167).bind (·.zero)).isSome=true:=by kernel_rfl
@[simp] theorem Tb.el167:elOK Tryz.prog 167:=elOK_of (by kernel_rfl)
@[simp] theorem Tb.bl167:bldT Tryz.prog 167=some ([.string ⟨#[]⟩,.string ⟨#[]⟩,.string ⟨#[]⟩,.string ⟨#[]⟩,.string ⟨#[]⟩],[(0,1),(1,1),(2,1),(3,1),(4,1)]):=by kernel_rfl
@[simp] theorem Tb.tk169:tk Tryz.prog 169=2:=by kernel_rfl
@[simp] theorem Tb.sz169:Program.cellsOf Tryz.prog 169=7:=by kernel_rfl
@[simp] theorem Tb.ff169_0:foff Tryz.prog 169 0=some (0,9):=by kernel_rfl
@[simp] theorem Tb.ff169_1:foff Tryz.prog 169 1=some (1,9):=by kernel_rfl
@[simp] theorem Tb.ff169_2:foff Tryz.prog 169 2=some (2,167):=by kernel_rfl
@[simp] theorem Tb.cm169:cmpT Tryz.prog 169=none:=by kernel_rfl
@[simp] theorem Tb.sl169:slT Tryz.prog 169=none:=by kernel_rfl
@[simp] theorem Tb.st169:isStr Tryz.prog 169=false:=by kernel_rfl
@[simp] theorem Tb.bo169:isBool Tryz.prog 169=false:=by kernel_rfl
@[simp] theorem Tb.in169:intT Tryz.prog 169=none:=by kernel_rfl
@[simp] theorem Tb.un169:(Tryz.prog.underlying 169).isSome=true:=by kernel_rfl
@[simp] theorem Tb.zr169:zrT Tryz.prog 169=[.string ⟨#[]⟩,.string ⟨#[]⟩,.string ⟨#[]⟩,.string ⟨#[]⟩,.string ⟨#[]⟩,.string ⟨#[]⟩,.string ⟨#[]⟩]:=by kernel_rfl
@[simp] theorem Tb.za169:(Tryz.prog.info? 169).any (·.zero.isSome)=true:=by kernel_rfl
@[simp] theorem Tb.zb169:((Tryz.prog.info? 169).bind (·.zero)).isSome=true:=by kernel_rfl
@[simp] theorem Tb.el169:elOK Tryz.prog 169:=elOK_of (by kernel_rfl)
@[simp] theorem Tb.bl169:bldT Tryz.prog 169=some ([.string ⟨#[]⟩,.string ⟨#[]⟩,.string ⟨#[]⟩,.string ⟨#[]⟩,.string ⟨#[]⟩,.string ⟨#[]⟩,.string ⟨#[]⟩],[(0,1),(1,1),(2,5)]):=by kernel_rfl
@[simp] theorem Tb.tk170:tk Tryz.prog 170=1:=by kernel_rfl
@[simp] theorem Tb.sz170:Program.cellsOf Tryz.prog 170=1:=by kernel_rfl
@[simp] theorem Tb.sl170:slT Tryz.prog 170=some 169:=by kernel_rfl
@[simp] theorem Tb.st170:isStr Tryz.prog 170=false:=by kernel_rfl
@[simp] theorem Tb.bo170:isBool Tryz.prog 170=false:=by kernel_rfl
@[simp] theorem Tb.in170:intT Tryz.prog 170=none:=by kernel_rfl
@[simp] theorem Tb.un170:(Tryz.prog.underlying 170).isSome=true:=by kernel_rfl
@[simp] theorem Tb.zr170:zrT Tryz.prog 170=[.slice none 0 0]:=by kernel_rfl
@[simp] theorem Tb.za170:(Tryz.prog.info? 170).any (·.zero.isSome)=true:=by kernel_rfl
@[simp] theorem Tb.zb170:((Tryz.prog.info? 170).bind (·.zero)).isSome=true:=by kernel_rfl
@[simp] theorem Tb.el170:elOK Tryz.prog 170:=elOK_of (by kernel_rfl)
@[simp] theorem Tb.tk182:tk Tryz.prog 182=2:=by kernel_rfl
@[simp] theorem Tb.sz182:Program.cellsOf Tryz.prog 182=4:=by kernel_rfl
@[simp] theorem Tb.ff182_0:foff Tryz.prog 182 0=some (0,25):=by kernel_rfl
@[simp] theorem Tb.ff182_1:foff Tryz.prog 182 1=some (2,3):=by kernel_rfl
@[simp] theorem Tb.ff182_2:foff Tryz.prog 182 2=some (3,105):=by kernel_rfl
@[simp] theorem Tb.cm182:cmpT Tryz.prog 182=none:=by kernel_rfl
@[simp] theorem Tb.sl182:slT Tryz.prog 182=none:=by kernel_rfl
@[simp] theorem Tb.st182:isStr Tryz.prog 182=false:=by kernel_rfl
@[simp] theorem Tb.bo182:isBool Tryz.prog 182=false:=by kernel_rfl
@[simp] theorem Tb.in182:intT Tryz.prog 182=none:=by kernel_rfl
@[simp] theorem Tb.un182:(Tryz.prog.underlying 182).isSome=true:=by kernel_rfl
@[simp] theorem Tb.zr182:zrT Tryz.prog 182=[.slice none 0 0,.slice none 0 0,.int .i64 0,.map none]:=by kernel_rfl
@[simp] theorem Tb.za182:(Tryz.prog.info? 182).any (·.zero.isSome)=true:=by kernel_rfl
@[simp] theorem Tb.zb182:((Tryz.prog.info? 182).bind (·.zero)).isSome=true:=by kernel_rfl
@[simp] theorem Tb.el182:elOK Tryz.prog 182:=elOK_of (by kernel_rfl)
@[simp] theorem Tb.bl182:bldT Tryz.prog 182=some ([.slice none 0 0,.slice none 0 0,.int .i64 0,.map none],[(0,2),(2,1),(3,1)]):=by kernel_rfl
@[simp] theorem Tb.tk183:tk Tryz.prog 183=1:=by kernel_rfl
@[simp] theorem Tb.sz183:Program.cellsOf Tryz.prog 183=1:=by kernel_rfl
@[simp] theorem Tb.sl183:slT Tryz.prog 183=some 187:=by kernel_rfl
@[simp] theorem Tb.st183:isStr Tryz.prog 183=false:=by kernel_rfl
@[simp] theorem Tb.bo183:isBool Tryz.prog 183=false:=by kernel_rfl
@[simp] theorem Tb.in183:intT Tryz.prog 183=none:=by kernel_rfl
@[simp] theorem Tb.un183:(Tryz.prog.underlying 183).isSome=true:=by kernel_rfl
@[simp] theorem Tb.zr183:zrT Tryz.prog 183=[.slice none 0 0]:=by kernel_rfl
@[simp] theorem Tb.za183:(Tryz.prog.info? 183).any (·.zero.isSome)=true:=by kernel_rfl
@[simp] theorem Tb.zb183:((Tryz.prog.info? 183).bind (·.zero)).isSome=true:=by kernel_rfl
@[simp] theorem Tb.el183:elOK Tryz.prog 183:=elOK_of (by kernel_rfl)
@[simp] theorem Tb.tk187:tk Tryz.prog 187=2:=by kernel_rfl
@[simp] theorem Tb.sz187:Program.cellsOf Tryz.prog 187=4:=by kernel_rfl
@[simp] theorem Tb.ff187_0:foff Tryz.prog 187 0=some (0,3):=by kernel_rfl
@[simp] theorem Tb.ff187_1:foff Tryz.prog 187 1=some (1,3):=by kernel_rfl
@[simp] theorem Tb.ff187_2:foff Tryz.prog 187 2=some (2,26):=by kernel_rfl
@[simp] theorem Tb.ff187_3:foff Tryz.prog 187 3=some (3,4):=by kernel_rfl
@[simp] theorem Tb.cm187:cmpT Tryz.prog 187=none:=by kernel_rfl
@[simp] theorem Tb.sl187:slT Tryz.prog 187=none:=by kernel_rfl
@[simp] theorem Tb.st187:isStr Tryz.prog 187=false:=by kernel_rfl
@[simp] theorem Tb.bo187:isBool Tryz.prog 187=false:=by kernel_rfl
@[simp] theorem Tb.in187:intT Tryz.prog 187=none:=by kernel_rfl
@[simp] theorem Tb.un187:(Tryz.prog.underlying 187).isSome=true:=by kernel_rfl
@[simp] theorem Tb.zr187:zrT Tryz.prog 187=[.int .i64 0,.int .i64 0,.slice none 0 0,.bool false]:=by kernel_rfl
@[simp] theorem Tb.za187:(Tryz.prog.info? 187).any (·.zero.isSome)=true:=by kernel_rfl
@[simp] theorem Tb.zb187:((Tryz.prog.info? 187).bind (·.zero)).isSome=true:=by kernel_rfl
@[simp] theorem Tb.el187:elOK Tryz.prog 187:=elOK_of (by kernel_rfl)
@[simp] theorem Tb.bl187:bldT Tryz.prog 187=some ([.int .i64 0,.int .i64 0,.slice none 0 0,.bool false],[(0,1),(1,1),(2,1),(3,1)]):=by kernel_rfl
@[simp] theorem Tb.tk196:tk Tryz.prog 196=1:=by kernel_rfl
@[simp] theorem Tb.sz196:Program.cellsOf Tryz.prog 196=1:=by kernel_rfl
@[simp] theorem Tb.sl196:slT Tryz.prog 196=none:=by kernel_rfl
@[simp] theorem Tb.mp196:mpT Tryz.prog 196=none:=by kernel_rfl
@[simp] theorem Tb.ms196:msT Tryz.prog 196=none:=by kernel_rfl
@[simp] theorem Tb.pk196:pkT Tryz.prog 196=some (73,true,[.int .i64 0,.str []]):=by kernel_rfl
@[simp] theorem Tb.st196:isStr Tryz.prog 196=false:=by kernel_rfl
@[simp] theorem Tb.bo196:isBool Tryz.prog 196=false:=by kernel_rfl
@[simp] theorem Tb.in196:intT Tryz.prog 196=none:=by kernel_rfl
@[simp] theorem Tb.un196:(Tryz.prog.underlying 196).isSome=true:=by kernel_rfl
@[simp] theorem Tb.zr196:zrT Tryz.prog 196=[.map none]:=by kernel_rfl
@[simp] theorem Tb.za196:(Tryz.prog.info? 196).any (·.zero.isSome)=true:=by kernel_rfl
@[simp] theorem Tb.zb196:((Tryz.prog.info? 196).bind (·.zero)).isSome=true:=by kernel_rfl
@[simp] theorem Tb.el196:elOK Tryz.prog 196:=elOK_of (by kernel_rfl)
@[simp] theorem Tb.tk207:tk Tryz.prog 207=1:=by kernel_rfl
@[simp] theorem Tb.sz207:Program.cellsOf Tryz.prog 207=1:=by kernel_rfl
@[simp] theorem Tb.sl207:slT Tryz.prog 207=none:=by kernel_rfl
@[simp] theorem Tb.st207:isStr Tryz.prog 207=false:=by kernel_rfl
@[simp] theorem Tb.bo207:isBool Tryz.prog 207=false:=by kernel_rfl
@[simp] theorem Tb.in207:intT Tryz.prog 207=none:=by kernel_rfl
@[simp] theorem Tb.un207:(Tryz.prog.underlying 207).isSome=true:=by kernel_rfl
@[simp] theorem Tb.zr207:zrT Tryz.prog 207=[.nilFunc]:=by kernel_rfl
@[simp] theorem Tb.za207:(Tryz.prog.info? 207).any (·.zero.isSome)=true:=by kernel_rfl
@[simp] theorem Tb.zb207:((Tryz.prog.info? 207).bind (·.zero)).isSome=true:=by kernel_rfl
@[simp] theorem Tb.el207:elOK Tryz.prog 207:=elOK_of (by kernel_rfl)
@[simp] theorem Tb.tk208:tk Tryz.prog 208=2:=by kernel_rfl
@[simp] theorem Tb.sz208:Program.cellsOf Tryz.prog 208=3:=by kernel_rfl
@[simp] theorem Tb.sl208:slT Tryz.prog 208=none:=by kernel_rfl
@[simp] theorem Tb.ar208:arT Tryz.prog 208=some (3,207):=by kernel_rfl
@[simp] theorem Tb.st208:isStr Tryz.prog 208=false:=by kernel_rfl
@[simp] theorem Tb.bo208:isBool Tryz.prog 208=false:=by kernel_rfl
@[simp] theorem Tb.in208:intT Tryz.prog 208=none:=by kernel_rfl
@[simp] theorem Tb.un208:(Tryz.prog.underlying 208).isSome=true:=by kernel_rfl
@[simp] theorem Tb.zr208:zrT Tryz.prog 208=[.nilFunc,.nilFunc,.nilFunc]:=by kernel_rfl
@[simp] theorem Tb.za208:(Tryz.prog.info? 208).any (·.zero.isSome)=true:=by kernel_rfl
@[simp] theorem Tb.zb208:((Tryz.prog.info? 208).bind (·.zero)).isSome=true:=by kernel_rfl
@[simp] theorem Tb.el208:elOK Tryz.prog 208:=elOK_of (by kernel_rfl)
@[simp] theorem Tb.bl208:bldT Tryz.prog 208=some ([.nilFunc,.nilFunc,.nilFunc],[(0,1),(1,1),(2,1)]):=by kernel_rfl
@[simp] theorem Tb.tk211:tk Tryz.prog 211=2:=by kernel_rfl
@[simp] theorem Tb.sz211:Program.cellsOf Tryz.prog 211=3:=by kernel_rfl
@[simp] theorem Tb.ff211_0:foff Tryz.prog 211 0=some (0,4):=by kernel_rfl
@[simp] theorem Tb.ff211_1:foff Tryz.prog 211 1=some (1,3):=by kernel_rfl
@[simp] theorem Tb.ff211_2:foff Tryz.prog 211 2=some (2,4):=by kernel_rfl
@[simp] theorem Tb.cm211:cmpT Tryz.prog 211=some [.bool,.int .i64,.bool]:=by kernel_rfl
@[simp] theorem Tb.sl211:slT Tryz.prog 211=none:=by kernel_rfl
@[simp] theorem Tb.st211:isStr Tryz.prog 211=false:=by kernel_rfl
@[simp] theorem Tb.bo211:isBool Tryz.prog 211=false:=by kernel_rfl
@[simp] theorem Tb.in211:intT Tryz.prog 211=none:=by kernel_rfl
@[simp] theorem Tb.un211:(Tryz.prog.underlying 211).isSome=true:=by kernel_rfl
@[simp] theorem Tb.zr211:zrT Tryz.prog 211=[.bool false,.int .i64 0,.bool false]:=by kernel_rfl
@[simp] theorem Tb.za211:(Tryz.prog.info? 211).any (·.zero.isSome)=true:=by kernel_rfl
@[simp] theorem Tb.zb211:((Tryz.prog.info? 211).bind (·.zero)).isSome=true:=by kernel_rfl
@[simp] theorem Tb.el211:elOK Tryz.prog 211:=elOK_of (by kernel_rfl)
@[simp] theorem Tb.bl211:bldT Tryz.prog 211=some ([.bool false,.int .i64 0,.bool false],[(0,1),(1,1),(2,1)]):=by kernel_rfl
@[simp] theorem Tb.tk219:tk Tryz.prog 219=1:=by kernel_rfl
@[simp] theorem Tb.sz219:Program.cellsOf Tryz.prog 219=1:=by kernel_rfl
@[simp] theorem Tb.sl219:slT Tryz.prog 219=none:=by kernel_rfl
@[simp] theorem Tb.mp219:mpT Tryz.prog 219=some (.string,.int .i64 0):=by kernel_rfl
@[simp] theorem Tb.st219:isStr Tryz.prog 219=false:=by kernel_rfl
@[simp] theorem Tb.bo219:isBool Tryz.prog 219=false:=by kernel_rfl
@[simp] theorem Tb.in219:intT Tryz.prog 219=none:=by kernel_rfl
@[simp] theorem Tb.un219:(Tryz.prog.underlying 219).isSome=true:=by kernel_rfl
@[simp] theorem Tb.zr219:zrT Tryz.prog 219=[.map none]:=by kernel_rfl
@[simp] theorem Tb.za219:(Tryz.prog.info? 219).any (·.zero.isSome)=true:=by kernel_rfl
@[simp] theorem Tb.zb219:((Tryz.prog.info? 219).bind (·.zero)).isSome=true:=by kernel_rfl
@[simp] theorem Tb.el219:elOK Tryz.prog 219:=elOK_of (by kernel_rfl)
@[simp] theorem Tb.tk222:tk Tryz.prog 222=2:=by kernel_rfl
@[simp] theorem Tb.sz222:Program.cellsOf Tryz.prog 222=5:=by kernel_rfl
@[simp] theorem Tb.sl222:slT Tryz.prog 222=none:=by kernel_rfl
@[simp] theorem Tb.ar222:arT Tryz.prog 222=some (5,41):=by kernel_rfl
@[simp] theorem Tb.st222:isStr Tryz.prog 222=false:=by kernel_rfl
@[simp] theorem Tb.bo222:isBool Tryz.prog 222=false:=by kernel_rfl
@[simp] theorem Tb.in222:intT Tryz.prog 222=none:=by kernel_rfl
@[simp] theorem Tb.un222:(Tryz.prog.underlying 222).isSome=true:=by kernel_rfl
@[simp] theorem Tb.zr222:zrT Tryz.prog 222=[.slice none 0 0,.slice none 0 0,.slice none 0 0,.slice none 0 0,.slice none 0 0]:=by kernel_rfl
@[simp] theorem Tb.za222:(Tryz.prog.info? 222).any (·.zero.isSome)=true:=by kernel_rfl
@[simp] theorem Tb.zb222:((Tryz.prog.info? 222).bind (·.zero)).isSome=true:=by kernel_rfl
@[simp] theorem Tb.el222:elOK Tryz.prog 222:=elOK_of (by kernel_rfl)
@[simp] theorem Tb.bl222:bldT Tryz.prog 222=some ([.slice none 0 0,.slice none 0 0,.slice none 0 0,.slice none 0 0,.slice none 0 0],[(0,1),(1,1),(2,1),(3,1),(4,1)]):=by kernel_rfl
@[simp] theorem Tb.tk223:tk Tryz.prog 223=1:=by kernel_rfl
@[simp] theorem Tb.sz223:Program.cellsOf Tryz.prog 223=1:=by kernel_rfl
@[simp] theorem Tb.sl223:slT Tryz.prog 223=none:=by kernel_rfl
@[simp] theorem Tb.st223:isStr Tryz.prog 223=false:=by kernel_rfl
@[simp] theorem Tb.bo223:isBool Tryz.prog 223=false:=by kernel_rfl
@[simp] theorem Tb.in223:intT Tryz.prog 223=none:=by kernel_rfl
@[simp] theorem Tb.un223:(Tryz.prog.underlying 223).isSome=true:=by kernel_rfl
@[simp] theorem Tb.zr223:zrT Tryz.prog 223=[.nilFunc]:=by kernel_rfl
@[simp] theorem Tb.za223:(Tryz.prog.info? 223).any (·.zero.isSome)=true:=by kernel_rfl
@[simp] theorem Tb.zb223:((Tryz.prog.info? 223).bind (·.zero)).isSome=true:=by kernel_rfl
@[simp] theorem Tb.el223:elOK Tryz.prog 223:=elOK_of (by kernel_rfl)
@[simp] theorem Tb.tk224:tk Tryz.prog 224=1:=by kernel_rfl
@[simp] theorem Tb.sz224:Program.cellsOf Tryz.prog 224=1:=by kernel_rfl
@[simp] theorem Tb.sl224:slT Tryz.prog 224=none:=by kernel_rfl
@[simp] theorem Tb.st224:isStr Tryz.prog 224=false:=by kernel_rfl
@[simp] theorem Tb.bo224:isBool Tryz.prog 224=false:=by kernel_rfl
@[simp] theorem Tb.in224:intT Tryz.prog 224=none:=by kernel_rfl
@[simp] theorem Tb.un224:(Tryz.prog.underlying 224).isSome=true:=by kernel_rfl
@[simp] theorem Tb.zr224:zrT Tryz.prog 224=[.nilFunc]:=by kernel_rfl
@[simp] theorem Tb.za224:(Tryz.prog.info? 224).any (·.zero.isSome)=true:=by kernel_rfl
@[simp] theorem Tb.zb224:((Tryz.prog.info? 224).bind (·.zero)).isSome=true:=by kernel_rfl
@[simp] theorem Tb.el224:elOK Tryz.prog 224:=elOK_of (by kernel_rfl)
@[simp] theorem Tb.tk226:tk Tryz.prog 226=2:=by kernel_rfl
@[simp] theorem Tb.sz226:Program.cellsOf Tryz.prog 226=12:=by kernel_rfl
@[simp] theorem Tb.ff226_0:foff Tryz.prog 226 0=some (0,9):=by kernel_rfl
@[simp] theorem Tb.ff226_1:foff Tryz.prog 226 1=some (1,9):=by kernel_rfl
@[simp] theorem Tb.ff226_2:foff Tryz.prog 226 2=some (2,222):=by kernel_rfl
@[simp] theorem Tb.ff226_3:foff Tryz.prog 226 3=some (7,9):=by kernel_rfl
@[simp] theorem Tb.ff226_4:foff Tryz.prog 226 4=some (8,9):=by kernel_rfl
@[simp] theorem Tb.ff226_5:foff Tryz.prog 226 5=some (9,3):=by kernel_rfl
@[simp] theorem Tb.ff226_6:foff Tryz.prog 226 6=some (10,223):=by kernel_rfl
@[simp] theorem Tb.ff226_7:foff Tryz.prog 226 7=some (11,224):=by kernel_rfl
@[simp] theorem Tb.cm226:cmpT Tryz.prog 226=none:=by kernel_rfl
@[simp] theorem Tb.sl226:slT Tryz.prog 226=none:=by kernel_rfl
@[simp] theorem Tb.st226:isStr Tryz.prog 226=false:=by kernel_rfl
@[simp] theorem Tb.bo226:isBool Tryz.prog 226=false:=by kernel_rfl
@[simp] theorem Tb.in226:intT Tryz.prog 226=none:=by kernel_rfl
@[simp] theorem Tb.un226:(Tryz.prog.underlying 226).isSome=true:=by kernel_rfl
@[simp] theorem Tb.zr226:zrT Tryz.prog 226=[.string ⟨#[]⟩,.string ⟨#[]⟩,.slice none 0 0,.slice none 0 0,.slice none 0 0,.slice none 0 0,.slice none 0 0,.string ⟨#[]⟩,.string ⟨#[]⟩,.int .i64 0,.nilFunc,.nilFunc]:=by kernel_rfl
@[simp] theorem Tb.za226:(Tryz.prog.info? 226).any (·.zero.isSome)=true:=by kernel_rfl
@[simp] theorem Tb.zb226:((Tryz.prog.info? 226).bind (·.zero)).isSome=true:=by kernel_rfl
@[simp] theorem Tb.el226:elOK Tryz.prog 226:=elOK_of (by kernel_rfl)
@[simp] theorem Tb.bl226:bldT Tryz.prog 226=some ([.string ⟨#[]⟩,.string ⟨#[]⟩,.slice none 0 0,.slice none 0 0,.slice none 0 0,.slice none 0 0,.slice none 0 0,.string ⟨#[]⟩,.string ⟨#[]⟩,.int .i64 0,.nilFunc,.nilFunc],[(0,1),(1,1),(2,5),(7,1),(8,1),(9,1),(10,1),(11,1)]):=by kernel_rfl
@[simp] theorem Tb.tk241:tk Tryz.prog 241=1:=by kernel_rfl
@[simp] theorem Tb.sz241:Program.cellsOf Tryz.prog 241=1:=by kernel_rfl
@[simp] theorem Tb.sl241:slT Tryz.prog 241=some 26:=by kernel_rfl
@[simp] theorem Tb.st241:isStr Tryz.prog 241=false:=by kernel_rfl
@[simp] theorem Tb.bo241:isBool Tryz.prog 241=false:=by kernel_rfl
@[simp] theorem Tb.in241:intT Tryz.prog 241=none:=by kernel_rfl
@[simp] theorem Tb.un241:(Tryz.prog.underlying 241).isSome=true:=by kernel_rfl
@[simp] theorem Tb.zr241:zrT Tryz.prog 241=[.slice none 0 0]:=by kernel_rfl
@[simp] theorem Tb.za241:(Tryz.prog.info? 241).any (·.zero.isSome)=true:=by kernel_rfl
@[simp] theorem Tb.zb241:((Tryz.prog.info? 241).bind (·.zero)).isSome=true:=by kernel_rfl
@[simp] theorem Tb.el241:elOK Tryz.prog 241:=elOK_of (by kernel_rfl)
@[simp] theorem Tb.tk246:tk Tryz.prog 246=1:=by kernel_rfl
@[simp] theorem Tb.sz246:Program.cellsOf Tryz.prog 246=1:=by kernel_rfl
@[simp] theorem Tb.sl246:slT Tryz.prog 246=some 250:=by kernel_rfl
@[simp] theorem Tb.st246:isStr Tryz.prog 246=false:=by kernel_rfl
@[simp] theorem Tb.bo246:isBool Tryz.prog 246=false:=by kernel_rfl
@[simp] theorem Tb.in246:intT Tryz.prog 246=none:=by kernel_rfl
@[simp] theorem Tb.un246:(Tryz.prog.underlying 246).isSome=true:=by kernel_rfl
@[simp] theorem Tb.zr246:zrT Tryz.prog 246=[.slice none 0 0]:=by kernel_rfl
@[simp] theorem Tb.za246:(Tryz.prog.info? 246).any (·.zero.isSome)=true:=by kernel_rfl
@[simp] theorem Tb.zb246:((Tryz.prog.info? 246).bind (·.zero)).isSome=true:=by kernel_rfl
@[simp] theorem Tb.el246:elOK Tryz.prog 246:=elOK_of (by kernel_rfl)
@[simp] theorem Tb.tk250:tk Tryz.prog 250=2:=by kernel_rfl
@[simp] theorem Tb.sz250:Program.cellsOf Tryz.prog 250=3:=by kernel_rfl
@[simp] theorem Tb.ff250_0:foff Tryz.prog 250 0=some (0,9):=by kernel_rfl
@[simp] theorem Tb.ff250_1:foff Tryz.prog 250 1=some (1,41):=by kernel_rfl
@[simp] theorem Tb.ff250_2:foff Tryz.prog 250 2=some (2,4):=by kernel_rfl
@[simp] theorem Tb.cm250:cmpT Tryz.prog 250=none:=by kernel_rfl
@[simp] theorem Tb.sl250:slT Tryz.prog 250=none:=by kernel_rfl
@[simp] theorem Tb.st250:isStr Tryz.prog 250=false:=by kernel_rfl
@[simp] theorem Tb.bo250:isBool Tryz.prog 250=false:=by kernel_rfl
@[simp] theorem Tb.in250:intT Tryz.prog 250=none:=by kernel_rfl
@[simp] theorem Tb.un250:(Tryz.prog.underlying 250).isSome=true:=by kernel_rfl
@[simp] theorem Tb.zr250:zrT Tryz.prog 250=[.string ⟨#[]⟩,.slice none 0 0,.bool false]:=by kernel_rfl
@[simp] theorem Tb.za250:(Tryz.prog.info? 250).any (·.zero.isSome)=true:=by kernel_rfl
@[simp] theorem Tb.zb250:((Tryz.prog.info? 250).bind (·.zero)).isSome=true:=by kernel_rfl
@[simp] theorem Tb.el250:elOK Tryz.prog 250:=elOK_of (by kernel_rfl)
@[simp] theorem Tb.bl250:bldT Tryz.prog 250=some ([.string ⟨#[]⟩,.slice none 0 0,.bool false],[(0,1),(1,1),(2,1)]):=by kernel_rfl
@[simp] theorem Tb.tk273:tk Tryz.prog 273=1:=by kernel_rfl
@[simp] theorem Tb.sz273:Program.cellsOf Tryz.prog 273=1:=by kernel_rfl
@[simp] theorem Tb.sl273:slT Tryz.prog 273=some 275:=by kernel_rfl
@[simp] theorem Tb.st273:isStr Tryz.prog 273=false:=by kernel_rfl
@[simp] theorem Tb.bo273:isBool Tryz.prog 273=false:=by kernel_rfl
@[simp] theorem Tb.in273:intT Tryz.prog 273=none:=by kernel_rfl
@[simp] theorem Tb.un273:(Tryz.prog.underlying 273).isSome=true:=by kernel_rfl
@[simp] theorem Tb.zr273:zrT Tryz.prog 273=[.slice none 0 0]:=by kernel_rfl
@[simp] theorem Tb.za273:(Tryz.prog.info? 273).any (·.zero.isSome)=true:=by kernel_rfl
@[simp] theorem Tb.zb273:((Tryz.prog.info? 273).bind (·.zero)).isSome=true:=by kernel_rfl
@[simp] theorem Tb.el273:elOK Tryz.prog 273:=elOK_of (by kernel_rfl)
@[simp] theorem Tb.tk275:tk Tryz.prog 275=2:=by kernel_rfl
@[simp] theorem Tb.sz275:Program.cellsOf Tryz.prog 275=5:=by kernel_rfl
@[simp] theorem Tb.ff275_0:foff Tryz.prog 275 0=some (0,3):=by kernel_rfl
@[simp] theorem Tb.ff275_1:foff Tryz.prog 275 1=some (1,3):=by kernel_rfl
@[simp] theorem Tb.ff275_2:foff Tryz.prog 275 2=some (2,250):=by kernel_rfl
@[simp] theorem Tb.cm275:cmpT Tryz.prog 275=none:=by kernel_rfl
@[simp] theorem Tb.sl275:slT Tryz.prog 275=none:=by kernel_rfl
@[simp] theorem Tb.st275:isStr Tryz.prog 275=false:=by kernel_rfl
@[simp] theorem Tb.bo275:isBool Tryz.prog 275=false:=by kernel_rfl
@[simp] theorem Tb.in275:intT Tryz.prog 275=none:=by kernel_rfl
@[simp] theorem Tb.un275:(Tryz.prog.underlying 275).isSome=true:=by kernel_rfl
@[simp] theorem Tb.zr275:zrT Tryz.prog 275=[.int .i64 0,.int .i64 0,.string ⟨#[]⟩,.slice none 0 0,.bool false]:=by kernel_rfl
@[simp] theorem Tb.za275:(Tryz.prog.info? 275).any (·.zero.isSome)=true:=by kernel_rfl
@[simp] theorem Tb.zb275:((Tryz.prog.info? 275).bind (·.zero)).isSome=true:=by kernel_rfl
@[simp] theorem Tb.el275:elOK Tryz.prog 275:=elOK_of (by kernel_rfl)
@[simp] theorem Tb.bl275:bldT Tryz.prog 275=some ([.int .i64 0,.int .i64 0,.string ⟨#[]⟩,.slice none 0 0,.bool false],[(0,1),(1,1),(2,3)]):=by kernel_rfl
@[simp] theorem Tb.tk278:tk Tryz.prog 278=1:=by kernel_rfl
@[simp] theorem Tb.sz278:Program.cellsOf Tryz.prog 278=1:=by kernel_rfl
@[simp] theorem Tb.sl278:slT Tryz.prog 278=none:=by kernel_rfl
@[simp] theorem Tb.st278:isStr Tryz.prog 278=false:=by kernel_rfl
@[simp] theorem Tb.bo278:isBool Tryz.prog 278=false:=by kernel_rfl
@[simp] theorem Tb.in278:intT Tryz.prog 278=none:=by kernel_rfl
@[simp] theorem Tb.un278:(Tryz.prog.underlying 278).isSome=true:=by kernel_rfl
@[simp] theorem Tb.zr278:zrT Tryz.prog 278=[.pointer none]:=by kernel_rfl
@[simp] theorem Tb.za278:(Tryz.prog.info? 278).any (·.zero.isSome)=true:=by kernel_rfl
@[simp] theorem Tb.zb278:((Tryz.prog.info? 278).bind (·.zero)).isSome=true:=by kernel_rfl
@[simp] theorem Tb.el278:elOK Tryz.prog 278:=elOK_of (by kernel_rfl)
@[simp] theorem Tb.tk279:tk Tryz.prog 279=1:=by kernel_rfl
@[simp] theorem Tb.sz279:Program.cellsOf Tryz.prog 279=1:=by kernel_rfl
@[simp] theorem Tb.sl279:slT Tryz.prog 279=none:=by kernel_rfl
@[simp] theorem Tb.st279:isStr Tryz.prog 279=false:=by kernel_rfl
@[simp] theorem Tb.bo279:isBool Tryz.prog 279=false:=by kernel_rfl
@[simp] theorem Tb.in279:intT Tryz.prog 279=none:=by kernel_rfl
@[simp] theorem Tb.un279:(Tryz.prog.underlying 279).isSome=true:=by kernel_rfl
@[simp] theorem Tb.zr279:zrT Tryz.prog 279=[.nilFunc]:=by kernel_rfl
@[simp] theorem Tb.za279:(Tryz.prog.info? 279).any (·.zero.isSome)=true:=by kernel_rfl
@[simp] theorem Tb.zb279:((Tryz.prog.info? 279).bind (·.zero)).isSome=true:=by kernel_rfl
@[simp] theorem Tb.el279:elOK Tryz.prog 279:=elOK_of (by kernel_rfl)
@[simp] theorem Tb.tk280:tk Tryz.prog 280=2:=by kernel_rfl
@[simp] theorem Tb.sz280:Program.cellsOf Tryz.prog 280=3:=by kernel_rfl
@[simp] theorem Tb.sl280:slT Tryz.prog 280=none:=by kernel_rfl
@[simp] theorem Tb.ar280:arT Tryz.prog 280=some (3,279):=by kernel_rfl
@[simp] theorem Tb.st280:isStr Tryz.prog 280=false:=by kernel_rfl
@[simp] theorem Tb.bo280:isBool Tryz.prog 280=false:=by kernel_rfl
@[simp] theorem Tb.in280:intT Tryz.prog 280=none:=by kernel_rfl
@[simp] theorem Tb.un280:(Tryz.prog.underlying 280).isSome=true:=by kernel_rfl
@[simp] theorem Tb.zr280:zrT Tryz.prog 280=[.nilFunc,.nilFunc,.nilFunc]:=by kernel_rfl
@[simp] theorem Tb.za280:(Tryz.prog.info? 280).any (·.zero.isSome)=true:=by kernel_rfl
@[simp] theorem Tb.zb280:((Tryz.prog.info? 280).bind (·.zero)).isSome=true:=by kernel_rfl
@[simp] theorem Tb.el280:elOK Tryz.prog 280:=elOK_of (by kernel_rfl)
@[simp] theorem Tb.bl280:bldT Tryz.prog 280=some ([.nilFunc,.nilFunc,.nilFunc],[(0,1),(1,1),(2,1)]):=by kernel_rfl
@[simp] theorem Tb.tk282:tk Tryz.prog 282=2:=by kernel_rfl
@[simp] theorem Tb.sz282:Program.cellsOf Tryz.prog 282=9:=by kernel_rfl
@[simp] theorem Tb.ff282_0:foff Tryz.prog 282 0=some (0,44):=by kernel_rfl
@[simp] theorem Tb.ff282_1:foff Tryz.prog 282 1=some (5,219):=by kernel_rfl
@[simp] theorem Tb.ff282_2:foff Tryz.prog 282 2=some (6,280):=by kernel_rfl
@[simp] theorem Tb.cm282:cmpT Tryz.prog 282=none:=by kernel_rfl
@[simp] theorem Tb.sl282:slT Tryz.prog 282=none:=by kernel_rfl
@[simp] theorem Tb.st282:isStr Tryz.prog 282=false:=by kernel_rfl
@[simp] theorem Tb.bo282:isBool Tryz.prog 282=false:=by kernel_rfl
@[simp] theorem Tb.in282:intT Tryz.prog 282=none:=by kernel_rfl
@[simp] theorem Tb.un282:(Tryz.prog.underlying 282).isSome=true:=by kernel_rfl
@[simp] theorem Tb.zr282:zrT Tryz.prog 282=[.int .i64 0,.slice none 0 0,.slice none 0 0,.slice none 0 0,.slice none 0 0,.map none,.nilFunc,.nilFunc,.nilFunc]:=by kernel_rfl
@[simp] theorem Tb.za282:(Tryz.prog.info? 282).any (·.zero.isSome)=true:=by kernel_rfl
@[simp] theorem Tb.zb282:((Tryz.prog.info? 282).bind (·.zero)).isSome=true:=by kernel_rfl
@[simp] theorem Tb.el282:elOK Tryz.prog 282:=elOK_of (by kernel_rfl)
@[simp] theorem Tb.bl282:bldT Tryz.prog 282=some ([.int .i64 0,.slice none 0 0,.slice none 0 0,.slice none 0 0,.slice none 0 0,.map none,.nilFunc,.nilFunc,.nilFunc],[(0,5),(5,1),(6,3)]):=by kernel_rfl
@[simp] theorem Tb.tk284:tk Tryz.prog 284=2:=by kernel_rfl
@[simp] theorem Tb.sz284:Program.cellsOf Tryz.prog 284=168:=by kernel_rfl
@[simp] theorem Tb.sl284:slT Tryz.prog 284=none:=by kernel_rfl
@[simp] theorem Tb.ar284:arT Tryz.prog 284=some (14,226):=by kernel_rfl
@[simp] theorem Tb.st284:isStr Tryz.prog 284=false:=by kernel_rfl
@[simp] theorem Tb.bo284:isBool Tryz.prog 284=false:=by kernel_rfl
@[simp] theorem Tb.in284:intT Tryz.prog 284=none:=by kernel_rfl
@[simp] theorem Tb.un284:(Tryz.prog.underlying 284).isSome=true:=by kernel_rfl
@[simp] theorem Tb.zr284:zrT Tryz.prog 284=[.string ⟨#[]⟩,.string ⟨#[]⟩,.slice none 0 0,.slice none 0 0,.slice none 0 0,.slice none 0 0,.slice none 0 0,.string ⟨#[]⟩,.string ⟨#[]⟩,.int .i64 0,.nilFunc,.nilFunc,.string ⟨#[]⟩,.string ⟨#[]⟩,.slice none 0 0,.slice none 0 0,.slice none 0 0,.slice none 0 0,.slice none 0 0,.string ⟨#[]⟩,.string ⟨#[]⟩,.int .i64 0,.nilFunc,.nilFunc,.string ⟨#[]⟩,.string ⟨#[]⟩,.slice none 0 0,.slice none 0 0,.slice none 0 0,.slice none 0 0,.slice none 0 0,.string ⟨#[]⟩,.string ⟨#[]⟩,.int .i64 0,.nilFunc,.nilFunc,.string ⟨#[]⟩,.string ⟨#[]⟩,.slice none 0 0,.slice none 0 0,.slice none 0 0,.slice none 0 0,.slice none 0 0,.string ⟨#[]⟩,.string ⟨#[]⟩,.int .i64 0,.nilFunc,.nilFunc,.string ⟨#[]⟩,.string ⟨#[]⟩,.slice none 0 0,.slice none 0 0,.slice none 0 0,.slice none 0 0,.slice none 0 0,.string ⟨#[]⟩,.string ⟨#[]⟩,.int .i64 0,.nilFunc,.nilFunc,.string ⟨#[]⟩,.string ⟨#[]⟩,.slice none 0 0,.slice none 0 0,.slice none 0 0,.slice none 0 0,.slice none 0 0,.string ⟨#[]⟩,.string ⟨#[]⟩,.int .i64 0,.nilFunc,.nilFunc,.string ⟨#[]⟩,.string ⟨#[]⟩,.slice none 0 0,.slice none 0 0,.slice none 0 0,.slice none 0 0,.slice none 0 0,.string ⟨#[]⟩,.string ⟨#[]⟩,.int .i64 0,.nilFunc,.nilFunc,.string ⟨#[]⟩,.string ⟨#[]⟩,.slice none 0 0,.slice none 0 0,.slice none 0 0,.slice none 0 0,.slice none 0 0,.string ⟨#[]⟩,.string ⟨#[]⟩,.int .i64 0,.nilFunc,.nilFunc,.string ⟨#[]⟩,.string ⟨#[]⟩,.slice none 0 0,.slice none 0 0,.slice none 0 0,.slice none 0 0,.slice none 0 0,.string ⟨#[]⟩,.string ⟨#[]⟩,.int .i64 0,.nilFunc,.nilFunc,.string ⟨#[]⟩,.string ⟨#[]⟩,.slice none 0 0,.slice none 0 0,.slice none 0 0,.slice none 0 0,.slice none 0 0,.string ⟨#[]⟩,.string ⟨#[]⟩,.int .i64 0,.nilFunc,.nilFunc,.string ⟨#[]⟩,.string ⟨#[]⟩,.slice none 0 0,.slice none 0 0,.slice none 0 0,.slice none 0 0,.slice none 0 0,.string ⟨#[]⟩,.string ⟨#[]⟩,.int .i64 0,.nilFunc,.nilFunc,.string ⟨#[]⟩,.string ⟨#[]⟩,.slice none 0 0,.slice none 0 0,.slice none 0 0,.slice none 0 0,.slice none 0 0,.string ⟨#[]⟩,.string ⟨#[]⟩,.int .i64 0,.nilFunc,.nilFunc,.string ⟨#[]⟩,.string ⟨#[]⟩,.slice none 0 0,.slice none 0 0,.slice none 0 0,.slice none 0 0,.slice none 0 0,.string ⟨#[]⟩,.string ⟨#[]⟩,.int .i64 0,.nilFunc,.nilFunc,.string ⟨#[]⟩,.string ⟨#[]⟩,.slice none 0 0,.slice none 0 0,.slice none 0 0,.slice none 0 0,.slice none 0 0,.string ⟨#[]⟩,.string ⟨#[]⟩,.int .i64 0,.nilFunc,.nilFunc]:=by kernel_rfl
@[simp] theorem Tb.za284:(Tryz.prog.info? 284).any (·.zero.isSome)=true:=by kernel_rfl
@[simp] theorem Tb.zb284:((Tryz.prog.info? 284).bind (·.zero)).isSome=true:=by kernel_rfl
@[simp] theorem Tb.el284:elOK Tryz.prog 284:=elOK_of (by kernel_rfl)
@[simp] theorem Tb.bl284:bldT Tryz.prog 284=some ([.string ⟨#[]⟩,.string ⟨#[]⟩,.slice none 0 0,.slice none 0 0,.slice none 0 0,.slice none 0 0,.slice none 0 0,.string ⟨#[]⟩,.string ⟨#[]⟩,.int .i64 0,.nilFunc,.nilFunc,.string ⟨#[]⟩,.string ⟨#[]⟩,.slice none 0 0,.slice none 0 0,.slice none 0 0,.slice none 0 0,.slice none 0 0,.string ⟨#[]⟩,.string ⟨#[]⟩,.int .i64 0,.nilFunc,.nilFunc,.string ⟨#[]⟩,.string ⟨#[]⟩,.slice none 0 0,.slice none 0 0,.slice none 0 0,.slice none 0 0,.slice none 0 0,.string ⟨#[]⟩,.string ⟨#[]⟩,.int .i64 0,.nilFunc,.nilFunc,.string ⟨#[]⟩,.string ⟨#[]⟩,.slice none 0 0,.slice none 0 0,.slice none 0 0,.slice none 0 0,.slice none 0 0,.string ⟨#[]⟩,.string ⟨#[]⟩,.int .i64 0,.nilFunc,.nilFunc,.string ⟨#[]⟩,.string ⟨#[]⟩,.slice none 0 0,.slice none 0 0,.slice none 0 0,.slice none 0 0,.slice none 0 0,.string ⟨#[]⟩,.string ⟨#[]⟩,.int .i64 0,.nilFunc,.nilFunc,.string ⟨#[]⟩,.string ⟨#[]⟩,.slice none 0 0,.slice none 0 0,.slice none 0 0,.slice none 0 0,.slice none 0 0,.string ⟨#[]⟩,.string ⟨#[]⟩,.int .i64 0,.nilFunc,.nilFunc,.string ⟨#[]⟩,.string ⟨#[]⟩,.slice none 0 0,.slice none 0 0,.slice none 0 0,.slice none 0 0,.slice none 0 0,.string ⟨#[]⟩,.string ⟨#[]⟩,.int .i64 0,.nilFunc,.nilFunc,.string ⟨#[]⟩,.string ⟨#[]⟩,.slice none 0 0,.slice none 0 0,.slice none 0 0,.slice none 0 0,.slice none 0 0,.string ⟨#[]⟩,.string ⟨#[]⟩,.int .i64 0,.nilFunc,.nilFunc,.string ⟨#[]⟩,.string ⟨#[]⟩,.slice none 0 0,.slice none 0 0,.slice none 0 0,.slice none 0 0,.slice none 0 0,.string ⟨#[]⟩,.string ⟨#[]⟩,.int .i64 0,.nilFunc,.nilFunc,.string ⟨#[]⟩,.string ⟨#[]⟩,.slice none 0 0,.slice none 0 0,.slice none 0 0,.slice none 0 0,.slice none 0 0,.string ⟨#[]⟩,.string ⟨#[]⟩,.int .i64 0,.nilFunc,.nilFunc,.string ⟨#[]⟩,.string ⟨#[]⟩,.slice none 0 0,.slice none 0 0,.slice none 0 0,.slice none 0 0,.slice none 0 0,.string ⟨#[]⟩,.string ⟨#[]⟩,.int .i64 0,.nilFunc,.nilFunc,.string ⟨#[]⟩,.string ⟨#[]⟩,.slice none 0 0,.slice none 0 0,.slice none 0 0,.slice none 0 0,.slice none 0 0,.string ⟨#[]⟩,.string ⟨#[]⟩,.int .i64 0,.nilFunc,.nilFunc,.string ⟨#[]⟩,.string ⟨#[]⟩,.slice none 0 0,.slice none 0 0,.slice none 0 0,.slice none 0 0,.slice none 0 0,.string ⟨#[]⟩,.string ⟨#[]⟩,.int .i64 0,.nilFunc,.nilFunc,.string ⟨#[]⟩,.string ⟨#[]⟩,.slice none 0 0,.slice none 0 0,.slice none 0 0,.slice none 0 0,.slice none 0 0,.string ⟨#[]⟩,.string ⟨#[]⟩,.int .i64 0,.nilFunc,.nilFunc],[(0,12),(12,12),(24,12),(36,12),(48,12),(60,12),(72,12),(84,12),(96,12),(108,12),(120,12),(132,12),(144,12),(156,12)]):=by kernel_rfl
@[simp] theorem Tb.tk291:tk Tryz.prog 291=1:=by kernel_rfl
@[simp] theorem Tb.sz291:Program.cellsOf Tryz.prog 291=1:=by kernel_rfl
@[simp] theorem Tb.sl291:slT Tryz.prog 291=some 295:=by kernel_rfl
@[simp] theorem Tb.st291:isStr Tryz.prog 291=false:=by kernel_rfl
@[simp] theorem Tb.bo291:isBool Tryz.prog 291=false:=by kernel_rfl
@[simp] theorem Tb.in291:intT Tryz.prog 291=none:=by kernel_rfl
@[simp] theorem Tb.un291:(Tryz.prog.underlying 291).isSome=true:=by kernel_rfl
@[simp] theorem Tb.zr291:zrT Tryz.prog 291=[.slice none 0 0]:=by kernel_rfl
@[simp] theorem Tb.za291:(Tryz.prog.info? 291).any (·.zero.isSome)=true:=by kernel_rfl
@[simp] theorem Tb.zb291:((Tryz.prog.info? 291).bind (·.zero)).isSome=true:=by kernel_rfl
@[simp] theorem Tb.el291:elOK Tryz.prog 291:=elOK_of (by kernel_rfl)
@[simp] theorem Tb.tk293:tk Tryz.prog 293=2:=by kernel_rfl
@[simp] theorem Tb.sz293:Program.cellsOf Tryz.prog 293=3:=by kernel_rfl
@[simp] theorem Tb.ff293_0:foff Tryz.prog 293 0=some (0,9):=by kernel_rfl
@[simp] theorem Tb.ff293_1:foff Tryz.prog 293 1=some (1,41):=by kernel_rfl
@[simp] theorem Tb.ff293_2:foff Tryz.prog 293 2=some (2,4):=by kernel_rfl
@[simp] theorem Tb.cm293:cmpT Tryz.prog 293=none:=by kernel_rfl
@[simp] theorem Tb.sl293:slT Tryz.prog 293=none:=by kernel_rfl
@[simp] theorem Tb.st293:isStr Tryz.prog 293=false:=by kernel_rfl
@[simp] theorem Tb.bo293:isBool Tryz.prog 293=false:=by kernel_rfl
@[simp] theorem Tb.in293:intT Tryz.prog 293=none:=by kernel_rfl
@[simp] theorem Tb.un293:(Tryz.prog.underlying 293).isSome=true:=by kernel_rfl
@[simp] theorem Tb.zr293:zrT Tryz.prog 293=[.string ⟨#[]⟩,.slice none 0 0,.bool false]:=by kernel_rfl
@[simp] theorem Tb.za293:(Tryz.prog.info? 293).any (·.zero.isSome)=true:=by kernel_rfl
@[simp] theorem Tb.zb293:((Tryz.prog.info? 293).bind (·.zero)).isSome=true:=by kernel_rfl
@[simp] theorem Tb.el293:elOK Tryz.prog 293:=elOK_of (by kernel_rfl)
@[simp] theorem Tb.bl293:bldT Tryz.prog 293=some ([.string ⟨#[]⟩,.slice none 0 0,.bool false],[(0,1),(1,1),(2,1)]):=by kernel_rfl
@[simp] theorem Tb.tk295:tk Tryz.prog 295=2:=by kernel_rfl
@[simp] theorem Tb.sz295:Program.cellsOf Tryz.prog 295=5:=by kernel_rfl
@[simp] theorem Tb.ff295_0:foff Tryz.prog 295 0=some (0,3):=by kernel_rfl
@[simp] theorem Tb.ff295_1:foff Tryz.prog 295 1=some (1,3):=by kernel_rfl
@[simp] theorem Tb.ff295_2:foff Tryz.prog 295 2=some (2,293):=by kernel_rfl
@[simp] theorem Tb.cm295:cmpT Tryz.prog 295=none:=by kernel_rfl
@[simp] theorem Tb.sl295:slT Tryz.prog 295=none:=by kernel_rfl
@[simp] theorem Tb.st295:isStr Tryz.prog 295=false:=by kernel_rfl
@[simp] theorem Tb.bo295:isBool Tryz.prog 295=false:=by kernel_rfl
@[simp] theorem Tb.in295:intT Tryz.prog 295=none:=by kernel_rfl
@[simp] theorem Tb.un295:(Tryz.prog.underlying 295).isSome=true:=by kernel_rfl
@[simp] theorem Tb.zr295:zrT Tryz.prog 295=[.int .i64 0,.int .i64 0,.string ⟨#[]⟩,.slice none 0 0,.bool false]:=by kernel_rfl
@[simp] theorem Tb.za295:(Tryz.prog.info? 295).any (·.zero.isSome)=true:=by kernel_rfl
@[simp] theorem Tb.zb295:((Tryz.prog.info? 295).bind (·.zero)).isSome=true:=by kernel_rfl
@[simp] theorem Tb.el295:elOK Tryz.prog 295:=elOK_of (by kernel_rfl)
@[simp] theorem Tb.bl295:bldT Tryz.prog 295=some ([.int .i64 0,.int .i64 0,.string ⟨#[]⟩,.slice none 0 0,.bool false],[(0,1),(1,1),(2,3)]):=by kernel_rfl
@[simp] theorem Tb.tk299:tk Tryz.prog 299=1:=by kernel_rfl
@[simp] theorem Tb.sz299:Program.cellsOf Tryz.prog 299=1:=by kernel_rfl
@[simp] theorem Tb.sl299:slT Tryz.prog 299=none:=by kernel_rfl
@[simp] theorem Tb.st299:isStr Tryz.prog 299=false:=by kernel_rfl
@[simp] theorem Tb.bo299:isBool Tryz.prog 299=false:=by kernel_rfl
@[simp] theorem Tb.in299:intT Tryz.prog 299=none:=by kernel_rfl
@[simp] theorem Tb.un299:(Tryz.prog.underlying 299).isSome=true:=by kernel_rfl
@[simp] theorem Tb.zr299:zrT Tryz.prog 299=[.nilFunc]:=by kernel_rfl
@[simp] theorem Tb.za299:(Tryz.prog.info? 299).any (·.zero.isSome)=true:=by kernel_rfl
@[simp] theorem Tb.zb299:((Tryz.prog.info? 299).bind (·.zero)).isSome=true:=by kernel_rfl
@[simp] theorem Tb.el299:elOK Tryz.prog 299:=elOK_of (by kernel_rfl)
@[simp] theorem Tb.tk305:tk Tryz.prog 305=1:=by kernel_rfl
@[simp] theorem Tb.sz305:Program.cellsOf Tryz.prog 305=1:=by kernel_rfl
@[simp] theorem Tb.sl305:slT Tryz.prog 305=none:=by kernel_rfl
@[simp] theorem Tb.st305:isStr Tryz.prog 305=false:=by kernel_rfl
@[simp] theorem Tb.bo305:isBool Tryz.prog 305=false:=by kernel_rfl
@[simp] theorem Tb.in305:intT Tryz.prog 305=none:=by kernel_rfl
@[simp] theorem Tb.un305:(Tryz.prog.underlying 305).isSome=true:=by kernel_rfl
@[simp] theorem Tb.zr305:zrT Tryz.prog 305=[.nilFunc]:=by kernel_rfl
@[simp] theorem Tb.za305:(Tryz.prog.info? 305).any (·.zero.isSome)=true:=by kernel_rfl
@[simp] theorem Tb.zb305:((Tryz.prog.info? 305).bind (·.zero)).isSome=true:=by kernel_rfl
@[simp] theorem Tb.el305:elOK Tryz.prog 305:=elOK_of (by kernel_rfl)
@[simp] theorem Tb.tk307:tk Tryz.prog 307=2:=by kernel_rfl
@[simp] theorem Tb.sz307:Program.cellsOf Tryz.prog 307=3:=by kernel_rfl
@[simp] theorem Tb.ff307_0:foff Tryz.prog 307 0=some (0,3):=by kernel_rfl
@[simp] theorem Tb.ff307_1:foff Tryz.prog 307 1=some (1,3):=by kernel_rfl
@[simp] theorem Tb.ff307_2:foff Tryz.prog 307 2=some (2,305):=by kernel_rfl
@[simp] theorem Tb.cm307:cmpT Tryz.prog 307=none:=by kernel_rfl
@[simp] theorem Tb.sl307:slT Tryz.prog 307=none:=by kernel_rfl
@[simp] theorem Tb.st307:isStr Tryz.prog 307=false:=by kernel_rfl
@[simp] theorem Tb.bo307:isBool Tryz.prog 307=false:=by kernel_rfl
@[simp] theorem Tb.in307:intT Tryz.prog 307=none:=by kernel_rfl
@[simp] theorem Tb.un307:(Tryz.prog.underlying 307).isSome=true:=by kernel_rfl
@[simp] theorem Tb.zr307:zrT Tryz.prog 307=[.int .i64 0,.int .i64 0,.nilFunc]:=by kernel_rfl
@[simp] theorem Tb.za307:(Tryz.prog.info? 307).any (·.zero.isSome)=true:=by kernel_rfl
@[simp] theorem Tb.zb307:((Tryz.prog.info? 307).bind (·.zero)).isSome=true:=by kernel_rfl
@[simp] theorem Tb.el307:elOK Tryz.prog 307:=elOK_of (by kernel_rfl)
@[simp] theorem Tb.bl307:bldT Tryz.prog 307=some ([.int .i64 0,.int .i64 0,.nilFunc],[(0,1),(1,1),(2,1)]):=by kernel_rfl
@[simp] theorem Tb.tk308:tk Tryz.prog 308=2:=by kernel_rfl
@[simp] theorem Tb.sz308:Program.cellsOf Tryz.prog 308=15:=by kernel_rfl
@[simp] theorem Tb.sl308:slT Tryz.prog 308=none:=by kernel_rfl
@[simp] theorem Tb.ar308:arT Tryz.prog 308=some (5,307):=by kernel_rfl
@[simp] theorem Tb.st308:isStr Tryz.prog 308=false:=by kernel_rfl
@[simp] theorem Tb.bo308:isBool Tryz.prog 308=false:=by kernel_rfl
@[simp] theorem Tb.in308:intT Tryz.prog 308=none:=by kernel_rfl
@[simp] theorem Tb.un308:(Tryz.prog.underlying 308).isSome=true:=by kernel_rfl
@[simp] theorem Tb.zr308:zrT Tryz.prog 308=[.int .i64 0,.int .i64 0,.nilFunc,.int .i64 0,.int .i64 0,.nilFunc,.int .i64 0,.int .i64 0,.nilFunc,.int .i64 0,.int .i64 0,.nilFunc,.int .i64 0,.int .i64 0,.nilFunc]:=by kernel_rfl
@[simp] theorem Tb.za308:(Tryz.prog.info? 308).any (·.zero.isSome)=true:=by kernel_rfl
@[simp] theorem Tb.zb308:((Tryz.prog.info? 308).bind (·.zero)).isSome=true:=by kernel_rfl
@[simp] theorem Tb.el308:elOK Tryz.prog 308:=elOK_of (by kernel_rfl)
@[simp] theorem Tb.bl308:bldT Tryz.prog 308=some ([.int .i64 0,.int .i64 0,.nilFunc,.int .i64 0,.int .i64 0,.nilFunc,.int .i64 0,.int .i64 0,.nilFunc,.int .i64 0,.int .i64 0,.nilFunc,.int .i64 0,.int .i64 0,.nilFunc],[(0,3),(3,3),(6,3),(9,3),(12,3)]):=by kernel_rfl
@[simp] theorem Tb.tk314:tk Tryz.prog 314=1:=by kernel_rfl
@[simp] theorem Tb.sz314:Program.cellsOf Tryz.prog 314=1:=by kernel_rfl
@[simp] theorem Tb.sl314:slT Tryz.prog 314=some 41:=by kernel_rfl
@[simp] theorem Tb.st314:isStr Tryz.prog 314=false:=by kernel_rfl
@[simp] theorem Tb.bo314:isBool Tryz.prog 314=false:=by kernel_rfl
@[simp] theorem Tb.in314:intT Tryz.prog 314=none:=by kernel_rfl
@[simp] theorem Tb.un314:(Tryz.prog.underlying 314).isSome=true:=by kernel_rfl
@[simp] theorem Tb.zr314:zrT Tryz.prog 314=[.slice none 0 0]:=by kernel_rfl
@[simp] theorem Tb.za314:(Tryz.prog.info? 314).any (·.zero.isSome)=true:=by kernel_rfl
@[simp] theorem Tb.zb314:((Tryz.prog.info? 314).bind (·.zero)).isSome=true:=by kernel_rfl
@[simp] theorem Tb.el314:elOK Tryz.prog 314:=elOK_of (by kernel_rfl)
@[simp] theorem Tb.tk325:tk Tryz.prog 325=1:=by kernel_rfl
@[simp] theorem Tb.sz325:Program.cellsOf Tryz.prog 325=1:=by kernel_rfl
@[simp] theorem Tb.sl325:slT Tryz.prog 325=some 29:=by kernel_rfl
@[simp] theorem Tb.st325:isStr Tryz.prog 325=false:=by kernel_rfl
@[simp] theorem Tb.bo325:isBool Tryz.prog 325=false:=by kernel_rfl
@[simp] theorem Tb.in325:intT Tryz.prog 325=none:=by kernel_rfl
@[simp] theorem Tb.un325:(Tryz.prog.underlying 325).isSome=true:=by kernel_rfl
@[simp] theorem Tb.zr325:zrT Tryz.prog 325=[.slice none 0 0]:=by kernel_rfl
@[simp] theorem Tb.za325:(Tryz.prog.info? 325).any (·.zero.isSome)=true:=by kernel_rfl
@[simp] theorem Tb.zb325:((Tryz.prog.info? 325).bind (·.zero)).isSome=true:=by kernel_rfl
@[simp] theorem Tb.el325:elOK Tryz.prog 325:=elOK_of (by kernel_rfl)
@[simp] theorem Tb.tk332:tk Tryz.prog 332=1:=by kernel_rfl
@[simp] theorem Tb.sz332:Program.cellsOf Tryz.prog 332=1:=by kernel_rfl
@[simp] theorem Tb.sl332:slT Tryz.prog 332=none:=by kernel_rfl
@[simp] theorem Tb.st332:isStr Tryz.prog 332=false:=by kernel_rfl
@[simp] theorem Tb.bo332:isBool Tryz.prog 332=false:=by kernel_rfl
@[simp] theorem Tb.in332:intT Tryz.prog 332=none:=by kernel_rfl
@[simp] theorem Tb.un332:(Tryz.prog.underlying 332).isSome=true:=by kernel_rfl
@[simp] theorem Tb.zr332:zrT Tryz.prog 332=[.nilFunc]:=by kernel_rfl
@[simp] theorem Tb.za332:(Tryz.prog.info? 332).any (·.zero.isSome)=true:=by kernel_rfl
@[simp] theorem Tb.zb332:((Tryz.prog.info? 332).bind (·.zero)).isSome=true:=by kernel_rfl
@[simp] theorem Tb.el332:elOK Tryz.prog 332:=elOK_of (by kernel_rfl)
@[simp] theorem Tb.tk342:tk Tryz.prog 342=1:=by kernel_rfl
@[simp] theorem Tb.sz342:Program.cellsOf Tryz.prog 342=1:=by kernel_rfl
@[simp] theorem Tb.sl342:slT Tryz.prog 342=some 293:=by kernel_rfl
@[simp] theorem Tb.st342:isStr Tryz.prog 342=false:=by kernel_rfl
@[simp] theorem Tb.bo342:isBool Tryz.prog 342=false:=by kernel_rfl
@[simp] theorem Tb.in342:intT Tryz.prog 342=none:=by kernel_rfl
@[simp] theorem Tb.un342:(Tryz.prog.underlying 342).isSome=true:=by kernel_rfl
@[simp] theorem Tb.zr342:zrT Tryz.prog 342=[.slice none 0 0]:=by kernel_rfl
@[simp] theorem Tb.za342:(Tryz.prog.info? 342).any (·.zero.isSome)=true:=by kernel_rfl
@[simp] theorem Tb.zb342:((Tryz.prog.info? 342).bind (·.zero)).isSome=true:=by kernel_rfl
@[simp] theorem Tb.el342:elOK Tryz.prog 342:=elOK_of (by kernel_rfl)
@[simp] theorem Tb.tk344:tk Tryz.prog 344=1:=by kernel_rfl
@[simp] theorem Tb.sz344:Program.cellsOf Tryz.prog 344=1:=by kernel_rfl
@[simp] theorem Tb.sl344:slT Tryz.prog 344=none:=by kernel_rfl
@[simp] theorem Tb.st344:isStr Tryz.prog 344=false:=by kernel_rfl
@[simp] theorem Tb.bo344:isBool Tryz.prog 344=false:=by kernel_rfl
@[simp] theorem Tb.in344:intT Tryz.prog 344=none:=by kernel_rfl
@[simp] theorem Tb.un344:(Tryz.prog.underlying 344).isSome=true:=by kernel_rfl
@[simp] theorem Tb.zr344:zrT Tryz.prog 344=[.nilFunc]:=by kernel_rfl
@[simp] theorem Tb.za344:(Tryz.prog.info? 344).any (·.zero.isSome)=true:=by kernel_rfl
@[simp] theorem Tb.zb344:((Tryz.prog.info? 344).bind (·.zero)).isSome=true:=by kernel_rfl
@[simp] theorem Tb.el344:elOK Tryz.prog 344:=elOK_of (by kernel_rfl)
@[simp] theorem Tb.tk351:tk Tryz.prog 351=2:=by kernel_rfl
@[simp] theorem Tb.sz351:Program.cellsOf Tryz.prog 351=3:=by kernel_rfl
@[simp] theorem Tb.sl351:slT Tryz.prog 351=none:=by kernel_rfl
@[simp] theorem Tb.ar351:arT Tryz.prog 351=some (3,5):=by kernel_rfl
@[simp] theorem Tb.st351:isStr Tryz.prog 351=false:=by kernel_rfl
@[simp] theorem Tb.bo351:isBool Tryz.prog 351=false:=by kernel_rfl
@[simp] theorem Tb.in351:intT Tryz.prog 351=none:=by kernel_rfl
@[simp] theorem Tb.un351:(Tryz.prog.underlying 351).isSome=true:=by kernel_rfl
@[simp] theorem Tb.zr351:zrT Tryz.prog 351=[.int .u8 0,.int .u8 0,.int .u8 0]:=by kernel_rfl
@[simp] theorem Tb.za351:(Tryz.prog.info? 351).any (·.zero.isSome)=true:=by kernel_rfl
@[simp] theorem Tb.zb351:((Tryz.prog.info? 351).bind (·.zero)).isSome=true:=by kernel_rfl
@[simp] theorem Tb.el351:elOK Tryz.prog 351:=elOK_of (by kernel_rfl)
@[simp] theorem Tb.bl351:bldT Tryz.prog 351=some ([.int .u8 0,.int .u8 0,.int .u8 0],[(0,1),(1,1),(2,1)]):=by kernel_rfl
@[simp] theorem Tb.tk352:tk Tryz.prog 352=2:=by kernel_rfl
@[simp] theorem Tb.sz352:Program.cellsOf Tryz.prog 352=18:=by kernel_rfl
@[simp] theorem Tb.sl352:slT Tryz.prog 352=none:=by kernel_rfl
@[simp] theorem Tb.ar352:arT Tryz.prog 352=some (6,351):=by kernel_rfl
@[simp] theorem Tb.st352:isStr Tryz.prog 352=false:=by kernel_rfl
@[simp] theorem Tb.bo352:isBool Tryz.prog 352=false:=by kernel_rfl
@[simp] theorem Tb.in352:intT Tryz.prog 352=none:=by kernel_rfl
@[simp] theorem Tb.un352:(Tryz.prog.underlying 352).isSome=true:=by kernel_rfl
@[simp] theorem Tb.zr352:zrT Tryz.prog 352=[.int .u8 0,.int .u8 0,.int .u8 0,.int .u8 0,.int .u8 0,.int .u8 0,.int .u8 0,.int .u8 0,.int .u8 0,.int .u8 0,.int .u8 0,.int .u8 0,.int .u8 0,.int .u8 0,.int .u8 0,.int .u8 0,.int .u8 0,.int .u8 0]:=by kernel_rfl
@[simp] theorem Tb.za352:(Tryz.prog.info? 352).any (·.zero.isSome)=true:=by kernel_rfl
@[simp] theorem Tb.zb352:((Tryz.prog.info? 352).bind (·.zero)).isSome=true:=by kernel_rfl
@[simp] theorem Tb.el352:elOK Tryz.prog 352:=elOK_of (by kernel_rfl)
@[simp] theorem Tb.bl352:bldT Tryz.prog 352=some ([.int .u8 0,.int .u8 0,.int .u8 0,.int .u8 0,.int .u8 0,.int .u8 0,.int .u8 0,.int .u8 0,.int .u8 0,.int .u8 0,.int .u8 0,.int .u8 0,.int .u8 0,.int .u8 0,.int .u8 0,.int .u8 0,.int .u8 0,.int .u8 0],[(0,3),(3,3),(6,3),(9,3),(12,3),(15,3)]):=by kernel_rfl
@[simp] theorem Tb.tk362:tk Tryz.prog 362=1:=by kernel_rfl
@[simp] theorem Tb.sz362:Program.cellsOf Tryz.prog 362=1:=by kernel_rfl
@[simp] theorem Tb.sl362:slT Tryz.prog 362=none:=by kernel_rfl
@[simp] theorem Tb.st362:isStr Tryz.prog 362=false:=by kernel_rfl
@[simp] theorem Tb.bo362:isBool Tryz.prog 362=false:=by kernel_rfl
@[simp] theorem Tb.in362:intT Tryz.prog 362=none:=by kernel_rfl
@[simp] theorem Tb.un362:(Tryz.prog.underlying 362).isSome=true:=by kernel_rfl
@[simp] theorem Tb.zr362:zrT Tryz.prog 362=[.nilFunc]:=by kernel_rfl
@[simp] theorem Tb.za362:(Tryz.prog.info? 362).any (·.zero.isSome)=true:=by kernel_rfl
@[simp] theorem Tb.zb362:((Tryz.prog.info? 362).bind (·.zero)).isSome=true:=by kernel_rfl
@[simp] theorem Tb.el362:elOK Tryz.prog 362:=elOK_of (by kernel_rfl)
end Go.Proofs.YtpadinblmjlggaaGreatDoor
