/- Texts joined by a program: Tb. -/
import Derived.KernelRfl
import Derived.Test.YtafamcbdaeppoaaGreatDoorE5
set_option linter.unusedSimpArgs false
set_option linter.unusedVariables false
namespace Go.Proofs.YtafamcbdaeppoaaGreatDoor
@[simp] theorem Tb.tk3:tk Tryz.prog 3=1:=by kernel_rfl
@[simp] theorem Tb.sz3:Program.cellsOf Tryz.prog 3=1:=by kernel_rfl
@[simp] theorem Tb.sl3:slT Tryz.prog 3=none:=by kernel_rfl
@[simp] theorem Tb.st3:isStr Tryz.prog 3=false:=by kernel_rfl
@[simp] theorem Tb.bo3:isBool Tryz.prog 3=false:=by kernel_rfl
@[simp] theorem Tb.in3:intT Tryz.prog 3=some .i64:=by kernel_rfl
@[simp] theorem Tb.un3:(Tryz.prog.underlying 3).isSome=true:=by kernel_rfl
@[simp] theorem Tb.zr3:zrT Tryz.prog 3=[.int .i64 0]:=by kernel_rfl
@[simp] theorem Tb.za3:(Tryz.prog.info? 3).any (·.zero.isSome)=true:=by kernel_rfl
@[simp] theorem Tb.zb3:((Tryz.prog.info? 3).bind (·.zero)).isSome=true:=by kernel_rfl
@[simp] theorem Tb.el3:elOK Tryz.prog 3:=elOK_of (by kernel_rfl)
@[simp] theorem Tb.tk4:tk Tryz.prog 4=1:=by kernel_rfl
@[simp] theorem Tb.sz4:Program.cellsOf Tryz.prog 4=1:=by kernel_rfl
@[simp] theorem Tb.sl4:slT Tryz.prog 4=none:=by kernel_rfl
@[simp] theorem Tb.st4:isStr Tryz.prog 4=false:=by kernel_rfl
@[simp] theorem Tb.bo4:isBool Tryz.prog 4=true:=by kernel_rfl
@[simp] theorem Tb.in4:intT Tryz.prog 4=none:=by kernel_rfl
@[simp] theorem Tb.un4:(Tryz.prog.underlying 4).isSome=true:=by kernel_rfl
@[simp] theorem Tb.zr4:zrT Tryz.prog 4=[.bool false]:=by kernel_rfl
@[simp] theorem Tb.za4:(Tryz.prog.info? 4).any (·.zero.isSome)=true:=by kernel_rfl
@[simp] theorem Tb.zb4:((Tryz.prog.info? 4).bind (·.zero)).isSome=true:=by kernel_rfl
@[simp] theorem Tb.el4:elOK Tryz.prog 4:=elOK_of (by kernel_rfl)
@[simp] theorem Tb.tk5:tk Tryz.prog 5=1:=by kernel_rfl
@[simp] theorem Tb.sz5:Program.cellsOf Tryz.prog 5=1:=by kernel_rfl
@[simp] theorem Tb.sl5:slT Tryz.prog 5=none:=by kernel_rfl
@[simp] theorem Tb.st5:isStr Tryz.prog 5=false:=by kernel_rfl
@[simp] theorem Tb.bo5:isBool Tryz.prog 5=false:=by kernel_rfl
@[simp] theorem Tb.in5:intT Tryz.prog 5=some .u8:=by kernel_rfl
@[simp] theorem Tb.un5:(Tryz.prog.underlying 5).isSome=true:=by kernel_rfl
@[simp] theorem Tb.zr5:zrT Tryz.prog 5=[.int .u8 0]:=by kernel_rfl
@[simp] theorem Tb.za5:(Tryz.prog.info? 5).any (·.zero.isSome)=true:=by kernel_rfl
@[simp] theorem Tb.zb5:((Tryz.prog.info? 5).bind (·.zero)).isSome=true:=by kernel_rfl
@[simp] theorem Tb.el5:elOK Tryz.prog 5:=elOK_of (by kernel_rfl)
@[simp] theorem Tb.tk9:tk Tryz.prog 9=1:=by kernel_rfl
@[simp] theorem Tb.sz9:Program.cellsOf Tryz.prog 9=1:=by kernel_rfl
@[simp] theorem Tb.sl9:slT Tryz.prog 9=none:=by kernel_rfl
@[simp] theorem Tb.st9:isStr Tryz.prog 9=true:=by kernel_rfl
@[simp] theorem Tb.bo9:isBool Tryz.prog 9=false:=by kernel_rfl
@[simp] theorem Tb.in9:intT Tryz.prog 9=none:=by kernel_rfl
@[simp] theorem Tb.un9:(Tryz.prog.underlying 9).isSome=true:=by kernel_rfl
@[simp] theorem Tb.zr9:zrT Tryz.prog 9=[.string ⟨#[]⟩]:=by kernel_rfl
@[simp] theorem Tb.za9:(Tryz.prog.info? 9).any (·.zero.isSome)=true:=by kernel_rfl
@[simp] theorem Tb.zb9:((Tryz.prog.info? 9).bind (·.zero)).isSome=true:=by kernel_rfl
@[simp] theorem Tb.el9:elOK Tryz.prog 9:=elOK_of (by kernel_rfl)
@[simp] theorem Tb.tk21:tk Tryz.prog 21=1:=by kernel_rfl
@[simp] theorem Tb.sz21:Program.cellsOf Tryz.prog 21=1:=by kernel_rfl
@[simp] theorem Tb.sl21:slT Tryz.prog 21=none:=by kernel_rfl
@[simp] theorem Tb.st21:isStr Tryz.prog 21=false:=by kernel_rfl
@[simp] theorem Tb.bo21:isBool Tryz.prog 21=false:=by kernel_rfl
@[simp] theorem Tb.in21:intT Tryz.prog 21=some .i32:=by kernel_rfl
@[simp] theorem Tb.un21:(Tryz.prog.underlying 21).isSome=true:=by kernel_rfl
@[simp] theorem Tb.zr21:zrT Tryz.prog 21=[.int .i32 0]:=by kernel_rfl
@[simp] theorem Tb.za21:(Tryz.prog.info? 21).any (·.zero.isSome)=true:=by kernel_rfl
@[simp] theorem Tb.zb21:((Tryz.prog.info? 21).bind (·.zero)).isSome=true:=by kernel_rfl
@[simp] theorem Tb.el21:elOK Tryz.prog 21:=elOK_of (by kernel_rfl)
@[simp] theorem Tb.tk22:tk Tryz.prog 22=1:=by kernel_rfl
@[simp] theorem Tb.sz22:Program.cellsOf Tryz.prog 22=1:=by kernel_rfl
@[simp] theorem Tb.sl22:slT Tryz.prog 22=some 9:=by kernel_rfl
@[simp] theorem Tb.st22:isStr Tryz.prog 22=false:=by kernel_rfl
@[simp] theorem Tb.bo22:isBool Tryz.prog 22=false:=by kernel_rfl
@[simp] theorem Tb.in22:intT Tryz.prog 22=none:=by kernel_rfl
@[simp] theorem Tb.un22:(Tryz.prog.underlying 22).isSome=true:=by kernel_rfl
@[simp] theorem Tb.zr22:zrT Tryz.prog 22=[.slice none 0 0]:=by kernel_rfl
@[simp] theorem Tb.za22:(Tryz.prog.info? 22).any (·.zero.isSome)=true:=by kernel_rfl
@[simp] theorem Tb.zb22:((Tryz.prog.info? 22).bind (·.zero)).isSome=true:=by kernel_rfl
@[simp] theorem Tb.el22:elOK Tryz.prog 22:=elOK_of (by kernel_rfl)
@[simp] theorem Tb.tk23:tk Tryz.prog 23=1:=by kernel_rfl
@[simp] theorem Tb.sz23:Program.cellsOf Tryz.prog 23=1:=by kernel_rfl
@[simp] theorem Tb.sl23:slT Tryz.prog 23=some 63:=by kernel_rfl
@[simp] theorem Tb.st23:isStr Tryz.prog 23=false:=by kernel_rfl
@[simp] theorem Tb.bo23:isBool Tryz.prog 23=false:=by kernel_rfl
@[simp] theorem Tb.in23:intT Tryz.prog 23=none:=by kernel_rfl
@[simp] theorem Tb.un23:(Tryz.prog.underlying 23).isSome=true:=by kernel_rfl
@[simp] theorem Tb.zr23:zrT Tryz.prog 23=[.slice none 0 0]:=by kernel_rfl
@[simp] theorem Tb.za23:(Tryz.prog.info? 23).any (·.zero.isSome)=true:=by kernel_rfl
@[simp] theorem Tb.zb23:((Tryz.prog.info? 23).bind (·.zero)).isSome=true:=by kernel_rfl
@[simp] theorem Tb.el23:elOK Tryz.prog 23:=elOK_of (by kernel_rfl)
@[simp] theorem Tb.tk24:tk Tryz.prog 24=1:=by kernel_rfl
@[simp] theorem Tb.sz24:Program.cellsOf Tryz.prog 24=1:=by kernel_rfl
@[simp] theorem Tb.sl24:slT Tryz.prog 24=some 3:=by kernel_rfl
@[simp] theorem Tb.st24:isStr Tryz.prog 24=false:=by kernel_rfl
@[simp] theorem Tb.bo24:isBool Tryz.prog 24=false:=by kernel_rfl
@[simp] theorem Tb.in24:intT Tryz.prog 24=none:=by kernel_rfl
@[simp] theorem Tb.un24:(Tryz.prog.underlying 24).isSome=true:=by kernel_rfl
@[simp] theorem Tb.zr24:zrT Tryz.prog 24=[.slice none 0 0]:=by kernel_rfl
@[simp] theorem Tb.za24:(Tryz.prog.info? 24).any (·.zero.isSome)=true:=by kernel_rfl
@[simp] theorem Tb.zb24:((Tryz.prog.info? 24).bind (·.zero)).isSome=true:=by kernel_rfl
@[simp] theorem Tb.el24:elOK Tryz.prog 24:=elOK_of (by kernel_rfl)
@[simp] theorem Tb.tk26:tk Tryz.prog 26=2:=by kernel_rfl
@[simp] theorem Tb.sz26:Program.cellsOf Tryz.prog 26=5:=by kernel_rfl
@[simp] theorem Tb.ff26_0:foff Tryz.prog 26 0=some (0,3):=by kernel_rfl
@[simp] theorem Tb.ff26_1:foff Tryz.prog 26 1=some (1,22):=by kernel_rfl
@[simp] theorem Tb.ff26_2:foff Tryz.prog 26 2=some (2,23):=by kernel_rfl
@[simp] theorem Tb.ff26_3:foff Tryz.prog 26 3=some (3,24):=by kernel_rfl
@[simp] theorem Tb.ff26_4:foff Tryz.prog 26 4=some (4,24):=by kernel_rfl
@[simp] theorem Tb.cm26:cmpT Tryz.prog 26=none:=by kernel_rfl
@[simp] theorem Tb.sl26:slT Tryz.prog 26=none:=by kernel_rfl
@[simp] theorem Tb.st26:isStr Tryz.prog 26=false:=by kernel_rfl
@[simp] theorem Tb.bo26:isBool Tryz.prog 26=false:=by kernel_rfl
@[simp] theorem Tb.in26:intT Tryz.prog 26=none:=by kernel_rfl
@[simp] theorem Tb.un26:(Tryz.prog.underlying 26).isSome=true:=by kernel_rfl
@[simp] theorem Tb.zr26:zrT Tryz.prog 26=[.int .i64 0,.slice none 0 0,.slice none 0 0,.slice none 0 0,.slice none 0 0]:=by kernel_rfl
@[simp] theorem Tb.za26:(Tryz.prog.info? 26).any (·.zero.isSome)=true:=by kernel_rfl
@[simp] theorem Tb.zb26:((Tryz.prog.info? 26).bind (·.zero)).isSome=true:=by kernel_rfl
@[simp] theorem Tb.el26:elOK Tryz.prog 26:=elOK_of (by kernel_rfl)
@[simp] theorem Tb.bl26:bldT Tryz.prog 26=some ([.int .i64 0,.slice none 0 0,.slice none 0 0,.slice none 0 0,.slice none 0 0],[(0,1),(1,1),(2,1),(3,1),(4,1)]):=by kernel_rfl
@[simp] theorem Tb.tk27:tk Tryz.prog 27=1:=by kernel_rfl
@[simp] theorem Tb.sz27:Program.cellsOf Tryz.prog 27=1:=by kernel_rfl
@[simp] theorem Tb.sl27:slT Tryz.prog 27=some 4:=by kernel_rfl
@[simp] theorem Tb.st27:isStr Tryz.prog 27=false:=by kernel_rfl
@[simp] theorem Tb.bo27:isBool Tryz.prog 27=false:=by kernel_rfl
@[simp] theorem Tb.in27:intT Tryz.prog 27=none:=by kernel_rfl
@[simp] theorem Tb.un27:(Tryz.prog.underlying 27).isSome=true:=by kernel_rfl
@[simp] theorem Tb.zr27:zrT Tryz.prog 27=[.slice none 0 0]:=by kernel_rfl
@[simp] theorem Tb.za27:(Tryz.prog.info? 27).any (·.zero.isSome)=true:=by kernel_rfl
@[simp] theorem Tb.zb27:((Tryz.prog.info? 27).bind (·.zero)).isSome=true:=by kernel_rfl
@[simp] theorem Tb.el27:elOK Tryz.prog 27:=elOK_of (by kernel_rfl)
@[simp] theorem Tb.tk29:tk Tryz.prog 29=2:=by kernel_rfl
@[simp] theorem Tb.sz29:Program.cellsOf Tryz.prog 29=5:=by kernel_rfl
@[simp] theorem Tb.ff29_0:foff Tryz.prog 29 0=some (0,24):=by kernel_rfl
@[simp] theorem Tb.ff29_1:foff Tryz.prog 29 1=some (1,27):=by kernel_rfl
@[simp] theorem Tb.ff29_2:foff Tryz.prog 29 2=some (2,27):=by kernel_rfl
@[simp] theorem Tb.ff29_3:foff Tryz.prog 29 3=some (3,27):=by kernel_rfl
@[simp] theorem Tb.ff29_4:foff Tryz.prog 29 4=some (4,24):=by kernel_rfl
@[simp] theorem Tb.cm29:cmpT Tryz.prog 29=none:=by kernel_rfl
@[simp] theorem Tb.sl29:slT Tryz.prog 29=none:=by kernel_rfl
@[simp] theorem Tb.st29:isStr Tryz.prog 29=false:=by kernel_rfl
@[simp] theorem Tb.bo29:isBool Tryz.prog 29=false:=by kernel_rfl
@[simp] theorem Tb.in29:intT Tryz.prog 29=none:=by kernel_rfl
@[simp] theorem Tb.un29:(Tryz.prog.underlying 29).isSome=true:=by kernel_rfl
@[simp] theorem Tb.zr29:zrT Tryz.prog 29=[.slice none 0 0,.slice none 0 0,.slice none 0 0,.slice none 0 0,.slice none 0 0]:=by kernel_rfl
@[simp] theorem Tb.za29:(Tryz.prog.info? 29).any (·.zero.isSome)=true:=by kernel_rfl
@[simp] theorem Tb.zb29:((Tryz.prog.info? 29).bind (·.zero)).isSome=true:=by kernel_rfl
@[simp] theorem Tb.el29:elOK Tryz.prog 29:=elOK_of (by kernel_rfl)
@[simp] theorem Tb.bl29:bldT Tryz.prog 29=some ([.slice none 0 0,.slice none 0 0,.slice none 0 0,.slice none 0 0,.slice none 0 0],[(0,1),(1,1),(2,1),(3,1),(4,1)]):=by kernel_rfl
@[simp] theorem Tb.tk32:tk Tryz.prog 32=1:=by kernel_rfl
@[simp] theorem Tb.sz32:Program.cellsOf Tryz.prog 32=1:=by kernel_rfl
@[simp] theorem Tb.sl32:slT Tryz.prog 32=some 67:=by kernel_rfl
@[simp] theorem Tb.st32:isStr Tryz.prog 32=false:=by kernel_rfl
@[simp] theorem Tb.bo32:isBool Tryz.prog 32=false:=by kernel_rfl
@[simp] theorem Tb.in32:intT Tryz.prog 32=none:=by kernel_rfl
@[simp] theorem Tb.un32:(Tryz.prog.underlying 32).isSome=true:=by kernel_rfl
@[simp] theorem Tb.zr32:zrT Tryz.prog 32=[.slice none 0 0]:=by kernel_rfl
@[simp] theorem Tb.za32:(Tryz.prog.info? 32).any (·.zero.isSome)=true:=by kernel_rfl
@[simp] theorem Tb.zb32:((Tryz.prog.info? 32).bind (·.zero)).isSome=true:=by kernel_rfl
@[simp] theorem Tb.el32:elOK Tryz.prog 32:=elOK_of (by kernel_rfl)
@[simp] theorem Tb.tk33:tk Tryz.prog 33=1:=by kernel_rfl
@[simp] theorem Tb.sz33:Program.cellsOf Tryz.prog 33=1:=by kernel_rfl
@[simp] theorem Tb.sl33:slT Tryz.prog 33=some 172:=by kernel_rfl
@[simp] theorem Tb.st33:isStr Tryz.prog 33=false:=by kernel_rfl
@[simp] theorem Tb.bo33:isBool Tryz.prog 33=false:=by kernel_rfl
@[simp] theorem Tb.in33:intT Tryz.prog 33=none:=by kernel_rfl
@[simp] theorem Tb.un33:(Tryz.prog.underlying 33).isSome=true:=by kernel_rfl
@[simp] theorem Tb.zr33:zrT Tryz.prog 33=[.slice none 0 0]:=by kernel_rfl
@[simp] theorem Tb.za33:(Tryz.prog.info? 33).any (·.zero.isSome)=true:=by kernel_rfl
@[simp] theorem Tb.zb33:((Tryz.prog.info? 33).bind (·.zero)).isSome=true:=by kernel_rfl
@[simp] theorem Tb.el33:elOK Tryz.prog 33:=elOK_of (by kernel_rfl)
@[simp] theorem Tb.tk35:tk Tryz.prog 35=2:=by kernel_rfl
@[simp] theorem Tb.sz35:Program.cellsOf Tryz.prog 35=2:=by kernel_rfl
@[simp] theorem Tb.ff35_0:foff Tryz.prog 35 0=some (0,32):=by kernel_rfl
@[simp] theorem Tb.ff35_1:foff Tryz.prog 35 1=some (1,33):=by kernel_rfl
@[simp] theorem Tb.cm35:cmpT Tryz.prog 35=none:=by kernel_rfl
@[simp] theorem Tb.sl35:slT Tryz.prog 35=none:=by kernel_rfl
@[simp] theorem Tb.st35:isStr Tryz.prog 35=false:=by kernel_rfl
@[simp] theorem Tb.bo35:isBool Tryz.prog 35=false:=by kernel_rfl
@[simp] theorem Tb.in35:intT Tryz.prog 35=none:=by kernel_rfl
@[simp] theorem Tb.un35:(Tryz.prog.underlying 35).isSome=true:=by kernel_rfl
@[simp] theorem Tb.zr35:zrT Tryz.prog 35=[.slice none 0 0,.slice none 0 0]:=by kernel_rfl
@[simp] theorem Tb.za35:(Tryz.prog.info? 35).any (·.zero.isSome)=true:=by kernel_rfl
@[simp] theorem Tb.zb35:((Tryz.prog.info? 35).bind (·.zero)).isSome=true:=by kernel_rfl
@[simp] theorem Tb.el35:elOK Tryz.prog 35:=elOK_of (by kernel_rfl)
@[simp] theorem Tb.bl35:bldT Tryz.prog 35=some ([.slice none 0 0,.slice none 0 0],[(0,1),(1,1)]):=by kernel_rfl
@[simp] theorem Tb.tk36:tk Tryz.prog 36=1:=by kernel_rfl
@[simp] theorem Tb.sz36:Program.cellsOf Tryz.prog 36=1:=by kernel_rfl
@[simp] theorem Tb.sl36:slT Tryz.prog 36=none:=by kernel_rfl
@[simp] theorem Tb.st36:isStr Tryz.prog 36=false:=by kernel_rfl
@[simp] theorem Tb.bo36:isBool Tryz.prog 36=false:=by kernel_rfl
@[simp] theorem Tb.in36:intT Tryz.prog 36=some .i64:=by kernel_rfl
@[simp] theorem Tb.un36:(Tryz.prog.underlying 36).isSome=true:=by kernel_rfl
@[simp] theorem Tb.zr36:zrT Tryz.prog 36=[.int .i64 0]:=by kernel_rfl
@[simp] theorem Tb.za36:(Tryz.prog.info? 36).any (·.zero.isSome)=true:=by kernel_rfl
@[simp] theorem Tb.zb36:((Tryz.prog.info? 36).bind (·.zero)).isSome=true:=by kernel_rfl
@[simp] theorem Tb.el36:elOK Tryz.prog 36:=elOK_of (by kernel_rfl)
@[simp] theorem Tb.tk43:tk Tryz.prog 43=1:=by kernel_rfl
@[simp] theorem Tb.sz43:Program.cellsOf Tryz.prog 43=1:=by kernel_rfl
@[simp] theorem Tb.sl43:slT Tryz.prog 43=some 54:=by kernel_rfl
@[simp] theorem Tb.st43:isStr Tryz.prog 43=false:=by kernel_rfl
@[simp] theorem Tb.bo43:isBool Tryz.prog 43=false:=by kernel_rfl
@[simp] theorem Tb.in43:intT Tryz.prog 43=none:=by kernel_rfl
@[simp] theorem Tb.un43:(Tryz.prog.underlying 43).isSome=true:=by kernel_rfl
@[simp] theorem Tb.zr43:zrT Tryz.prog 43=[.slice none 0 0]:=by kernel_rfl
@[simp] theorem Tb.za43:(Tryz.prog.info? 43).any (·.zero.isSome)=true:=by kernel_rfl
@[simp] theorem Tb.zb43:((Tryz.prog.info? 43).bind (·.zero)).isSome=true:=by kernel_rfl
@[simp] theorem Tb.el43:elOK Tryz.prog 43:=elOK_of (by kernel_rfl)
@[simp] theorem Tb.tk50:tk Tryz.prog 50=2:=by kernel_rfl
@[simp] theorem Tb.sz50:Program.cellsOf Tryz.prog 50=2:=by kernel_rfl
@[simp] theorem Tb.ff50_0:foff Tryz.prog 50 0=some (0,3):=by kernel_rfl
@[simp] theorem Tb.ff50_1:foff Tryz.prog 50 1=some (1,9):=by kernel_rfl
@[simp] theorem Tb.cm50:cmpT Tryz.prog 50=some [.int .i64,.string]:=by kernel_rfl
@[simp] theorem Tb.sl50:slT Tryz.prog 50=none:=by kernel_rfl
@[simp] theorem Tb.st50:isStr Tryz.prog 50=false:=by kernel_rfl
@[simp] theorem Tb.bo50:isBool Tryz.prog 50=false:=by kernel_rfl
@[simp] theorem Tb.in50:intT Tryz.prog 50=none:=by kernel_rfl
@[simp] theorem Tb.un50:(Tryz.prog.underlying 50).isSome=true:=by kernel_rfl
@[simp] theorem Tb.zr50:zrT Tryz.prog 50=[.int .i64 0,.string ⟨#[]⟩]:=by kernel_rfl
@[simp] theorem Tb.za50:(Tryz.prog.info? 50).any (·.zero.isSome)=true:=by kernel_rfl
@[simp] theorem Tb.zb50:((Tryz.prog.info? 50).bind (·.zero)).isSome=true:=by kernel_rfl
@[simp] theorem Tb.el50:elOK Tryz.prog 50:=elOK_of (by kernel_rfl)
@[simp] theorem Tb.bl50:bldT Tryz.prog 50=some ([.int .i64 0,.string ⟨#[]⟩],[(0,1),(1,1)]):=by kernel_rfl
@[simp] theorem Tb.tk54:tk Tryz.prog 54=1:=by kernel_rfl
@[simp] theorem Tb.sz54:Program.cellsOf Tryz.prog 54=1:=by kernel_rfl
@[simp] theorem Tb.sl54:slT Tryz.prog 54=some 50:=by kernel_rfl
@[simp] theorem Tb.st54:isStr Tryz.prog 54=false:=by kernel_rfl
@[simp] theorem Tb.bo54:isBool Tryz.prog 54=false:=by kernel_rfl
@[simp] theorem Tb.in54:intT Tryz.prog 54=none:=by kernel_rfl
@[simp] theorem Tb.un54:(Tryz.prog.underlying 54).isSome=true:=by kernel_rfl
@[simp] theorem Tb.zr54:zrT Tryz.prog 54=[.slice none 0 0]:=by kernel_rfl
@[simp] theorem Tb.za54:(Tryz.prog.info? 54).any (·.zero.isSome)=true:=by kernel_rfl
@[simp] theorem Tb.zb54:((Tryz.prog.info? 54).bind (·.zero)).isSome=true:=by kernel_rfl
@[simp] theorem Tb.el54:elOK Tryz.prog 54:=elOK_of (by kernel_rfl)
@[simp] theorem Tb.tk59:tk Tryz.prog 59=1:=by kernel_rfl
@[simp] theorem Tb.sz59:Program.cellsOf Tryz.prog 59=1:=by kernel_rfl
@[simp] theorem Tb.sl59:slT Tryz.prog 59=some 61:=by kernel_rfl
@[simp] theorem Tb.st59:isStr Tryz.prog 59=false:=by kernel_rfl
@[simp] theorem Tb.bo59:isBool Tryz.prog 59=false:=by kernel_rfl
@[simp] theorem Tb.in59:intT Tryz.prog 59=none:=by kernel_rfl
@[simp] theorem Tb.un59:(Tryz.prog.underlying 59).isSome=true:=by kernel_rfl
@[simp] theorem Tb.zr59:zrT Tryz.prog 59=[.slice none 0 0]:=by kernel_rfl
@[simp] theorem Tb.za59:(Tryz.prog.info? 59).any (·.zero.isSome)=true:=by kernel_rfl
@[simp] theorem Tb.zb59:((Tryz.prog.info? 59).bind (·.zero)).isSome=true:=by kernel_rfl
@[simp] theorem Tb.el59:elOK Tryz.prog 59:=elOK_of (by kernel_rfl)
@[simp] theorem Tb.tk61:tk Tryz.prog 61=2:=by kernel_rfl
@[simp] theorem Tb.sz61:Program.cellsOf Tryz.prog 61=3:=by kernel_rfl
@[simp] theorem Tb.ff61_0:foff Tryz.prog 61 0=some (0,3):=by kernel_rfl
@[simp] theorem Tb.ff61_1:foff Tryz.prog 61 1=some (1,3):=by kernel_rfl
@[simp] theorem Tb.ff61_2:foff Tryz.prog 61 2=some (2,59):=by kernel_rfl
@[simp] theorem Tb.cm61:cmpT Tryz.prog 61=none:=by kernel_rfl
@[simp] theorem Tb.sl61:slT Tryz.prog 61=none:=by kernel_rfl
@[simp] theorem Tb.st61:isStr Tryz.prog 61=false:=by kernel_rfl
@[simp] theorem Tb.bo61:isBool Tryz.prog 61=false:=by kernel_rfl
@[simp] theorem Tb.in61:intT Tryz.prog 61=none:=by kernel_rfl
@[simp] theorem Tb.un61:(Tryz.prog.underlying 61).isSome=true:=by kernel_rfl
@[simp] theorem Tb.zr61:zrT Tryz.prog 61=[.int .i64 0,.int .i64 0,.slice none 0 0]:=by kernel_rfl
@[simp] theorem Tb.za61:(Tryz.prog.info? 61).any (·.zero.isSome)=true:=by kernel_rfl
@[simp] theorem Tb.zb61:((Tryz.prog.info? 61).bind (·.zero)).isSome=true:=by kernel_rfl
@[simp] theorem Tb.el61:elOK Tryz.prog 61:=elOK_of (by kernel_rfl)
@[simp] theorem Tb.bl61:bldT Tryz.prog 61=some ([.int .i64 0,.int .i64 0,.slice none 0 0],[(0,1),(1,1),(2,1)]):=by kernel_rfl
@[simp] theorem Tb.tk63:tk Tryz.prog 63=2:=by kernel_rfl
@[simp] theorem Tb.sz63:Program.cellsOf Tryz.prog 63=10:=by kernel_rfl
@[simp] theorem Tb.ff63_0:foff Tryz.prog 63 0=some (0,9):=by kernel_rfl
@[simp] theorem Tb.ff63_1:foff Tryz.prog 63 1=some (1,3):=by kernel_rfl
@[simp] theorem Tb.ff63_2:foff Tryz.prog 63 2=some (2,61):=by kernel_rfl
@[simp] theorem Tb.ff63_3:foff Tryz.prog 63 3=some (5,61):=by kernel_rfl
@[simp] theorem Tb.ff63_4:foff Tryz.prog 63 4=some (8,3):=by kernel_rfl
@[simp] theorem Tb.ff63_5:foff Tryz.prog 63 5=some (9,4):=by kernel_rfl
@[simp] theorem Tb.cm63:cmpT Tryz.prog 63=none:=by kernel_rfl
@[simp] theorem Tb.sl63:slT Tryz.prog 63=none:=by kernel_rfl
@[simp] theorem Tb.st63:isStr Tryz.prog 63=false:=by kernel_rfl
@[simp] theorem Tb.bo63:isBool Tryz.prog 63=false:=by kernel_rfl
@[simp] theorem Tb.in63:intT Tryz.prog 63=none:=by kernel_rfl
@[simp] theorem Tb.un63:(Tryz.prog.underlying 63).isSome=true:=by kernel_rfl
@[simp] theorem Tb.zr63:zrT Tryz.prog 63=[.string ⟨#[]⟩,.int .i64 0,.int .i64 0,.int .i64 0,.slice none 0 0,.int .i64 0,.int .i64 0,.slice none 0 0,.int .i64 0,.bool false]:=by kernel_rfl
@[simp] theorem Tb.za63:(Tryz.prog.info? 63).any (·.zero.isSome)=true:=by kernel_rfl
@[simp] theorem Tb.zb63:((Tryz.prog.info? 63).bind (·.zero)).isSome=true:=by kernel_rfl
@[simp] theorem Tb.el63:elOK Tryz.prog 63:=elOK_of (by kernel_rfl)
@[simp] theorem Tb.bl63:bldT Tryz.prog 63=some ([.string ⟨#[]⟩,.int .i64 0,.int .i64 0,.int .i64 0,.slice none 0 0,.int .i64 0,.int .i64 0,.slice none 0 0,.int .i64 0,.bool false],[(0,1),(1,1),(2,3),(5,3),(8,1),(9,1)]):=by kernel_rfl
@[simp] theorem Tb.tk67:tk Tryz.prog 67=2:=by kernel_rfl
@[simp] theorem Tb.sz67:Program.cellsOf Tryz.prog 67=3:=by kernel_rfl
@[simp] theorem Tb.ff67_0:foff Tryz.prog 67 0=some (0,3):=by kernel_rfl
@[simp] theorem Tb.ff67_1:foff Tryz.prog 67 1=some (1,9):=by kernel_rfl
@[simp] theorem Tb.ff67_2:foff Tryz.prog 67 2=some (2,3):=by kernel_rfl
@[simp] theorem Tb.cm67:cmpT Tryz.prog 67=some [.int .i64,.string,.int .i64]:=by kernel_rfl
@[simp] theorem Tb.sl67:slT Tryz.prog 67=none:=by kernel_rfl
@[simp] theorem Tb.st67:isStr Tryz.prog 67=false:=by kernel_rfl
@[simp] theorem Tb.bo67:isBool Tryz.prog 67=false:=by kernel_rfl
@[simp] theorem Tb.in67:intT Tryz.prog 67=none:=by kernel_rfl
@[simp] theorem Tb.un67:(Tryz.prog.underlying 67).isSome=true:=by kernel_rfl
@[simp] theorem Tb.zr67:zrT Tryz.prog 67=[.int .i64 0,.string ⟨#[]⟩,.int .i64 0]:=by kernel_rfl
@[simp] theorem Tb.za67:(Tryz.prog.info? 67).any (·.zero.isSome)=true:=by kernel_rfl
@[simp] theorem Tb.zb67:((Tryz.prog.info? 67).bind (·.zero)).isSome=true:=by kernel_rfl
@[simp] theorem Tb.el67:elOK Tryz.prog 67:=elOK_of (by kernel_rfl)
@[simp] theorem Tb.bl67:bldT Tryz.prog 67=some ([.int .i64 0,.string ⟨#[]⟩,.int .i64 0],[(0,1),(1,1),(2,1)]):=by kernel_rfl
@[simp] theorem Tb.tk72:tk Tryz.prog 72=1:=by kernel_rfl
@[simp] theorem Tb.sz72:Program.cellsOf Tryz.prog 72=1:=by kernel_rfl
@[simp] theorem Tb.sl72:slT Tryz.prog 72=some 76:=by kernel_rfl
@[simp] theorem Tb.st72:isStr Tryz.prog 72=false:=by kernel_rfl
@[simp] theorem Tb.bo72:isBool Tryz.prog 72=false:=by kernel_rfl
@[simp] theorem Tb.in72:intT Tryz.prog 72=none:=by kernel_rfl
@[simp] theorem Tb.un72:(Tryz.prog.underlying 72).isSome=true:=by kernel_rfl
@[simp] theorem Tb.zr72:zrT Tryz.prog 72=[.slice none 0 0]:=by kernel_rfl
@[simp] theorem Tb.za72:(Tryz.prog.info? 72).any (·.zero.isSome)=true:=by kernel_rfl
@[simp] theorem Tb.zb72:((Tryz.prog.info? 72).bind (·.zero)).isSome=true:=by kernel_rfl
@[simp] theorem Tb.el72:elOK Tryz.prog 72:=elOK_of (by kernel_rfl)
@[simp] theorem Tb.tk76:tk Tryz.prog 76=2:=by kernel_rfl
@[simp] theorem Tb.sz76:Program.cellsOf Tryz.prog 76=2:=by kernel_rfl
@[simp] theorem Tb.ff76_0:foff Tryz.prog 76 0=some (0,3):=by kernel_rfl
@[simp] theorem Tb.ff76_1:foff Tryz.prog 76 1=some (1,3):=by kernel_rfl
@[simp] theorem Tb.cm76:cmpT Tryz.prog 76=some [.int .i64,.int .i64]:=by kernel_rfl
@[simp] theorem Tb.sl76:slT Tryz.prog 76=none:=by kernel_rfl
@[simp] theorem Tb.st76:isStr Tryz.prog 76=false:=by kernel_rfl
@[simp] theorem Tb.bo76:isBool Tryz.prog 76=false:=by kernel_rfl
@[simp] theorem Tb.in76:intT Tryz.prog 76=none:=by kernel_rfl
@[simp] theorem Tb.un76:(Tryz.prog.underlying 76).isSome=true:=by kernel_rfl
@[simp] theorem Tb.zr76:zrT Tryz.prog 76=[.int .i64 0,.int .i64 0]:=by kernel_rfl
@[simp] theorem Tb.za76:(Tryz.prog.info? 76).any (·.zero.isSome)=true:=by kernel_rfl
@[simp] theorem Tb.zb76:((Tryz.prog.info? 76).bind (·.zero)).isSome=true:=by kernel_rfl
@[simp] theorem Tb.el76:elOK Tryz.prog 76:=elOK_of (by kernel_rfl)
@[simp] theorem Tb.bl76:bldT Tryz.prog 76=some ([.int .i64 0,.int .i64 0],[(0,1),(1,1)]):=by kernel_rfl
@[simp] theorem Tb.tk117:tk Tryz.prog 117=1:=by kernel_rfl
@[simp] theorem Tb.sz117:Program.cellsOf Tryz.prog 117=1:=by kernel_rfl
@[simp] theorem Tb.sl117:slT Tryz.prog 117=none:=by kernel_rfl
@[simp] theorem Tb.st117:isStr Tryz.prog 117=false:=by kernel_rfl
@[simp] theorem Tb.bo117:isBool Tryz.prog 117=false:=by kernel_rfl
@[simp] theorem Tb.in117:intT Tryz.prog 117=none:=by kernel_rfl
@[simp] theorem Tb.un117:(Tryz.prog.underlying 117).isSome=true:=by kernel_rfl
@[simp] theorem Tb.zr117:zrT Tryz.prog 117=[.pointer none]:=by kernel_rfl
@[simp] theorem Tb.za117:(Tryz.prog.info? 117).any (·.zero.isSome)=true:=by kernel_rfl
@[simp] theorem Tb.zb117:((Tryz.prog.info? 117).bind (·.zero)).isSome=true:=by kernel_rfl
@[simp] theorem Tb.el117:elOK Tryz.prog 117:=elOK_of (by kernel_rfl)
@[simp] theorem Tb.tk138:tk Tryz.prog 138=1:=by kernel_rfl
@[simp] theorem Tb.sz138:Program.cellsOf Tryz.prog 138=1:=by kernel_rfl
@[simp] theorem Tb.sl138:slT Tryz.prog 138=none:=by kernel_rfl
@[simp] theorem Tb.st138:isStr Tryz.prog 138=false:=by kernel_rfl
@[simp] theorem Tb.bo138:isBool Tryz.prog 138=false:=by kernel_rfl
@[simp] theorem Tb.in138:intT Tryz.prog 138=none:=by kernel_rfl
@[simp] theorem Tb.un138:(Tryz.prog.underlying 138).isSome=true:=by kernel_rfl
@[simp] theorem Tb.zr138:zrT Tryz.prog 138=[.pointer none]:=by kernel_rfl
@[simp] theorem Tb.za138:(Tryz.prog.info? 138).any (·.zero.isSome)=true:=by kernel_rfl
@[simp] theorem Tb.zb138:((Tryz.prog.info? 138).bind (·.zero)).isSome=true:=by kernel_rfl
@[simp] theorem Tb.el138:elOK Tryz.prog 138:=elOK_of (by kernel_rfl)
@[simp] theorem Tb.tk143:tk Tryz.prog 143=1:=by kernel_rfl
@[simp] theorem Tb.sz143:Program.cellsOf Tryz.prog 143=1:=by kernel_rfl
@[simp] theorem Tb.sl143:slT Tryz.prog 143=none:=by kernel_rfl
@[simp] theorem Tb.mp143:mpT Tryz.prog 143=none:=by kernel_rfl
@[simp] theorem Tb.ms143:msT Tryz.prog 143=none:=by kernel_rfl
@[simp] theorem Tb.pk143:pkT Tryz.prog 143=some (50,false,[.int .i64 0]):=by kernel_rfl
@[simp] theorem Tb.st143:isStr Tryz.prog 143=false:=by kernel_rfl
@[simp] theorem Tb.bo143:isBool Tryz.prog 143=false:=by kernel_rfl
@[simp] theorem Tb.in143:intT Tryz.prog 143=none:=by kernel_rfl
@[simp] theorem Tb.un143:(Tryz.prog.underlying 143).isSome=true:=by kernel_rfl
@[simp] theorem Tb.zr143:zrT Tryz.prog 143=[.map none]:=by kernel_rfl
@[simp] theorem Tb.za143:(Tryz.prog.info? 143).any (·.zero.isSome)=true:=by kernel_rfl
@[simp] theorem Tb.zb143:((Tryz.prog.info? 143).bind (·.zero)).isSome=true:=by kernel_rfl
@[simp] theorem Tb.el143:elOK Tryz.prog 143:=elOK_of (by kernel_rfl)
@[simp] theorem Tb.tk144:tk Tryz.prog 144=1:=by kernel_rfl
@[simp] theorem Tb.sz144:Program.cellsOf Tryz.prog 144=1:=by kernel_rfl
@[simp] theorem Tb.sl144:slT Tryz.prog 144=none:=by kernel_rfl
@[simp] theorem Tb.mp144:mpT Tryz.prog 144=some (.int .i64,.int .i64 0):=by kernel_rfl
@[simp] theorem Tb.st144:isStr Tryz.prog 144=false:=by kernel_rfl
@[simp] theorem Tb.bo144:isBool Tryz.prog 144=false:=by kernel_rfl
@[simp] theorem Tb.in144:intT Tryz.prog 144=none:=by kernel_rfl
@[simp] theorem Tb.un144:(Tryz.prog.underlying 144).isSome=true:=by kernel_rfl
@[simp] theorem Tb.zr144:zrT Tryz.prog 144=[.map none]:=by kernel_rfl
@[simp] theorem Tb.za144:(Tryz.prog.info? 144).any (·.zero.isSome)=true:=by kernel_rfl
@[simp] theorem Tb.zb144:((Tryz.prog.info? 144).bind (·.zero)).isSome=true:=by kernel_rfl
@[simp] theorem Tb.el144:elOK Tryz.prog 144:=elOK_of (by kernel_rfl)
@[simp] theorem Tb.tk146:tk Tryz.prog 146=2:=by kernel_rfl
@[simp] theorem Tb.sz146:Program.cellsOf Tryz.prog 146=9:=by kernel_rfl
@[simp] theorem Tb.ff146_0:foff Tryz.prog 146 0=some (0,35):=by kernel_rfl
@[simp] theorem Tb.ff146_1:foff Tryz.prog 146 1=some (2,43):=by kernel_rfl
@[simp] theorem Tb.ff146_2:foff Tryz.prog 146 2=some (3,143):=by kernel_rfl
@[simp] theorem Tb.ff146_3:foff Tryz.prog 146 3=some (4,72):=by kernel_rfl
@[simp] theorem Tb.ff146_4:foff Tryz.prog 146 4=some (5,24):=by kernel_rfl
@[simp] theorem Tb.ff146_5:foff Tryz.prog 146 5=some (6,24):=by kernel_rfl
@[simp] theorem Tb.ff146_6:foff Tryz.prog 146 6=some (7,24):=by kernel_rfl
@[simp] theorem Tb.ff146_7:foff Tryz.prog 146 7=some (8,144):=by kernel_rfl
@[simp] theorem Tb.cm146:cmpT Tryz.prog 146=none:=by kernel_rfl
@[simp] theorem Tb.sl146:slT Tryz.prog 146=none:=by kernel_rfl
@[simp] theorem Tb.st146:isStr Tryz.prog 146=false:=by kernel_rfl
@[simp] theorem Tb.bo146:isBool Tryz.prog 146=false:=by kernel_rfl
@[simp] theorem Tb.in146:intT Tryz.prog 146=none:=by kernel_rfl
@[simp] theorem Tb.un146:(Tryz.prog.underlying 146).isSome=true:=by kernel_rfl
@[simp] theorem Tb.zr146:zrT Tryz.prog 146=[.slice none 0 0,.slice none 0 0,.slice none 0 0,.map none,.slice none 0 0,.slice none 0 0,.slice none 0 0,.slice none 0 0,.map none]:=by kernel_rfl
@[simp] theorem Tb.za146:(Tryz.prog.info? 146).any (·.zero.isSome)=true:=by kernel_rfl
@[simp] theorem Tb.zb146:((Tryz.prog.info? 146).bind (·.zero)).isSome=true:=by kernel_rfl
@[simp] theorem Tb.el146:elOK Tryz.prog 146:=elOK_of (by kernel_rfl)
@[simp] theorem Tb.bl146:bldT Tryz.prog 146=some ([.slice none 0 0,.slice none 0 0,.slice none 0 0,.map none,.slice none 0 0,.slice none 0 0,.slice none 0 0,.slice none 0 0,.map none],[(0,2),(2,1),(3,1),(4,1),(5,1),(6,1),(7,1),(8,1)]):=by kernel_rfl
@[simp] theorem Tb.tk159:tk Tryz.prog 159=2:=by kernel_rfl
@[simp] theorem Tb.sz159:Program.cellsOf Tryz.prog 159=11:=by kernel_rfl
@[simp] theorem Tb.ff159_0:foff Tryz.prog 159 0=some (0,26):=by kernel_rfl
@[simp] theorem Tb.ff159_1:foff Tryz.prog 159 1=some (5,29):=by kernel_rfl
@[simp] theorem Tb.ff159_2:foff Tryz.prog 159 2=some (10,3):=by kernel_rfl
@[simp] theorem Tb.cm159:cmpT Tryz.prog 159=none:=by kernel_rfl
@[simp] theorem Tb.sl159:slT Tryz.prog 159=none:=by kernel_rfl
@[simp] theorem Tb.st159:isStr Tryz.prog 159=false:=by kernel_rfl
@[simp] theorem Tb.bo159:isBool Tryz.prog 159=false:=by kernel_rfl
@[simp] theorem Tb.in159:intT Tryz.prog 159=none:=by kernel_rfl
@[simp] theorem Tb.un159:(Tryz.prog.underlying 159).isSome=true:=by kernel_rfl
@[simp] theorem Tb.zr159:zrT Tryz.prog 159=[.int .i64 0,.slice none 0 0,.slice none 0 0,.slice none 0 0,.slice none 0 0,.slice none 0 0,.slice none 0 0,.slice none 0 0,.slice none 0 0,.slice none 0 0,.int .i64 0]:=by kernel_rfl
@[simp] theorem Tb.za159:(Tryz.prog.info? 159).any (·.zero.isSome)=true:=by kernel_rfl
@[simp] theorem Tb.zb159:((Tryz.prog.info? 159).bind (·.zero)).isSome=true:=by kernel_rfl
@[simp] theorem Tb.el159:elOK Tryz.prog 159:=elOK_of (by kernel_rfl)
@[simp] theorem Tb.bl159:bldT Tryz.prog 159=some ([.int .i64 0,.slice none 0 0,.slice none 0 0,.slice none 0 0,.slice none 0 0,.slice none 0 0,.slice none 0 0,.slice none 0 0,.slice none 0 0,.slice none 0 0,.int .i64 0],[(0,5),(5,5),(10,1)]):=by kernel_rfl
@[simp] theorem Tb.tk163:tk Tryz.prog 163=1:=by kernel_rfl
@[simp] theorem Tb.sz163:Program.cellsOf Tryz.prog 163=1:=by kernel_rfl
@[simp] theorem Tb.sl163:slT Tryz.prog 163=none:=by kernel_rfl
@[simp] theorem Tb.st163:isStr Tryz.prog 163=false:=by kernel_rfl
@[simp] theorem Tb.bo163:isBool Tryz.prog 163=false:=by kernel_rfl
@[simp] theorem Tb.in163:intT Tryz.prog 163=none:=by kernel_rfl
@[simp] theorem Tb.un163:(Tryz.prog.underlying 163).isSome=true:=by kernel_rfl
@[simp] theorem Tb.zr163:zrT Tryz.prog 163=[.nilFunc]:=by kernel_rfl
@[simp] theorem Tb.za163:(Tryz.prog.info? 163).any (·.zero.isSome)=true:=by kernel_rfl
@[simp] theorem Tb.zb163:((Tryz.prog.info? 163).bind (·.zero)).isSome=true:=by kernel_rfl
@[simp] theorem Tb.el163:elOK Tryz.prog 163:=elOK_of (by kernel_rfl)
@[simp] theorem Tb.tk172:tk Tryz.prog 172=2:=by kernel_rfl
@[simp] theorem Tb.sz172:Program.cellsOf Tryz.prog 172=4:=by kernel_rfl
@[simp] theorem Tb.ff172_0:foff Tryz.prog 172 0=some (0,50):=by kernel_rfl
@[simp] theorem Tb.ff172_1:foff Tryz.prog 172 1=some (2,50):=by kernel_rfl
@[simp] theorem Tb.cm172:cmpT Tryz.prog 172=some [.int .i64,.string,.int .i64,.string]:=by kernel_rfl
@[simp] theorem Tb.sl172:slT Tryz.prog 172=none:=by kernel_rfl
@[simp] theorem Tb.st172:isStr Tryz.prog 172=false:=by kernel_rfl
@[simp] theorem Tb.bo172:isBool Tryz.prog 172=false:=by kernel_rfl
@[simp] theorem Tb.in172:intT Tryz.prog 172=none:=by kernel_rfl
@[simp] theorem Tb.un172:(Tryz.prog.underlying 172).isSome=true:=by kernel_rfl
@[simp] theorem Tb.zr172:zrT Tryz.prog 172=[.int .i64 0,.string ⟨#[]⟩,.int .i64 0,.string ⟨#[]⟩]:=by kernel_rfl
@[simp] theorem Tb.za172:(Tryz.prog.info? 172).any (·.zero.isSome)=true:=by kernel_rfl
@[simp] theorem Tb.zb172:((Tryz.prog.info? 172).bind (·.zero)).isSome=true:=by kernel_rfl
@[simp] theorem Tb.el172:elOK Tryz.prog 172:=elOK_of (by kernel_rfl)
@[simp] theorem Tb.bl172:bldT Tryz.prog 172=some ([.int .i64 0,.string ⟨#[]⟩,.int .i64 0,.string ⟨#[]⟩],[(0,2),(2,2)]):=by kernel_rfl
@[simp] theorem Tb.tk185:tk Tryz.prog 185=1:=by kernel_rfl
@[simp] theorem Tb.sz185:Program.cellsOf Tryz.prog 185=1:=by kernel_rfl
@[simp] theorem Tb.sl185:slT Tryz.prog 185=none:=by kernel_rfl
@[simp] theorem Tb.mp185:mpT Tryz.prog 185=none:=by kernel_rfl
@[simp] theorem Tb.ms185:msT Tryz.prog 185=none:=by kernel_rfl
@[simp] theorem Tb.pk185:pkT Tryz.prog 185=some (50,true,[.int .i64 0,.str []]):=by kernel_rfl
@[simp] theorem Tb.st185:isStr Tryz.prog 185=false:=by kernel_rfl
@[simp] theorem Tb.bo185:isBool Tryz.prog 185=false:=by kernel_rfl
@[simp] theorem Tb.in185:intT Tryz.prog 185=none:=by kernel_rfl
@[simp] theorem Tb.un185:(Tryz.prog.underlying 185).isSome=true:=by kernel_rfl
@[simp] theorem Tb.zr185:zrT Tryz.prog 185=[.map none]:=by kernel_rfl
@[simp] theorem Tb.za185:(Tryz.prog.info? 185).any (·.zero.isSome)=true:=by kernel_rfl
@[simp] theorem Tb.zb185:((Tryz.prog.info? 185).bind (·.zero)).isSome=true:=by kernel_rfl
@[simp] theorem Tb.el185:elOK Tryz.prog 185:=elOK_of (by kernel_rfl)
@[simp] theorem Tb.tk190:tk Tryz.prog 190=2:=by kernel_rfl
@[simp] theorem Tb.sz190:Program.cellsOf Tryz.prog 190=4:=by kernel_rfl
@[simp] theorem Tb.ff190_0:foff Tryz.prog 190 0=some (0,35):=by kernel_rfl
@[simp] theorem Tb.ff190_1:foff Tryz.prog 190 1=some (2,3):=by kernel_rfl
@[simp] theorem Tb.ff190_2:foff Tryz.prog 190 2=some (3,143):=by kernel_rfl
@[simp] theorem Tb.cm190:cmpT Tryz.prog 190=none:=by kernel_rfl
@[simp] theorem Tb.sl190:slT Tryz.prog 190=none:=by kernel_rfl
@[simp] theorem Tb.st190:isStr Tryz.prog 190=false:=by kernel_rfl
@[simp] theorem Tb.bo190:isBool Tryz.prog 190=false:=by kernel_rfl
@[simp] theorem Tb.in190:intT Tryz.prog 190=none:=by kernel_rfl
@[simp] theorem Tb.un190:(Tryz.prog.underlying 190).isSome=true:=by kernel_rfl
@[simp] theorem Tb.zr190:zrT Tryz.prog 190=[.slice none 0 0,.slice none 0 0,.int .i64 0,.map none]:=by kernel_rfl
@[simp] theorem Tb.za190:(Tryz.prog.info? 190).any (·.zero.isSome)=true:=by kernel_rfl
@[simp] theorem Tb.zb190:((Tryz.prog.info? 190).bind (·.zero)).isSome=true:=by kernel_rfl
@[simp] theorem Tb.el190:elOK Tryz.prog 190:=elOK_of (by kernel_rfl)
@[simp] theorem Tb.bl190:bldT Tryz.prog 190=some ([.slice none 0 0,.slice none 0 0,.int .i64 0,.map none],[(0,2),(2,1),(3,1)]):=by kernel_rfl
@[simp] theorem Tb.tk191:tk Tryz.prog 191=1:=by kernel_rfl
@[simp] theorem Tb.sz191:Program.cellsOf Tryz.prog 191=1:=by kernel_rfl
@[simp] theorem Tb.sl191:slT Tryz.prog 191=some 195:=by kernel_rfl
@[simp] theorem Tb.st191:isStr Tryz.prog 191=false:=by kernel_rfl
@[simp] theorem Tb.bo191:isBool Tryz.prog 191=false:=by kernel_rfl
@[simp] theorem Tb.in191:intT Tryz.prog 191=none:=by kernel_rfl
@[simp] theorem Tb.un191:(Tryz.prog.underlying 191).isSome=true:=by kernel_rfl
@[simp] theorem Tb.zr191:zrT Tryz.prog 191=[.slice none 0 0]:=by kernel_rfl
@[simp] theorem Tb.za191:(Tryz.prog.info? 191).any (·.zero.isSome)=true:=by kernel_rfl
@[simp] theorem Tb.zb191:((Tryz.prog.info? 191).bind (·.zero)).isSome=true:=by kernel_rfl
@[simp] theorem Tb.el191:elOK Tryz.prog 191:=elOK_of (by kernel_rfl)
@[simp] theorem Tb.tk195:tk Tryz.prog 195=2:=by kernel_rfl
@[simp] theorem Tb.sz195:Program.cellsOf Tryz.prog 195=4:=by kernel_rfl
@[simp] theorem Tb.ff195_0:foff Tryz.prog 195 0=some (0,3):=by kernel_rfl
@[simp] theorem Tb.ff195_1:foff Tryz.prog 195 1=some (1,3):=by kernel_rfl
@[simp] theorem Tb.ff195_2:foff Tryz.prog 195 2=some (2,24):=by kernel_rfl
@[simp] theorem Tb.ff195_3:foff Tryz.prog 195 3=some (3,4):=by kernel_rfl
@[simp] theorem Tb.cm195:cmpT Tryz.prog 195=none:=by kernel_rfl
@[simp] theorem Tb.sl195:slT Tryz.prog 195=none:=by kernel_rfl
@[simp] theorem Tb.st195:isStr Tryz.prog 195=false:=by kernel_rfl
@[simp] theorem Tb.bo195:isBool Tryz.prog 195=false:=by kernel_rfl
@[simp] theorem Tb.in195:intT Tryz.prog 195=none:=by kernel_rfl
@[simp] theorem Tb.un195:(Tryz.prog.underlying 195).isSome=true:=by kernel_rfl
@[simp] theorem Tb.zr195:zrT Tryz.prog 195=[.int .i64 0,.int .i64 0,.slice none 0 0,.bool false]:=by kernel_rfl
@[simp] theorem Tb.za195:(Tryz.prog.info? 195).any (·.zero.isSome)=true:=by kernel_rfl
@[simp] theorem Tb.zb195:((Tryz.prog.info? 195).bind (·.zero)).isSome=true:=by kernel_rfl
@[simp] theorem Tb.el195:elOK Tryz.prog 195:=elOK_of (by kernel_rfl)
@[simp] theorem Tb.bl195:bldT Tryz.prog 195=some ([.int .i64 0,.int .i64 0,.slice none 0 0,.bool false],[(0,1),(1,1),(2,1),(3,1)]):=by kernel_rfl
@[simp] theorem Tb.tk208:tk Tryz.prog 208=1:=by kernel_rfl
@[simp] theorem Tb.sz208:Program.cellsOf Tryz.prog 208=1:=by kernel_rfl
@[simp] theorem Tb.sl208:slT Tryz.prog 208=some 277:=by kernel_rfl
@[simp] theorem Tb.st208:isStr Tryz.prog 208=false:=by kernel_rfl
@[simp] theorem Tb.bo208:isBool Tryz.prog 208=false:=by kernel_rfl
@[simp] theorem Tb.in208:intT Tryz.prog 208=none:=by kernel_rfl
@[simp] theorem Tb.un208:(Tryz.prog.underlying 208).isSome=true:=by kernel_rfl
@[simp] theorem Tb.zr208:zrT Tryz.prog 208=[.slice none 0 0]:=by kernel_rfl
@[simp] theorem Tb.za208:(Tryz.prog.info? 208).any (·.zero.isSome)=true:=by kernel_rfl
@[simp] theorem Tb.zb208:((Tryz.prog.info? 208).bind (·.zero)).isSome=true:=by kernel_rfl
@[simp] theorem Tb.el208:elOK Tryz.prog 208:=elOK_of (by kernel_rfl)
@[simp] theorem Tb.tk210:tk Tryz.prog 210=2:=by kernel_rfl
@[simp] theorem Tb.sz210:Program.cellsOf Tryz.prog 210=5:=by kernel_rfl
@[simp] theorem Tb.ff210_0:foff Tryz.prog 210 0=some (0,35):=by kernel_rfl
@[simp] theorem Tb.ff210_1:foff Tryz.prog 210 1=some (2,208):=by kernel_rfl
@[simp] theorem Tb.ff210_2:foff Tryz.prog 210 2=some (3,43):=by kernel_rfl
@[simp] theorem Tb.ff210_3:foff Tryz.prog 210 3=some (4,24):=by kernel_rfl
@[simp] theorem Tb.cm210:cmpT Tryz.prog 210=none:=by kernel_rfl
@[simp] theorem Tb.sl210:slT Tryz.prog 210=none:=by kernel_rfl
@[simp] theorem Tb.st210:isStr Tryz.prog 210=false:=by kernel_rfl
@[simp] theorem Tb.bo210:isBool Tryz.prog 210=false:=by kernel_rfl
@[simp] theorem Tb.in210:intT Tryz.prog 210=none:=by kernel_rfl
@[simp] theorem Tb.un210:(Tryz.prog.underlying 210).isSome=true:=by kernel_rfl
@[simp] theorem Tb.zr210:zrT Tryz.prog 210=[.slice none 0 0,.slice none 0 0,.slice none 0 0,.slice none 0 0,.slice none 0 0]:=by kernel_rfl
@[simp] theorem Tb.za210:(Tryz.prog.info? 210).any (·.zero.isSome)=true:=by kernel_rfl
@[simp] theorem Tb.zb210:((Tryz.prog.info? 210).bind (·.zero)).isSome=true:=by kernel_rfl
@[simp] theorem Tb.el210:elOK Tryz.prog 210:=elOK_of (by kernel_rfl)
@[simp] theorem Tb.bl210:bldT Tryz.prog 210=some ([.slice none 0 0,.slice none 0 0,.slice none 0 0,.slice none 0 0,.slice none 0 0],[(0,2),(2,1),(3,1),(4,1)]):=by kernel_rfl
@[simp] theorem Tb.tk229:tk Tryz.prog 229=1:=by kernel_rfl
@[simp] theorem Tb.sz229:Program.cellsOf Tryz.prog 229=1:=by kernel_rfl
@[simp] theorem Tb.sl229:slT Tryz.prog 229=none:=by kernel_rfl
@[simp] theorem Tb.st229:isStr Tryz.prog 229=false:=by kernel_rfl
@[simp] theorem Tb.bo229:isBool Tryz.prog 229=false:=by kernel_rfl
@[simp] theorem Tb.in229:intT Tryz.prog 229=none:=by kernel_rfl
@[simp] theorem Tb.un229:(Tryz.prog.underlying 229).isSome=true:=by kernel_rfl
@[simp] theorem Tb.zr229:zrT Tryz.prog 229=[.nilFunc]:=by kernel_rfl
@[simp] theorem Tb.za229:(Tryz.prog.info? 229).any (·.zero.isSome)=true:=by kernel_rfl
@[simp] theorem Tb.zb229:((Tryz.prog.info? 229).bind (·.zero)).isSome=true:=by kernel_rfl
@[simp] theorem Tb.el229:elOK Tryz.prog 229:=elOK_of (by kernel_rfl)
@[simp] theorem Tb.tk231:tk Tryz.prog 231=2:=by kernel_rfl
@[simp] theorem Tb.sz231:Program.cellsOf Tryz.prog 231=5:=by kernel_rfl
@[simp] theorem Tb.sl231:slT Tryz.prog 231=none:=by kernel_rfl
@[simp] theorem Tb.ar231:arT Tryz.prog 231=some (5,22):=by kernel_rfl
@[simp] theorem Tb.st231:isStr Tryz.prog 231=false:=by kernel_rfl
@[simp] theorem Tb.bo231:isBool Tryz.prog 231=false:=by kernel_rfl
@[simp] theorem Tb.in231:intT Tryz.prog 231=none:=by kernel_rfl
@[simp] theorem Tb.un231:(Tryz.prog.underlying 231).isSome=true:=by kernel_rfl
@[simp] theorem Tb.zr231:zrT Tryz.prog 231=[.slice none 0 0,.slice none 0 0,.slice none 0 0,.slice none 0 0,.slice none 0 0]:=by kernel_rfl
@[simp] theorem Tb.za231:(Tryz.prog.info? 231).any (·.zero.isSome)=true:=by kernel_rfl
@[simp] theorem Tb.zb231:((Tryz.prog.info? 231).bind (·.zero)).isSome=true:=by kernel_rfl
@[simp] theorem Tb.el231:elOK Tryz.prog 231:=elOK_of (by kernel_rfl)
@[simp] theorem Tb.bl231:bldT Tryz.prog 231=some ([.slice none 0 0,.slice none 0 0,.slice none 0 0,.slice none 0 0,.slice none 0 0],[(0,1),(1,1),(2,1),(3,1),(4,1)]):=by kernel_rfl
@[simp] theorem Tb.tk232:tk Tryz.prog 232=1:=by kernel_rfl
@[simp] theorem Tb.sz232:Program.cellsOf Tryz.prog 232=1:=by kernel_rfl
@[simp] theorem Tb.sl232:slT Tryz.prog 232=none:=by kernel_rfl
@[simp] theorem Tb.st232:isStr Tryz.prog 232=false:=by kernel_rfl
@[simp] theorem Tb.bo232:isBool Tryz.prog 232=false:=by kernel_rfl
@[simp] theorem Tb.in232:intT Tryz.prog 232=none:=by kernel_rfl
@[simp] theorem Tb.un232:(Tryz.prog.underlying 232).isSome=true:=by kernel_rfl
@[simp] theorem Tb.zr232:zrT Tryz.prog 232=[.nilFunc]:=by kernel_rfl
@[simp] theorem Tb.za232:(Tryz.prog.info? 232).any (·.zero.isSome)=true:=by kernel_rfl
@[simp] theorem Tb.zb232:((Tryz.prog.info? 232).bind (·.zero)).isSome=true:=by kernel_rfl
@[simp] theorem Tb.el232:elOK Tryz.prog 232:=elOK_of (by kernel_rfl)
@[simp] theorem Tb.tk233:tk Tryz.prog 233=1:=by kernel_rfl
@[simp] theorem Tb.sz233:Program.cellsOf Tryz.prog 233=1:=by kernel_rfl
@[simp] theorem Tb.sl233:slT Tryz.prog 233=none:=by kernel_rfl
@[simp] theorem Tb.st233:isStr Tryz.prog 233=false:=by kernel_rfl
@[simp] theorem Tb.bo233:isBool Tryz.prog 233=false:=by kernel_rfl
@[simp] theorem Tb.in233:intT Tryz.prog 233=none:=by kernel_rfl
@[simp] theorem Tb.un233:(Tryz.prog.underlying 233).isSome=true:=by kernel_rfl
@[simp] theorem Tb.zr233:zrT Tryz.prog 233=[.nilFunc]:=by kernel_rfl
@[simp] theorem Tb.za233:(Tryz.prog.info? 233).any (·.zero.isSome)=true:=by kernel_rfl
@[simp] theorem Tb.zb233:((Tryz.prog.info? 233).bind (·.zero)).isSome=true:=by kernel_rfl
@[simp] theorem Tb.el233:elOK Tryz.prog 233:=elOK_of (by kernel_rfl)
@[simp] theorem Tb.tk235:tk Tryz.prog 235=2:=by kernel_rfl
@[simp] theorem Tb.sz235:Program.cellsOf Tryz.prog 235=12:=by kernel_rfl
@[simp] theorem Tb.ff235_0:foff Tryz.prog 235 0=some (0,9):=by kernel_rfl
@[simp] theorem Tb.ff235_1:foff Tryz.prog 235 1=some (1,9):=by kernel_rfl
@[simp] theorem Tb.ff235_2:foff Tryz.prog 235 2=some (2,231):=by kernel_rfl
@[simp] theorem Tb.ff235_3:foff Tryz.prog 235 3=some (7,9):=by kernel_rfl
@[simp] theorem Tb.ff235_4:foff Tryz.prog 235 4=some (8,9):=by kernel_rfl
@[simp] theorem Tb.ff235_5:foff Tryz.prog 235 5=some (9,3):=by kernel_rfl
@[simp] theorem Tb.ff235_6:foff Tryz.prog 235 6=some (10,232):=by kernel_rfl
@[simp] theorem Tb.ff235_7:foff Tryz.prog 235 7=some (11,233):=by kernel_rfl
@[simp] theorem Tb.cm235:cmpT Tryz.prog 235=none:=by kernel_rfl
@[simp] theorem Tb.sl235:slT Tryz.prog 235=none:=by kernel_rfl
@[simp] theorem Tb.st235:isStr Tryz.prog 235=false:=by kernel_rfl
@[simp] theorem Tb.bo235:isBool Tryz.prog 235=false:=by kernel_rfl
@[simp] theorem Tb.in235:intT Tryz.prog 235=none:=by kernel_rfl
@[simp] theorem Tb.un235:(Tryz.prog.underlying 235).isSome=true:=by kernel_rfl
@[simp] theorem Tb.zr235:zrT Tryz.prog 235=[.string ⟨#[]⟩,.string ⟨#[]⟩,.slice none 0 0,.slice none 0 0,.slice none 0 0,.slice none 0 0,.slice none 0 0,.string ⟨#[]⟩,.string ⟨#[]⟩,.int .i64 0,.nilFunc,.nilFunc]:=by kernel_rfl
@[simp] theorem Tb.za235:(Tryz.prog.info? 235).any (·.zero.isSome)=true:=by kernel_rfl
@[simp] theorem Tb.zb235:((Tryz.prog.info? 235).bind (·.zero)).isSome=true:=by kernel_rfl
@[simp] theorem Tb.el235:elOK Tryz.prog 235:=elOK_of (by kernel_rfl)
@[simp] theorem Tb.bl235:bldT Tryz.prog 235=some ([.string ⟨#[]⟩,.string ⟨#[]⟩,.slice none 0 0,.slice none 0 0,.slice none 0 0,.slice none 0 0,.slice none 0 0,.string ⟨#[]⟩,.string ⟨#[]⟩,.int .i64 0,.nilFunc,.nilFunc],[(0,1),(1,1),(2,5),(7,1),(8,1),(9,1),(10,1),(11,1)]):=by kernel_rfl
@[simp] theorem Tb.tk242:tk Tryz.prog 242=1:=by kernel_rfl
@[simp] theorem Tb.sz242:Program.cellsOf Tryz.prog 242=1:=by kernel_rfl
@[simp] theorem Tb.sl242:slT Tryz.prog 242=none:=by kernel_rfl
@[simp] theorem Tb.mp242:mpT Tryz.prog 242=some (.string,.int .i64 0):=by kernel_rfl
@[simp] theorem Tb.st242:isStr Tryz.prog 242=false:=by kernel_rfl
@[simp] theorem Tb.bo242:isBool Tryz.prog 242=false:=by kernel_rfl
@[simp] theorem Tb.in242:intT Tryz.prog 242=none:=by kernel_rfl
@[simp] theorem Tb.un242:(Tryz.prog.underlying 242).isSome=true:=by kernel_rfl
@[simp] theorem Tb.zr242:zrT Tryz.prog 242=[.map none]:=by kernel_rfl
@[simp] theorem Tb.za242:(Tryz.prog.info? 242).any (·.zero.isSome)=true:=by kernel_rfl
@[simp] theorem Tb.zb242:((Tryz.prog.info? 242).bind (·.zero)).isSome=true:=by kernel_rfl
@[simp] theorem Tb.el242:elOK Tryz.prog 242:=elOK_of (by kernel_rfl)
@[simp] theorem Tb.tk256:tk Tryz.prog 256=1:=by kernel_rfl
@[simp] theorem Tb.sz256:Program.cellsOf Tryz.prog 256=1:=by kernel_rfl
@[simp] theorem Tb.sl256:slT Tryz.prog 256=some 260:=by kernel_rfl
@[simp] theorem Tb.st256:isStr Tryz.prog 256=false:=by kernel_rfl
@[simp] theorem Tb.bo256:isBool Tryz.prog 256=false:=by kernel_rfl
@[simp] theorem Tb.in256:intT Tryz.prog 256=none:=by kernel_rfl
@[simp] theorem Tb.un256:(Tryz.prog.underlying 256).isSome=true:=by kernel_rfl
@[simp] theorem Tb.zr256:zrT Tryz.prog 256=[.slice none 0 0]:=by kernel_rfl
@[simp] theorem Tb.za256:(Tryz.prog.info? 256).any (·.zero.isSome)=true:=by kernel_rfl
@[simp] theorem Tb.zb256:((Tryz.prog.info? 256).bind (·.zero)).isSome=true:=by kernel_rfl
@[simp] theorem Tb.el256:elOK Tryz.prog 256:=elOK_of (by kernel_rfl)
@[simp] theorem Tb.tk260:tk Tryz.prog 260=2:=by kernel_rfl
@[simp] theorem Tb.sz260:Program.cellsOf Tryz.prog 260=3:=by kernel_rfl
@[simp] theorem Tb.ff260_0:foff Tryz.prog 260 0=some (0,9):=by kernel_rfl
@[simp] theorem Tb.ff260_1:foff Tryz.prog 260 1=some (1,22):=by kernel_rfl
@[simp] theorem Tb.ff260_2:foff Tryz.prog 260 2=some (2,4):=by kernel_rfl
@[simp] theorem Tb.cm260:cmpT Tryz.prog 260=none:=by kernel_rfl
@[simp] theorem Tb.sl260:slT Tryz.prog 260=none:=by kernel_rfl
@[simp] theorem Tb.st260:isStr Tryz.prog 260=false:=by kernel_rfl
@[simp] theorem Tb.bo260:isBool Tryz.prog 260=false:=by kernel_rfl
@[simp] theorem Tb.in260:intT Tryz.prog 260=none:=by kernel_rfl
@[simp] theorem Tb.un260:(Tryz.prog.underlying 260).isSome=true:=by kernel_rfl
@[simp] theorem Tb.zr260:zrT Tryz.prog 260=[.string ⟨#[]⟩,.slice none 0 0,.bool false]:=by kernel_rfl
@[simp] theorem Tb.za260:(Tryz.prog.info? 260).any (·.zero.isSome)=true:=by kernel_rfl
@[simp] theorem Tb.zb260:((Tryz.prog.info? 260).bind (·.zero)).isSome=true:=by kernel_rfl
@[simp] theorem Tb.el260:elOK Tryz.prog 260:=elOK_of (by kernel_rfl)
@[simp] theorem Tb.bl260:bldT Tryz.prog 260=some ([.string ⟨#[]⟩,.slice none 0 0,.bool false],[(0,1),(1,1),(2,1)]):=by kernel_rfl
@[simp] theorem Tb.tk267:tk Tryz.prog 267=1:=by kernel_rfl
@[simp] theorem Tb.sz267:Program.cellsOf Tryz.prog 267=1:=by kernel_rfl
@[simp] theorem Tb.sl267:slT Tryz.prog 267=some 24:=by kernel_rfl
@[simp] theorem Tb.st267:isStr Tryz.prog 267=false:=by kernel_rfl
@[simp] theorem Tb.bo267:isBool Tryz.prog 267=false:=by kernel_rfl
@[simp] theorem Tb.in267:intT Tryz.prog 267=none:=by kernel_rfl
@[simp] theorem Tb.un267:(Tryz.prog.underlying 267).isSome=true:=by kernel_rfl
@[simp] theorem Tb.zr267:zrT Tryz.prog 267=[.slice none 0 0]:=by kernel_rfl
@[simp] theorem Tb.za267:(Tryz.prog.info? 267).any (·.zero.isSome)=true:=by kernel_rfl
@[simp] theorem Tb.zb267:((Tryz.prog.info? 267).bind (·.zero)).isSome=true:=by kernel_rfl
@[simp] theorem Tb.el267:elOK Tryz.prog 267:=elOK_of (by kernel_rfl)
@[simp] theorem Tb.tk277:tk Tryz.prog 277=2:=by kernel_rfl
@[simp] theorem Tb.sz277:Program.cellsOf Tryz.prog 277=2:=by kernel_rfl
@[simp] theorem Tb.ff277_0:foff Tryz.prog 277 0=some (0,3):=by kernel_rfl
@[simp] theorem Tb.ff277_1:foff Tryz.prog 277 1=some (1,3):=by kernel_rfl
@[simp] theorem Tb.cm277:cmpT Tryz.prog 277=some [.int .i64,.int .i64]:=by kernel_rfl
@[simp] theorem Tb.sl277:slT Tryz.prog 277=none:=by kernel_rfl
@[simp] theorem Tb.st277:isStr Tryz.prog 277=false:=by kernel_rfl
@[simp] theorem Tb.bo277:isBool Tryz.prog 277=false:=by kernel_rfl
@[simp] theorem Tb.in277:intT Tryz.prog 277=none:=by kernel_rfl
@[simp] theorem Tb.un277:(Tryz.prog.underlying 277).isSome=true:=by kernel_rfl
@[simp] theorem Tb.zr277:zrT Tryz.prog 277=[.int .i64 0,.int .i64 0]:=by kernel_rfl
@[simp] theorem Tb.za277:(Tryz.prog.info? 277).any (·.zero.isSome)=true:=by kernel_rfl
@[simp] theorem Tb.zb277:((Tryz.prog.info? 277).bind (·.zero)).isSome=true:=by kernel_rfl
@[simp] theorem Tb.el277:elOK Tryz.prog 277:=elOK_of (by kernel_rfl)
@[simp] theorem Tb.bl277:bldT Tryz.prog 277=some ([.int .i64 0,.int .i64 0],[(0,1),(1,1)]):=by kernel_rfl
@[simp] theorem Tb.tk300:tk Tryz.prog 300=1:=by kernel_rfl
@[simp] theorem Tb.sz300:Program.cellsOf Tryz.prog 300=1:=by kernel_rfl
@[simp] theorem Tb.sl300:slT Tryz.prog 300=none:=by kernel_rfl
@[simp] theorem Tb.st300:isStr Tryz.prog 300=false:=by kernel_rfl
@[simp] theorem Tb.bo300:isBool Tryz.prog 300=false:=by kernel_rfl
@[simp] theorem Tb.in300:intT Tryz.prog 300=none:=by kernel_rfl
@[simp] theorem Tb.un300:(Tryz.prog.underlying 300).isSome=true:=by kernel_rfl
@[simp] theorem Tb.zr300:zrT Tryz.prog 300=[.nilFunc]:=by kernel_rfl
@[simp] theorem Tb.za300:(Tryz.prog.info? 300).any (·.zero.isSome)=true:=by kernel_rfl
@[simp] theorem Tb.zb300:((Tryz.prog.info? 300).bind (·.zero)).isSome=true:=by kernel_rfl
@[simp] theorem Tb.el300:elOK Tryz.prog 300:=elOK_of (by kernel_rfl)
@[simp] theorem Tb.tk301:tk Tryz.prog 301=2:=by kernel_rfl
@[simp] theorem Tb.sz301:Program.cellsOf Tryz.prog 301=3:=by kernel_rfl
@[simp] theorem Tb.sl301:slT Tryz.prog 301=none:=by kernel_rfl
@[simp] theorem Tb.ar301:arT Tryz.prog 301=some (3,300):=by kernel_rfl
@[simp] theorem Tb.st301:isStr Tryz.prog 301=false:=by kernel_rfl
@[simp] theorem Tb.bo301:isBool Tryz.prog 301=false:=by kernel_rfl
@[simp] theorem Tb.in301:intT Tryz.prog 301=none:=by kernel_rfl
@[simp] theorem Tb.un301:(Tryz.prog.underlying 301).isSome=true:=by kernel_rfl
@[simp] theorem Tb.zr301:zrT Tryz.prog 301=[.nilFunc,.nilFunc,.nilFunc]:=by kernel_rfl
@[simp] theorem Tb.za301:(Tryz.prog.info? 301).any (·.zero.isSome)=true:=by kernel_rfl
@[simp] theorem Tb.zb301:((Tryz.prog.info? 301).bind (·.zero)).isSome=true:=by kernel_rfl
@[simp] theorem Tb.el301:elOK Tryz.prog 301:=elOK_of (by kernel_rfl)
@[simp] theorem Tb.bl301:bldT Tryz.prog 301=some ([.nilFunc,.nilFunc,.nilFunc],[(0,1),(1,1),(2,1)]):=by kernel_rfl
@[simp] theorem Tb.tk304:tk Tryz.prog 304=2:=by kernel_rfl
@[simp] theorem Tb.sz304:Program.cellsOf Tryz.prog 304=3:=by kernel_rfl
@[simp] theorem Tb.ff304_0:foff Tryz.prog 304 0=some (0,4):=by kernel_rfl
@[simp] theorem Tb.ff304_1:foff Tryz.prog 304 1=some (1,3):=by kernel_rfl
@[simp] theorem Tb.ff304_2:foff Tryz.prog 304 2=some (2,4):=by kernel_rfl
@[simp] theorem Tb.cm304:cmpT Tryz.prog 304=some [.bool,.int .i64,.bool]:=by kernel_rfl
@[simp] theorem Tb.sl304:slT Tryz.prog 304=none:=by kernel_rfl
@[simp] theorem Tb.st304:isStr Tryz.prog 304=false:=by kernel_rfl
@[simp] theorem Tb.bo304:isBool Tryz.prog 304=false:=by kernel_rfl
@[simp] theorem Tb.in304:intT Tryz.prog 304=none:=by kernel_rfl
@[simp] theorem Tb.un304:(Tryz.prog.underlying 304).isSome=true:=by kernel_rfl
@[simp] theorem Tb.zr304:zrT Tryz.prog 304=[.bool false,.int .i64 0,.bool false]:=by kernel_rfl
@[simp] theorem Tb.za304:(Tryz.prog.info? 304).any (·.zero.isSome)=true:=by kernel_rfl
@[simp] theorem Tb.zb304:((Tryz.prog.info? 304).bind (·.zero)).isSome=true:=by kernel_rfl
@[simp] theorem Tb.el304:elOK Tryz.prog 304:=elOK_of (by kernel_rfl)
@[simp] theorem Tb.bl304:bldT Tryz.prog 304=some ([.bool false,.int .i64 0,.bool false],[(0,1),(1,1),(2,1)]):=by kernel_rfl
@[simp] theorem Tb.tk311:tk Tryz.prog 311=2:=by kernel_rfl
@[simp] theorem Tb.sz311:Program.cellsOf Tryz.prog 311=168:=by kernel_rfl
@[simp] theorem Tb.sl311:slT Tryz.prog 311=none:=by kernel_rfl
@[simp] theorem Tb.ar311:arT Tryz.prog 311=some (14,235):=by kernel_rfl
@[simp] theorem Tb.st311:isStr Tryz.prog 311=false:=by kernel_rfl
@[simp] theorem Tb.bo311:isBool Tryz.prog 311=false:=by kernel_rfl
@[simp] theorem Tb.in311:intT Tryz.prog 311=none:=by kernel_rfl
@[simp] theorem Tb.un311:(Tryz.prog.underlying 311).isSome=true:=by kernel_rfl
@[simp] theorem Tb.zr311:zrT Tryz.prog 311=[.string ⟨#[]⟩,.string ⟨#[]⟩,.slice none 0 0,.slice none 0 0,.slice none 0 0,.slice none 0 0,.slice none 0 0,.string ⟨#[]⟩,.string ⟨#[]⟩,.int .i64 0,.nilFunc,.nilFunc,.string ⟨#[]⟩,.string ⟨#[]⟩,.slice none 0 0,.slice none 0 0,.slice none 0 0,.slice none 0 0,.slice none 0 0,.string ⟨#[]⟩,.string ⟨#[]⟩,.int .i64 0,.nilFunc,.nilFunc,.string ⟨#[]⟩,.string ⟨#[]⟩,.slice none 0 0,.slice none 0 0,.slice none 0 0,.slice none 0 0,.slice none 0 0,.string ⟨#[]⟩,.string ⟨#[]⟩,.int .i64 0,.nilFunc,.nilFunc,.string ⟨#[]⟩,.string ⟨#[]⟩,.slice none 0 0,.slice none 0 0,.slice none 0 0,.slice none 0 0,.slice none 0 0,.string ⟨#[]⟩,.string ⟨#[]⟩,.int .i64 0,.nilFunc,.nilFunc,.string ⟨#[]⟩,.string ⟨#[]⟩,.slice none 0 0,.slice none 0 0,.slice none 0 0,.slice none 0 0,.slice none 0 0,.string ⟨#[]⟩,.string ⟨#[]⟩,.int .i64 0,.nilFunc,.nilFunc,.string ⟨#[]⟩,.string ⟨#[]⟩,.slice none 0 0,.slice none 0 0,.slice none 0 0,.slice none 0 0,.slice none 0 0,.string ⟨#[]⟩,.string ⟨#[]⟩,.int .i64 0,.nilFunc,.nilFunc,.string ⟨#[]⟩,.string ⟨#[]⟩,.slice none 0 0,.slice none 0 0,.slice none 0 0,.slice none 0 0,.slice none 0 0,.string ⟨#[]⟩,.string ⟨#[]⟩,.int .i64 0,.nilFunc,.nilFunc,.string ⟨#[]⟩,.string ⟨#[]⟩,.slice none 0 0,.slice none 0 0,.slice none 0 0,.slice none 0 0,.slice none 0 0,.string ⟨#[]⟩,.string ⟨#[]⟩,.int .i64 0,.nilFunc,.nilFunc,.string ⟨#[]⟩,.string ⟨#[]⟩,.slice none 0 0,.slice none 0 0,.slice none 0 0,.slice none 0 0,.slice none 0 0,.string ⟨#[]⟩,.string ⟨#[]⟩,.int .i64 0,.nilFunc,.nilFunc,.string ⟨#[]⟩,.string ⟨#[]⟩,.slice none 0 0,.slice none 0 0,.slice none 0 0,.slice none 0 0,.slice none 0 0,.string ⟨#[]⟩,.string ⟨#[]⟩,.int .i64 0,.nilFunc,.nilFunc,.string ⟨#[]⟩,.string ⟨#[]⟩,.slice none 0 0,.slice none 0 0,.slice none 0 0,.slice none 0 0,.slice none 0 0,.string ⟨#[]⟩,.string ⟨#[]⟩,.int .i64 0,.nilFunc,.nilFunc,.string ⟨#[]⟩,.string ⟨#[]⟩,.slice none 0 0,.slice none 0 0,.slice none 0 0,.slice none 0 0,.slice none 0 0,.string ⟨#[]⟩,.string ⟨#[]⟩,.int .i64 0,.nilFunc,.nilFunc,.string ⟨#[]⟩,.string ⟨#[]⟩,.slice none 0 0,.slice none 0 0,.slice none 0 0,.slice none 0 0,.slice none 0 0,.string ⟨#[]⟩,.string ⟨#[]⟩,.int .i64 0,.nilFunc,.nilFunc,.string ⟨#[]⟩,.string ⟨#[]⟩,.slice none 0 0,.slice none 0 0,.slice none 0 0,.slice none 0 0,.slice none 0 0,.string ⟨#[]⟩,.string ⟨#[]⟩,.int .i64 0,.nilFunc,.nilFunc]:=by kernel_rfl
@[simp] theorem Tb.za311:(Tryz.prog.info? 311).any (·.zero.isSome)=true:=by kernel_rfl
@[simp] theorem Tb.zb311:((Tryz.prog.info? 311).bind (·.zero)).isSome=true:=by kernel_rfl
@[simp] theorem Tb.el311:elOK Tryz.prog 311:=elOK_of (by kernel_rfl)
@[simp] theorem Tb.bl311:bldT Tryz.prog 311=some ([.string ⟨#[]⟩,.string ⟨#[]⟩,.slice none 0 0,.slice none 0 0,.slice none 0 0,.slice none 0 0,.slice none 0 0,.string ⟨#[]⟩,.string ⟨#[]⟩,.int .i64 0,.nilFunc,.nilFunc,.string ⟨#[]⟩,.string ⟨#[]⟩,.slice none 0 0,.slice none 0 0,.slice none 0 0,.slice none 0 0,.slice none 0 0,.string ⟨#[]⟩,.string ⟨#[]⟩,.int .i64 0,.nilFunc,.nilFunc,.string ⟨#[]⟩,.string ⟨#[]⟩,.slice none 0 0,.slice none 0 0,.slice none 0 0,.slice none 0 0,.slice none 0 0,.string ⟨#[]⟩,.string ⟨#[]⟩,.int .i64 0,.nilFunc,.nilFunc,.string ⟨#[]⟩,.string ⟨#[]⟩,.slice none 0 0,.slice none 0 0,.slice none 0 0,.slice none 0 0,.slice none 0 0,.string ⟨#[]⟩,.string ⟨#[]⟩,.int .i64 0,.nilFunc,.nilFunc,.string ⟨#[]⟩,.string ⟨#[]⟩,.slice none 0 0,.slice none 0 0,.slice none 0 0,.slice none 0 0,.slice none 0 0,.string ⟨#[]⟩,.string ⟨#[]⟩,.int .i64 0,.nilFunc,.nilFunc,.string ⟨#[]⟩,.string ⟨#[]⟩,.slice none 0 0,.slice none 0 0,.slice none 0 0,.slice none 0 0,.slice none 0 0,.string ⟨#[]⟩,.string ⟨#[]⟩,.int .i64 0,.nilFunc,.nilFunc,.string ⟨#[]⟩,.string ⟨#[]⟩,.slice none 0 0,.slice none 0 0,.slice none 0 0,.slice none 0 0,.slice none 0 0,.string ⟨#[]⟩,.string ⟨#[]⟩,.int .i64 0,.nilFunc,.nilFunc,.string ⟨#[]⟩,.string ⟨#[]⟩,.slice none 0 0,.slice none 0 0,.slice none 0 0,.slice none 0 0,.slice none 0 0,.string ⟨#[]⟩,.string ⟨#[]⟩,.int .i64 0,.nilFunc,.nilFunc,.string ⟨#[]⟩,.string ⟨#[]⟩,.slice none 0 0,.slice none 0 0,.slice none 0 0,.slice none 0 0,.slice none 0 0,.string ⟨#[]⟩,.string ⟨#[]⟩,.int .i64 0,.nilFunc,.nilFunc,.string ⟨#[]⟩,.string ⟨#[]⟩,.slice none 0 0,.slice none 0 0,.slice none 0 0,.slice none 0 0,.slice none 0 0,.string ⟨#[]⟩,.string ⟨#[]⟩,.int .i64 0,.nilFunc,.nilFunc,.string ⟨#[]⟩,.string ⟨#[]⟩,.slice none 0 0,.slice none 0 0,.slice none 0 0,.slice none 0 0,.slice none 0 0,.string ⟨#[]⟩,.string ⟨#[]⟩,.int .i64 0,.nilFunc,.nilFunc,.string ⟨#[]⟩,.string ⟨#[]⟩,.slice none 0 0,.slice none 0 0,.slice none 0 0,.slice none 0 0,.slice none 0 0,.string ⟨#[]⟩,.string ⟨#[]⟩,.int .i64 0,.nilFunc,.nilFunc,.string ⟨#[]⟩,.string ⟨#[]⟩,.slice none 0 0,.slice none 0 0,.slice none 0 0,.slice none 0 0,.slice none 0 0,.string ⟨#[]⟩,.string ⟨#[]⟩,.int .i64 0,.nilFunc,.nilFunc,.string ⟨#[]⟩,.string ⟨#[]⟩,.slice none 0 0,.slice none 0 0,.slice none 0 0,.slice none 0 0,.slice none 0 0,.string ⟨#[]⟩,.string ⟨#[]⟩,.int .i64 0,.nilFunc,.nilFunc],[(0,12),(12,12),(24,12),(36,12),(48,12),(60,12),(72,12),(84,12),(96,12),(108,12),(120,12),(132,12),(144,12),(156,12)]):=by kernel_rfl
@[simp] theorem Tb.tk315:tk Tryz.prog 315=1:=by kernel_rfl
@[simp] theorem Tb.sz315:Program.cellsOf Tryz.prog 315=1:=by kernel_rfl
@[simp] theorem Tb.sl315:slT Tryz.prog 315=none:=by kernel_rfl
@[simp] theorem Tb.st315:isStr Tryz.prog 315=false:=by kernel_rfl
@[simp] theorem Tb.bo315:isBool Tryz.prog 315=false:=by kernel_rfl
@[simp] theorem Tb.in315:intT Tryz.prog 315=none:=by kernel_rfl
@[simp] theorem Tb.un315:(Tryz.prog.underlying 315).isSome=true:=by kernel_rfl
@[simp] theorem Tb.zr315:zrT Tryz.prog 315=[.pointer none]:=by kernel_rfl
@[simp] theorem Tb.za315:(Tryz.prog.info? 315).any (·.zero.isSome)=true:=by kernel_rfl
@[simp] theorem Tb.zb315:((Tryz.prog.info? 315).bind (·.zero)).isSome=true:=by kernel_rfl
@[simp] theorem Tb.el315:elOK Tryz.prog 315:=elOK_of (by kernel_rfl)
@[simp] theorem Tb.tk316:tk Tryz.prog 316=1:=by kernel_rfl
@[simp] theorem Tb.sz316:Program.cellsOf Tryz.prog 316=1:=by kernel_rfl
@[simp] theorem Tb.sl316:slT Tryz.prog 316=none:=by kernel_rfl
@[simp] theorem Tb.st316:isStr Tryz.prog 316=false:=by kernel_rfl
@[simp] theorem Tb.bo316:isBool Tryz.prog 316=false:=by kernel_rfl
@[simp] theorem Tb.in316:intT Tryz.prog 316=none:=by kernel_rfl
@[simp] theorem Tb.un316:(Tryz.prog.underlying 316).isSome=true:=by kernel_rfl
@[simp] theorem Tb.zr316:zrT Tryz.prog 316=[.nilFunc]:=by kernel_rfl
@[simp] theorem Tb.za316:(Tryz.prog.info? 316).any (·.zero.isSome)=true:=by kernel_rfl
@[simp] theorem Tb.zb316:((Tryz.prog.info? 316).bind (·.zero)).isSome=true:=by kernel_rfl
@[simp] theorem Tb.el316:elOK Tryz.prog 316:=elOK_of (by kernel_rfl)
@[simp] theorem Tb.tk317:tk Tryz.prog 317=2:=by kernel_rfl
@[simp] theorem Tb.sz317:Program.cellsOf Tryz.prog 317=3:=by kernel_rfl
@[simp] theorem Tb.sl317:slT Tryz.prog 317=none:=by kernel_rfl
@[simp] theorem Tb.ar317:arT Tryz.prog 317=some (3,316):=by kernel_rfl
@[simp] theorem Tb.st317:isStr Tryz.prog 317=false:=by kernel_rfl
@[simp] theorem Tb.bo317:isBool Tryz.prog 317=false:=by kernel_rfl
@[simp] theorem Tb.in317:intT Tryz.prog 317=none:=by kernel_rfl
@[simp] theorem Tb.un317:(Tryz.prog.underlying 317).isSome=true:=by kernel_rfl
@[simp] theorem Tb.zr317:zrT Tryz.prog 317=[.nilFunc,.nilFunc,.nilFunc]:=by kernel_rfl
@[simp] theorem Tb.za317:(Tryz.prog.info? 317).any (·.zero.isSome)=true:=by kernel_rfl
@[simp] theorem Tb.zb317:((Tryz.prog.info? 317).bind (·.zero)).isSome=true:=by kernel_rfl
@[simp] theorem Tb.el317:elOK Tryz.prog 317:=elOK_of (by kernel_rfl)
@[simp] theorem Tb.bl317:bldT Tryz.prog 317=some ([.nilFunc,.nilFunc,.nilFunc],[(0,1),(1,1),(2,1)]):=by kernel_rfl
@[simp] theorem Tb.tk319:tk Tryz.prog 319=2:=by kernel_rfl
@[simp] theorem Tb.sz319:Program.cellsOf Tryz.prog 319=9:=by kernel_rfl
@[simp] theorem Tb.ff319_0:foff Tryz.prog 319 0=some (0,26):=by kernel_rfl
@[simp] theorem Tb.ff319_1:foff Tryz.prog 319 1=some (5,242):=by kernel_rfl
@[simp] theorem Tb.ff319_2:foff Tryz.prog 319 2=some (6,317):=by kernel_rfl
@[simp] theorem Tb.cm319:cmpT Tryz.prog 319=none:=by kernel_rfl
@[simp] theorem Tb.sl319:slT Tryz.prog 319=none:=by kernel_rfl
@[simp] theorem Tb.st319:isStr Tryz.prog 319=false:=by kernel_rfl
@[simp] theorem Tb.bo319:isBool Tryz.prog 319=false:=by kernel_rfl
@[simp] theorem Tb.in319:intT Tryz.prog 319=none:=by kernel_rfl
@[simp] theorem Tb.un319:(Tryz.prog.underlying 319).isSome=true:=by kernel_rfl
@[simp] theorem Tb.zr319:zrT Tryz.prog 319=[.int .i64 0,.slice none 0 0,.slice none 0 0,.slice none 0 0,.slice none 0 0,.map none,.nilFunc,.nilFunc,.nilFunc]:=by kernel_rfl
@[simp] theorem Tb.za319:(Tryz.prog.info? 319).any (·.zero.isSome)=true:=by kernel_rfl
@[simp] theorem Tb.zb319:((Tryz.prog.info? 319).bind (·.zero)).isSome=true:=by kernel_rfl
@[simp] theorem Tb.el319:elOK Tryz.prog 319:=elOK_of (by kernel_rfl)
@[simp] theorem Tb.bl319:bldT Tryz.prog 319=some ([.int .i64 0,.slice none 0 0,.slice none 0 0,.slice none 0 0,.slice none 0 0,.map none,.nilFunc,.nilFunc,.nilFunc],[(0,5),(5,1),(6,3)]):=by kernel_rfl
@[simp] theorem Tb.tk338:tk Tryz.prog 338=2:=by kernel_rfl
@[simp] theorem Tb.sz338:Program.cellsOf Tryz.prog 338=3:=by kernel_rfl
@[simp] theorem Tb.ff338_0:foff Tryz.prog 338 0=some (0,3):=by kernel_rfl
@[simp] theorem Tb.ff338_1:foff Tryz.prog 338 1=some (1,3):=by kernel_rfl
@[simp] theorem Tb.ff338_2:foff Tryz.prog 338 2=some (2,336):=by kernel_rfl
@[simp] theorem Tb.cm338:cmpT Tryz.prog 338=none:=by kernel_rfl
@[simp] theorem Tb.sl338:slT Tryz.prog 338=none:=by kernel_rfl
@[simp] theorem Tb.st338:isStr Tryz.prog 338=false:=by kernel_rfl
@[simp] theorem Tb.bo338:isBool Tryz.prog 338=false:=by kernel_rfl
@[simp] theorem Tb.in338:intT Tryz.prog 338=none:=by kernel_rfl
@[simp] theorem Tb.un338:(Tryz.prog.underlying 338).isSome=true:=by kernel_rfl
@[simp] theorem Tb.zr338:zrT Tryz.prog 338=[.int .i64 0,.int .i64 0,.nilFunc]:=by kernel_rfl
@[simp] theorem Tb.za338:(Tryz.prog.info? 338).any (·.zero.isSome)=true:=by kernel_rfl
@[simp] theorem Tb.zb338:((Tryz.prog.info? 338).bind (·.zero)).isSome=true:=by kernel_rfl
@[simp] theorem Tb.el338:elOK Tryz.prog 338:=elOK_of (by kernel_rfl)
@[simp] theorem Tb.bl338:bldT Tryz.prog 338=some ([.int .i64 0,.int .i64 0,.nilFunc],[(0,1),(1,1),(2,1)]):=by kernel_rfl
@[simp] theorem Tb.tk339:tk Tryz.prog 339=2:=by kernel_rfl
@[simp] theorem Tb.sz339:Program.cellsOf Tryz.prog 339=15:=by kernel_rfl
@[simp] theorem Tb.sl339:slT Tryz.prog 339=none:=by kernel_rfl
@[simp] theorem Tb.ar339:arT Tryz.prog 339=some (5,338):=by kernel_rfl
@[simp] theorem Tb.st339:isStr Tryz.prog 339=false:=by kernel_rfl
@[simp] theorem Tb.bo339:isBool Tryz.prog 339=false:=by kernel_rfl
@[simp] theorem Tb.in339:intT Tryz.prog 339=none:=by kernel_rfl
@[simp] theorem Tb.un339:(Tryz.prog.underlying 339).isSome=true:=by kernel_rfl
@[simp] theorem Tb.zr339:zrT Tryz.prog 339=[.int .i64 0,.int .i64 0,.nilFunc,.int .i64 0,.int .i64 0,.nilFunc,.int .i64 0,.int .i64 0,.nilFunc,.int .i64 0,.int .i64 0,.nilFunc,.int .i64 0,.int .i64 0,.nilFunc]:=by kernel_rfl
@[simp] theorem Tb.za339:(Tryz.prog.info? 339).any (·.zero.isSome)=true:=by kernel_rfl
@[simp] theorem Tb.zb339:((Tryz.prog.info? 339).bind (·.zero)).isSome=true:=by kernel_rfl
@[simp] theorem Tb.el339:elOK Tryz.prog 339:=elOK_of (by kernel_rfl)
@[simp] theorem Tb.bl339:bldT Tryz.prog 339=some ([.int .i64 0,.int .i64 0,.nilFunc,.int .i64 0,.int .i64 0,.nilFunc,.int .i64 0,.int .i64 0,.nilFunc,.int .i64 0,.int .i64 0,.nilFunc,.int .i64 0,.int .i64 0,.nilFunc],[(0,3),(3,3),(6,3),(9,3),(12,3)]):=by kernel_rfl
@[simp] theorem Tb.tk344:tk Tryz.prog 344=1:=by kernel_rfl
@[simp] theorem Tb.sz344:Program.cellsOf Tryz.prog 344=1:=by kernel_rfl
@[simp] theorem Tb.sl344:slT Tryz.prog 344=some 22:=by kernel_rfl
@[simp] theorem Tb.st344:isStr Tryz.prog 344=false:=by kernel_rfl
@[simp] theorem Tb.bo344:isBool Tryz.prog 344=false:=by kernel_rfl
@[simp] theorem Tb.in344:intT Tryz.prog 344=none:=by kernel_rfl
@[simp] theorem Tb.un344:(Tryz.prog.underlying 344).isSome=true:=by kernel_rfl
@[simp] theorem Tb.zr344:zrT Tryz.prog 344=[.slice none 0 0]:=by kernel_rfl
@[simp] theorem Tb.za344:(Tryz.prog.info? 344).any (·.zero.isSome)=true:=by kernel_rfl
@[simp] theorem Tb.zb344:((Tryz.prog.info? 344).bind (·.zero)).isSome=true:=by kernel_rfl
@[simp] theorem Tb.el344:elOK Tryz.prog 344:=elOK_of (by kernel_rfl)
@[simp] theorem Tb.tk362:tk Tryz.prog 362=1:=by kernel_rfl
@[simp] theorem Tb.sz362:Program.cellsOf Tryz.prog 362=1:=by kernel_rfl
@[simp] theorem Tb.sl362:slT Tryz.prog 362=some 364:=by kernel_rfl
@[simp] theorem Tb.st362:isStr Tryz.prog 362=false:=by kernel_rfl
@[simp] theorem Tb.bo362:isBool Tryz.prog 362=false:=by kernel_rfl
@[simp] theorem Tb.in362:intT Tryz.prog 362=none:=by kernel_rfl
@[simp] theorem Tb.un362:(Tryz.prog.underlying 362).isSome=true:=by kernel_rfl
@[simp] theorem Tb.zr362:zrT Tryz.prog 362=[.slice none 0 0]:=by kernel_rfl
@[simp] theorem Tb.za362:(Tryz.prog.info? 362).any (·.zero.isSome)=true:=by kernel_rfl
@[simp] theorem Tb.zb362:((Tryz.prog.info? 362).bind (·.zero)).isSome=true:=by kernel_rfl
@[simp] theorem Tb.el362:elOK Tryz.prog 362:=elOK_of (by kernel_rfl)
@[simp] theorem Tb.tk364:tk Tryz.prog 364=2:=by kernel_rfl
@[simp] theorem Tb.sz364:Program.cellsOf Tryz.prog 364=5:=by kernel_rfl
@[simp] theorem Tb.ff364_0:foff Tryz.prog 364 0=some (0,3):=by kernel_rfl
@[simp] theorem Tb.ff364_1:foff Tryz.prog 364 1=some (1,3):=by kernel_rfl
@[simp] theorem Tb.ff364_2:foff Tryz.prog 364 2=some (2,260):=by kernel_rfl
@[simp] theorem Tb.cm364:cmpT Tryz.prog 364=none:=by kernel_rfl
@[simp] theorem Tb.sl364:slT Tryz.prog 364=none:=by kernel_rfl
@[simp] theorem Tb.st364:isStr Tryz.prog 364=false:=by kernel_rfl
@[simp] theorem Tb.bo364:isBool Tryz.prog 364=false:=by kernel_rfl
@[simp] theorem Tb.in364:intT Tryz.prog 364=none:=by kernel_rfl
@[simp] theorem Tb.un364:(Tryz.prog.underlying 364).isSome=true:=by kernel_rfl
@[simp] theorem Tb.zr364:zrT Tryz.prog 364=[.int .i64 0,.int .i64 0,.string ⟨#[]⟩,.slice none 0 0,.bool false]:=by kernel_rfl
@[simp] theorem Tb.za364:(Tryz.prog.info? 364).any (·.zero.isSome)=true:=by kernel_rfl
@[simp] theorem Tb.zb364:((Tryz.prog.info? 364).bind (·.zero)).isSome=true:=by kernel_rfl
@[simp] theorem Tb.el364:elOK Tryz.prog 364:=elOK_of (by kernel_rfl)
@[simp] theorem Tb.bl364:bldT Tryz.prog 364=some ([.int .i64 0,.int .i64 0,.string ⟨#[]⟩,.slice none 0 0,.bool false],[(0,1),(1,1),(2,3)]):=by kernel_rfl
@[simp] theorem Tb.tk379:tk Tryz.prog 379=2:=by kernel_rfl
@[simp] theorem Tb.sz379:Program.cellsOf Tryz.prog 379=3:=by kernel_rfl
@[simp] theorem Tb.sl379:slT Tryz.prog 379=none:=by kernel_rfl
@[simp] theorem Tb.ar379:arT Tryz.prog 379=some (3,5):=by kernel_rfl
@[simp] theorem Tb.st379:isStr Tryz.prog 379=false:=by kernel_rfl
@[simp] theorem Tb.bo379:isBool Tryz.prog 379=false:=by kernel_rfl
@[simp] theorem Tb.in379:intT Tryz.prog 379=none:=by kernel_rfl
@[simp] theorem Tb.un379:(Tryz.prog.underlying 379).isSome=true:=by kernel_rfl
@[simp] theorem Tb.zr379:zrT Tryz.prog 379=[.int .u8 0,.int .u8 0,.int .u8 0]:=by kernel_rfl
@[simp] theorem Tb.za379:(Tryz.prog.info? 379).any (·.zero.isSome)=true:=by kernel_rfl
@[simp] theorem Tb.zb379:((Tryz.prog.info? 379).bind (·.zero)).isSome=true:=by kernel_rfl
@[simp] theorem Tb.el379:elOK Tryz.prog 379:=elOK_of (by kernel_rfl)
@[simp] theorem Tb.bl379:bldT Tryz.prog 379=some ([.int .u8 0,.int .u8 0,.int .u8 0],[(0,1),(1,1),(2,1)]):=by kernel_rfl
@[simp] theorem Tb.tk380:tk Tryz.prog 380=2:=by kernel_rfl
@[simp] theorem Tb.sz380:Program.cellsOf Tryz.prog 380=18:=by kernel_rfl
@[simp] theorem Tb.sl380:slT Tryz.prog 380=none:=by kernel_rfl
@[simp] theorem Tb.ar380:arT Tryz.prog 380=some (6,379):=by kernel_rfl
@[simp] theorem Tb.st380:isStr Tryz.prog 380=false:=by kernel_rfl
@[simp] theorem Tb.bo380:isBool Tryz.prog 380=false:=by kernel_rfl
@[simp] theorem Tb.in380:intT Tryz.prog 380=none:=by kernel_rfl
@[simp] theorem Tb.un380:(Tryz.prog.underlying 380).isSome=true:=by kernel_rfl
@[simp] theorem Tb.zr380:zrT Tryz.prog 380=[.int .u8 0,.int .u8 0,.int .u8 0,.int .u8 0,.int .u8 0,.int .u8 0,.int .u8 0,.int .u8 0,.int .u8 0,.int .u8 0,.int .u8 0,.int .u8 0,.int .u8 0,.int .u8 0,.int .u8 0,.int .u8 0,.int .u8 0,.int .u8 0]:=by kernel_rfl
@[simp] theorem Tb.za380:(Tryz.prog.info? 380).any (·.zero.isSome)=true:=by kernel_rfl
@[simp] theorem Tb.zb380:((Tryz.prog.info? 380).bind (·.zero)).isSome=true:=by kernel_rfl
@[simp] theorem Tb.el380:elOK Tryz.prog 380:=elOK_of (by kernel_rfl)
@[simp] theorem Tb.bl380:bldT Tryz.prog 380=some ([.int .u8 0,.int .u8 0,.int .u8 0,.int .u8 0,.int .u8 0,.int .u8 0,.int .u8 0,.int .u8 0,.int .u8 0,.int .u8 0,.int .u8 0,.int .u8 0,.int .u8 0,.int .u8 0,.int .u8 0,.int .u8 0,.int .u8 0,.int .u8 0],[(0,3),(3,3),(6,3),(9,3),(12,3),(15,3)]):=by kernel_rfl
@[simp] theorem Tb.tk383:tk Tryz.prog 383=1:=by kernel_rfl
@[simp] theorem Tb.sz383:Program.cellsOf Tryz.prog 383=1:=by kernel_rfl
@[simp] theorem Tb.sl383:slT Tryz.prog 383=none:=by kernel_rfl
@[simp] theorem Tb.st383:isStr Tryz.prog 383=false:=by kernel_rfl
@[simp] theorem Tb.bo383:isBool Tryz.prog 383=false:=by kernel_rfl
@[simp] theorem Tb.in383:intT Tryz.prog 383=none:=by kernel_rfl
@[simp] theorem Tb.un383:(Tryz.prog.underlying 383).isSome=true:=by kernel_rfl
@[simp] theorem Tb.zr383:zrT Tryz.prog 383=[.nilFunc]:=by kernel_rfl
@[simp] theorem Tb.za383:(Tryz.prog.info? 383).any (·.zero.isSome)=true:=by kernel_rfl
@[simp] theorem Tb.zb383:((Tryz.prog.info? 383).bind (·.zero)).isSome=true:=by kernel_rfl
@[simp] theorem Tb.el383:elOK Tryz.prog 383:=elOK_of (by kernel_rfl)
@[simp] theorem Tb.tk392:tk Tryz.prog 392=1:=by kernel_rfl
@[simp] theorem Tb.sz392:Program.cellsOf Tryz.prog 392=1:=by kernel_rfl
@[simp] theorem Tb.sl392:slT Tryz.prog 392=none:=by kernel_rfl
@[simp] theorem Tb.st392:isStr Tryz.prog 392=false:=by kernel_rfl
@[simp] theorem Tb.bo392:isBool Tryz.prog 392=false:=by kernel_rfl
@[simp] theorem Tb.in392:intT Tryz.prog 392=none:=by kernel_rfl
@[simp] theorem Tb.un392:(Tryz.prog.underlying 392).isSome=true:=by kernel_rfl
@[simp] theorem Tb.zr392:zrT Tryz.prog 392=[.nilFunc]:=by kernel_rfl
@[simp] theorem Tb.za392:(Tryz.prog.info? 392).any (·.zero.isSome)=true:=by kernel_rfl
@[simp] theorem Tb.zb392:((Tryz.prog.info? 392).bind (·.zero)).isSome=true:=by kernel_rfl
@[simp] theorem Tb.el392:elOK Tryz.prog 392:=elOK_of (by kernel_rfl)
@[simp] theorem Tb.tk405:tk Tryz.prog 405=1:=by kernel_rfl
@[simp] theorem Tb.sz405:Program.cellsOf Tryz.prog 405=1:=by kernel_rfl
@[simp] theorem Tb.sl405:slT Tryz.prog 405=some 409:=by kernel_rfl
@[simp] theorem Tb.st405:isStr Tryz.prog 405=false:=by kernel_rfl
@[simp] theorem Tb.bo405:isBool Tryz.prog 405=false:=by kernel_rfl
@[simp] theorem Tb.in405:intT Tryz.prog 405=none:=by kernel_rfl
@[simp] theorem Tb.un405:(Tryz.prog.underlying 405).isSome=true:=by kernel_rfl
@[simp] theorem Tb.zr405:zrT Tryz.prog 405=[.slice none 0 0]:=by kernel_rfl
@[simp] theorem Tb.za405:(Tryz.prog.info? 405).any (·.zero.isSome)=true:=by kernel_rfl
@[simp] theorem Tb.zb405:((Tryz.prog.info? 405).bind (·.zero)).isSome=true:=by kernel_rfl
@[simp] theorem Tb.el405:elOK Tryz.prog 405:=elOK_of (by kernel_rfl)
@[simp] theorem Tb.tk407:tk Tryz.prog 407=2:=by kernel_rfl
@[simp] theorem Tb.sz407:Program.cellsOf Tryz.prog 407=3:=by kernel_rfl
@[simp] theorem Tb.ff407_0:foff Tryz.prog 407 0=some (0,9):=by kernel_rfl
@[simp] theorem Tb.ff407_1:foff Tryz.prog 407 1=some (1,22):=by kernel_rfl
@[simp] theorem Tb.ff407_2:foff Tryz.prog 407 2=some (2,4):=by kernel_rfl
@[simp] theorem Tb.cm407:cmpT Tryz.prog 407=none:=by kernel_rfl
@[simp] theorem Tb.sl407:slT Tryz.prog 407=none:=by kernel_rfl
@[simp] theorem Tb.st407:isStr Tryz.prog 407=false:=by kernel_rfl
@[simp] theorem Tb.bo407:isBool Tryz.prog 407=false:=by kernel_rfl
@[simp] theorem Tb.in407:intT Tryz.prog 407=none:=by kernel_rfl
@[simp] theorem Tb.un407:(Tryz.prog.underlying 407).isSome=true:=by kernel_rfl
@[simp] theorem Tb.zr407:zrT Tryz.prog 407=[.string ⟨#[]⟩,.slice none 0 0,.bool false]:=by kernel_rfl
@[simp] theorem Tb.za407:(Tryz.prog.info? 407).any (·.zero.isSome)=true:=by kernel_rfl
@[simp] theorem Tb.zb407:((Tryz.prog.info? 407).bind (·.zero)).isSome=true:=by kernel_rfl
@[simp] theorem Tb.el407:elOK Tryz.prog 407:=elOK_of (by kernel_rfl)
@[simp] theorem Tb.bl407:bldT Tryz.prog 407=some ([.string ⟨#[]⟩,.slice none 0 0,.bool false],[(0,1),(1,1),(2,1)]):=by kernel_rfl
@[simp] theorem Tb.tk409:tk Tryz.prog 409=2:=by kernel_rfl
@[simp] theorem Tb.sz409:Program.cellsOf Tryz.prog 409=5:=by kernel_rfl
@[simp] theorem Tb.ff409_0:foff Tryz.prog 409 0=some (0,3):=by kernel_rfl
@[simp] theorem Tb.ff409_1:foff Tryz.prog 409 1=some (1,3):=by kernel_rfl
@[simp] theorem Tb.ff409_2:foff Tryz.prog 409 2=some (2,407):=by kernel_rfl
@[simp] theorem Tb.cm409:cmpT Tryz.prog 409=none:=by kernel_rfl
@[simp] theorem Tb.sl409:slT Tryz.prog 409=none:=by kernel_rfl
@[simp] theorem Tb.st409:isStr Tryz.prog 409=false:=by kernel_rfl
@[simp] theorem Tb.bo409:isBool Tryz.prog 409=false:=by kernel_rfl
@[simp] theorem Tb.in409:intT Tryz.prog 409=none:=by kernel_rfl
@[simp] theorem Tb.un409:(Tryz.prog.underlying 409).isSome=true:=by kernel_rfl
@[simp] theorem Tb.zr409:zrT Tryz.prog 409=[.int .i64 0,.int .i64 0,.string ⟨#[]⟩,.slice none 0 0,.bool false]:=by kernel_rfl
@[simp] theorem Tb.za409:(Tryz.prog.info? 409).any (·.zero.isSome)=true:=by kernel_rfl
@[simp] theorem Tb.zb409:((Tryz.prog.info? 409).bind (·.zero)).isSome=true:=by kernel_rfl
@[simp] theorem Tb.el409:elOK Tryz.prog 409:=elOK_of (by kernel_rfl)
@[simp] theorem Tb.bl409:bldT Tryz.prog 409=some ([.int .i64 0,.int .i64 0,.string ⟨#[]⟩,.slice none 0 0,.bool false],[(0,1),(1,1),(2,3)]):=by kernel_rfl
@[simp] theorem Tb.tk417:tk Tryz.prog 417=1:=by kernel_rfl
@[simp] theorem Tb.sz417:Program.cellsOf Tryz.prog 417=1:=by kernel_rfl
@[simp] theorem Tb.sl417:slT Tryz.prog 417=some 27:=by kernel_rfl
@[simp] theorem Tb.st417:isStr Tryz.prog 417=false:=by kernel_rfl
@[simp] theorem Tb.bo417:isBool Tryz.prog 417=false:=by kernel_rfl
@[simp] theorem Tb.in417:intT Tryz.prog 417=none:=by kernel_rfl
@[simp] theorem Tb.un417:(Tryz.prog.underlying 417).isSome=true:=by kernel_rfl
@[simp] theorem Tb.zr417:zrT Tryz.prog 417=[.slice none 0 0]:=by kernel_rfl
@[simp] theorem Tb.za417:(Tryz.prog.info? 417).any (·.zero.isSome)=true:=by kernel_rfl
@[simp] theorem Tb.zb417:((Tryz.prog.info? 417).bind (·.zero)).isSome=true:=by kernel_rfl
@[simp] theorem Tb.el417:elOK Tryz.prog 417:=elOK_of (by kernel_rfl)
@[simp] theorem Tb.tk422:tk Tryz.prog 422=1:=by kernel_rfl
@[simp] theorem Tb.sz422:Program.cellsOf Tryz.prog 422=1:=by kernel_rfl
@[simp] theorem Tb.sl422:slT Tryz.prog 422=none:=by kernel_rfl
@[simp] theorem Tb.st422:isStr Tryz.prog 422=false:=by kernel_rfl
@[simp] theorem Tb.bo422:isBool Tryz.prog 422=false:=by kernel_rfl
@[simp] theorem Tb.in422:intT Tryz.prog 422=none:=by kernel_rfl
@[simp] theorem Tb.un422:(Tryz.prog.underlying 422).isSome=true:=by kernel_rfl
@[simp] theorem Tb.zr422:zrT Tryz.prog 422=[.nilFunc]:=by kernel_rfl
@[simp] theorem Tb.za422:(Tryz.prog.info? 422).any (·.zero.isSome)=true:=by kernel_rfl
@[simp] theorem Tb.zb422:((Tryz.prog.info? 422).bind (·.zero)).isSome=true:=by kernel_rfl
@[simp] theorem Tb.el422:elOK Tryz.prog 422:=elOK_of (by kernel_rfl)
@[simp] theorem Tb.tk440:tk Tryz.prog 440=2:=by kernel_rfl
@[simp] theorem Tb.sz440:Program.cellsOf Tryz.prog 440=5:=by kernel_rfl
@[simp] theorem Tb.sl440:slT Tryz.prog 440=none:=by kernel_rfl
@[simp] theorem Tb.ar440:arT Tryz.prog 440=some (5,9):=by kernel_rfl
@[simp] theorem Tb.st440:isStr Tryz.prog 440=false:=by kernel_rfl
@[simp] theorem Tb.bo440:isBool Tryz.prog 440=false:=by kernel_rfl
@[simp] theorem Tb.in440:intT Tryz.prog 440=none:=by kernel_rfl
@[simp] theorem Tb.un440:(Tryz.prog.underlying 440).isSome=true:=by kernel_rfl
@[simp] theorem Tb.zr440:zrT Tryz.prog 440=[.string ⟨#[]⟩,.string ⟨#[]⟩,.string ⟨#[]⟩,.string ⟨#[]⟩,.string ⟨#[]⟩]:=by kernel_rfl
@[simp] theorem Tb.za440:(Tryz.prog.info? 440).any (·.zero.isSome)=true:=by kernel_rfl
@[simp] theorem Tb.zb440:((Tryz.prog.info? 440).bind (·.zero)).isSome=true:=by kernel_rfl
@[simp] theorem Tb.el440:elOK Tryz.prog 440:=elOK_of (by kernel_rfl)
@[simp] theorem Tb.bl440:bldT Tryz.prog 440=some ([.string ⟨#[]⟩,.string ⟨#[]⟩,.string ⟨#[]⟩,.string ⟨#[]⟩,.string ⟨#[]⟩],[(0,1),(1,1),(2,1),(3,1),(4,1)]):=by kernel_rfl
@[simp] theorem Tb.tk442:tk Tryz.prog 442=2:=by kernel_rfl
@[simp] theorem Tb.sz442:Program.cellsOf Tryz.prog 442=7:=by kernel_rfl
@[simp] theorem Tb.ff442_0:foff Tryz.prog 442 0=some (0,9):=by kernel_rfl
@[simp] theorem Tb.ff442_1:foff Tryz.prog 442 1=some (1,9):=by kernel_rfl
@[simp] theorem Tb.ff442_2:foff Tryz.prog 442 2=some (2,440):=by kernel_rfl
@[simp] theorem Tb.cm442:cmpT Tryz.prog 442=none:=by kernel_rfl
@[simp] theorem Tb.sl442:slT Tryz.prog 442=none:=by kernel_rfl
@[simp] theorem Tb.st442:isStr Tryz.prog 442=false:=by kernel_rfl
@[simp] theorem Tb.bo442:isBool Tryz.prog 442=false:=by kernel_rfl
@[simp] theorem Tb.in442:intT Tryz.prog 442=none:=by kernel_rfl
@[simp] theorem Tb.un442:(Tryz.prog.underlying 442).isSome=true:=by kernel_rfl
@[simp] theorem Tb.zr442:zrT Tryz.prog 442=[.string ⟨#[]⟩,.string ⟨#[]⟩,.string ⟨#[]⟩,.string ⟨#[]⟩,.string ⟨#[]⟩,.string ⟨#[]⟩,.string ⟨#[]⟩]:=by kernel_rfl
@[simp] theorem Tb.za442:(Tryz.prog.info? 442).any (·.zero.isSome)=true:=by kernel_rfl
@[simp] theorem Tb.zb442:((Tryz.prog.info? 442).bind (·.zero)).isSome=true:=by kernel_rfl
@[simp] theorem Tb.el442:elOK Tryz.prog 442:=elOK_of (by kernel_rfl)
@[simp] theorem Tb.bl442:bldT Tryz.prog 442=some ([.string ⟨#[]⟩,.string ⟨#[]⟩,.string ⟨#[]⟩,.string ⟨#[]⟩,.string ⟨#[]⟩,.string ⟨#[]⟩,.string ⟨#[]⟩],[(0,1),(1,1),(2,5)]):=by kernel_rfl
@[simp] theorem Tb.tk443:tk Tryz.prog 443=1:=by kernel_rfl
@[simp] theorem Tb.sz443:Program.cellsOf Tryz.prog 443=1:=by kernel_rfl
@[simp] theorem Tb.sl443:slT Tryz.prog 443=some 442:=by kernel_rfl
@[simp] theorem Tb.st443:isStr Tryz.prog 443=false:=by kernel_rfl
@[simp] theorem Tb.bo443:isBool Tryz.prog 443=false:=by kernel_rfl
@[simp] theorem Tb.in443:intT Tryz.prog 443=none:=by kernel_rfl
@[simp] theorem Tb.un443:(Tryz.prog.underlying 443).isSome=true:=by kernel_rfl
@[simp] theorem Tb.zr443:zrT Tryz.prog 443=[.slice none 0 0]:=by kernel_rfl
@[simp] theorem Tb.za443:(Tryz.prog.info? 443).any (·.zero.isSome)=true:=by kernel_rfl
@[simp] theorem Tb.zb443:((Tryz.prog.info? 443).bind (·.zero)).isSome=true:=by kernel_rfl
@[simp] theorem Tb.el443:elOK Tryz.prog 443:=elOK_of (by kernel_rfl)
@[simp] theorem Tb.tk445:tk Tryz.prog 445=1:=by kernel_rfl
@[simp] theorem Tb.sz445:Program.cellsOf Tryz.prog 445=1:=by kernel_rfl
@[simp] theorem Tb.sl445:slT Tryz.prog 445=some 407:=by kernel_rfl
@[simp] theorem Tb.st445:isStr Tryz.prog 445=false:=by kernel_rfl
@[simp] theorem Tb.bo445:isBool Tryz.prog 445=false:=by kernel_rfl
@[simp] theorem Tb.in445:intT Tryz.prog 445=none:=by kernel_rfl
@[simp] theorem Tb.un445:(Tryz.prog.underlying 445).isSome=true:=by kernel_rfl
@[simp] theorem Tb.zr445:zrT Tryz.prog 445=[.slice none 0 0]:=by kernel_rfl
@[simp] theorem Tb.za445:(Tryz.prog.info? 445).any (·.zero.isSome)=true:=by kernel_rfl
@[simp] theorem Tb.zb445:((Tryz.prog.info? 445).bind (·.zero)).isSome=true:=by kernel_rfl
@[simp] theorem Tb.el445:elOK Tryz.prog 445:=elOK_of (by kernel_rfl)
end Go.Proofs.YtafamcbdaeppoaaGreatDoor
