/- Texts joined by a program: Tb,Fws,Fwt. -/
import Derived.KernelRfl
import Derived.Test.YtafamcbdaeppoaaGreatDoorF5
import Derived.Test.YtafamcbdaeppoaaGreatDoorF8
set_option linter.unusedSimpArgs false
set_option linter.unusedVariables false
namespace Go.Proofs.YtafamcbdaeppoaaGreatDoor
@[simp] theorem Tb.tk3:tk Tryz.prog 3=1:=by kernel_rfl
@[simp] theorem Tb.sz3:Program.cellsOf Tryz.prog 3=1:=by kernel_rfl
@[simp] theorem Tb.sl3:slT Tryz.prog 3=none:=by kernel_rfl
@[simp] theorem Tb.st3:isStr Tryz.prog 3=false:=by kernel_rfl
@[simp] theorem Tb.bo3:isBool Tryz.prog 3=false:=by kernel_rfl
@[simp] theorem Tb.in3:intT Tryz.prog 3=some .i64:=by kernel_rfl
@[simp] theorem Tb.zr3:zrT Tryz.prog 3=[.int .i64 0]:=by kernel_rfl
@[simp] theorem Tb.za3:(Tryz.prog.info? 3).any (·.zero.isSome)=true:=by kernel_rfl
@[simp] theorem Tb.zb3:((Tryz.prog.info? 3).bind (·.zero)).isSome=true:=by kernel_rfl
@[simp] theorem Tb.el3:elOK Tryz.prog 3:=elOK_of (by kernel_rfl)
@[simp] theorem Tb.tk4:tk Tryz.prog 4=1:=by kernel_rfl
@[simp] theorem Tb.sz4:Program.cellsOf Tryz.prog 4=1:=by kernel_rfl
@[simp] theorem Tb.sl4:slT Tryz.prog 4=none:=by kernel_rfl
@[simp] theorem Tb.bo4:isBool Tryz.prog 4=true:=by kernel_rfl
@[simp] theorem Tb.zr4:zrT Tryz.prog 4=[.bool false]:=by kernel_rfl
@[simp] theorem Tb.za4:(Tryz.prog.info? 4).any (·.zero.isSome)=true:=by kernel_rfl
@[simp] theorem Tb.zb4:((Tryz.prog.info? 4).bind (·.zero)).isSome=true:=by kernel_rfl
@[simp] theorem Tb.el4:elOK Tryz.prog 4:=elOK_of (by kernel_rfl)
@[simp] theorem Tb.tk5:tk Tryz.prog 5=1:=by kernel_rfl
@[simp] theorem Tb.sz5:Program.cellsOf Tryz.prog 5=1:=by kernel_rfl
@[simp] theorem Tb.sl5:slT Tryz.prog 5=none:=by kernel_rfl
@[simp] theorem Tb.st5:isStr Tryz.prog 5=false:=by kernel_rfl
@[simp] theorem Tb.in5:intT Tryz.prog 5=some .u8:=by kernel_rfl
@[simp] theorem Tb.tk9:tk Tryz.prog 9=1:=by kernel_rfl
@[simp] theorem Tb.sz9:Program.cellsOf Tryz.prog 9=1:=by kernel_rfl
@[simp] theorem Tb.sl9:slT Tryz.prog 9=none:=by kernel_rfl
@[simp] theorem Tb.st9:isStr Tryz.prog 9=true:=by kernel_rfl
@[simp] theorem Tb.bo9:isBool Tryz.prog 9=false:=by kernel_rfl
@[simp] theorem Tb.in9:intT Tryz.prog 9=none:=by kernel_rfl
@[simp] theorem Tb.zr9:zrT Tryz.prog 9=[.string ⟨#[]⟩]:=by kernel_rfl
@[simp] theorem Tb.zb9:((Tryz.prog.info? 9).bind (·.zero)).isSome=true:=by kernel_rfl
@[simp] theorem Tb.el9:elOK Tryz.prog 9:=elOK_of (by kernel_rfl)
@[simp] theorem Tb.sl21:slT Tryz.prog 21=none:=by kernel_rfl
@[simp] theorem Tb.in21:intT Tryz.prog 21=some .i32:=by kernel_rfl
@[simp] theorem Tb.tk22:tk Tryz.prog 22=1:=by kernel_rfl
@[simp] theorem Tb.sz22:Program.cellsOf Tryz.prog 22=1:=by kernel_rfl
@[simp] theorem Tb.sl22:slT Tryz.prog 22=some 9:=by kernel_rfl
@[simp] theorem Tb.tk23:tk Tryz.prog 23=1:=by kernel_rfl
@[simp] theorem Tb.sz23:Program.cellsOf Tryz.prog 23=1:=by kernel_rfl
@[simp] theorem Tb.sl23:slT Tryz.prog 23=some 63:=by kernel_rfl
@[simp] theorem Tb.tk24:tk Tryz.prog 24=1:=by kernel_rfl
@[simp] theorem Tb.sz24:Program.cellsOf Tryz.prog 24=1:=by kernel_rfl
@[simp] theorem Tb.sl24:slT Tryz.prog 24=some 3:=by kernel_rfl
@[simp] theorem Tb.zr24:zrT Tryz.prog 24=[.slice none 0 0]:=by kernel_rfl
@[simp] theorem Tb.za24:(Tryz.prog.info? 24).any (·.zero.isSome)=true:=by kernel_rfl
@[simp] theorem Tb.zb24:((Tryz.prog.info? 24).bind (·.zero)).isSome=true:=by kernel_rfl
@[simp] theorem Tb.tk26:tk Tryz.prog 26=2:=by kernel_rfl
@[simp] theorem Tb.sz26:Program.cellsOf Tryz.prog 26=5:=by kernel_rfl
@[simp] theorem Tb.ff26_0:foff Tryz.prog 26 0=some (0,3):=by kernel_rfl
@[simp] theorem Tb.ff26_1:foff Tryz.prog 26 1=some (1,22):=by kernel_rfl
@[simp] theorem Tb.ff26_2:foff Tryz.prog 26 2=some (2,23):=by kernel_rfl
@[simp] theorem Tb.ff26_3:foff Tryz.prog 26 3=some (3,24):=by kernel_rfl
@[simp] theorem Tb.ff26_4:foff Tryz.prog 26 4=some (4,24):=by kernel_rfl
@[simp] theorem Tb.zr26:zrT Tryz.prog 26=[.int .i64 0,.slice none 0 0,.slice none 0 0,.slice none 0 0,.slice none 0 0]:=by kernel_rfl
@[simp] theorem Tb.za26:(Tryz.prog.info? 26).any (·.zero.isSome)=true:=by kernel_rfl
@[simp] theorem Tb.bl26:bldT Tryz.prog 26=some ([.int .i64 0,.slice none 0 0,.slice none 0 0,.slice none 0 0,.slice none 0 0],[(0,1),(1,1),(2,1),(3,1),(4,1)]):=by kernel_rfl
@[simp] theorem Tb.tk27:tk Tryz.prog 27=1:=by kernel_rfl
@[simp] theorem Tb.sz27:Program.cellsOf Tryz.prog 27=1:=by kernel_rfl
@[simp] theorem Tb.sl27:slT Tryz.prog 27=some 4:=by kernel_rfl
@[simp] theorem Tb.tk29:tk Tryz.prog 29=2:=by kernel_rfl
@[simp] theorem Tb.sz29:Program.cellsOf Tryz.prog 29=5:=by kernel_rfl
@[simp] theorem Tb.ff29_0:foff Tryz.prog 29 0=some (0,24):=by kernel_rfl
@[simp] theorem Tb.ff29_1:foff Tryz.prog 29 1=some (1,27):=by kernel_rfl
@[simp] theorem Tb.ff29_2:foff Tryz.prog 29 2=some (2,27):=by kernel_rfl
@[simp] theorem Tb.ff29_3:foff Tryz.prog 29 3=some (3,27):=by kernel_rfl
@[simp] theorem Tb.ff29_4:foff Tryz.prog 29 4=some (4,24):=by kernel_rfl
@[simp] theorem Tb.zr29:zrT Tryz.prog 29=[.slice none 0 0,.slice none 0 0,.slice none 0 0,.slice none 0 0,.slice none 0 0]:=by kernel_rfl
@[simp] theorem Tb.za29:(Tryz.prog.info? 29).any (·.zero.isSome)=true:=by kernel_rfl
@[simp] theorem Tb.bl29:bldT Tryz.prog 29=some ([.slice none 0 0,.slice none 0 0,.slice none 0 0,.slice none 0 0,.slice none 0 0],[(0,1),(1,1),(2,1),(3,1),(4,1)]):=by kernel_rfl
@[simp] theorem Tb.tk32:tk Tryz.prog 32=1:=by kernel_rfl
@[simp] theorem Tb.sz32:Program.cellsOf Tryz.prog 32=1:=by kernel_rfl
@[simp] theorem Tb.sl32:slT Tryz.prog 32=some 67:=by kernel_rfl
@[simp] theorem Tb.tk33:tk Tryz.prog 33=1:=by kernel_rfl
@[simp] theorem Tb.sz33:Program.cellsOf Tryz.prog 33=1:=by kernel_rfl
@[simp] theorem Tb.sl33:slT Tryz.prog 33=some 172:=by kernel_rfl
@[simp] theorem Tb.tk35:tk Tryz.prog 35=2:=by kernel_rfl
@[simp] theorem Tb.sz35:Program.cellsOf Tryz.prog 35=2:=by kernel_rfl
@[simp] theorem Tb.ff35_0:foff Tryz.prog 35 0=some (0,32):=by kernel_rfl
@[simp] theorem Tb.ff35_1:foff Tryz.prog 35 1=some (1,33):=by kernel_rfl
@[simp] theorem Tb.zr35:zrT Tryz.prog 35=[.slice none 0 0,.slice none 0 0]:=by kernel_rfl
@[simp] theorem Tb.za35:(Tryz.prog.info? 35).any (·.zero.isSome)=true:=by kernel_rfl
@[simp] theorem Tb.bl35:bldT Tryz.prog 35=some ([.slice none 0 0,.slice none 0 0],[(0,1),(1,1)]):=by kernel_rfl
@[simp] theorem Tb.tk36:tk Tryz.prog 36=1:=by kernel_rfl
@[simp] theorem Tb.sz36:Program.cellsOf Tryz.prog 36=1:=by kernel_rfl
@[simp] theorem Tb.sl36:slT Tryz.prog 36=none:=by kernel_rfl
@[simp] theorem Tb.zr36:zrT Tryz.prog 36=[.int .i64 0]:=by kernel_rfl
@[simp] theorem Tb.za36:(Tryz.prog.info? 36).any (·.zero.isSome)=true:=by kernel_rfl
@[simp] theorem Tb.sl43:slT Tryz.prog 43=some 54:=by kernel_rfl
@[simp] theorem Tb.tk50:tk Tryz.prog 50=2:=by kernel_rfl
@[simp] theorem Tb.sz50:Program.cellsOf Tryz.prog 50=2:=by kernel_rfl
@[simp] theorem Tb.ff50_0:foff Tryz.prog 50 0=some (0,3):=by kernel_rfl
@[simp] theorem Tb.ff50_1:foff Tryz.prog 50 1=some (1,9):=by kernel_rfl
@[simp] theorem Tb.cm50:cmpT Tryz.prog 50=some [.int .i64,.string]:=by kernel_rfl
@[simp] theorem Tb.sl50:slT Tryz.prog 50=none:=by kernel_rfl
@[simp] theorem Tb.zr50:zrT Tryz.prog 50=[.int .i64 0,.string ⟨#[]⟩]:=by kernel_rfl
@[simp] theorem Tb.za50:(Tryz.prog.info? 50).any (·.zero.isSome)=true:=by kernel_rfl
@[simp] theorem Tb.zb50:((Tryz.prog.info? 50).bind (·.zero)).isSome=true:=by kernel_rfl
@[simp] theorem Tb.el50:elOK Tryz.prog 50:=elOK_of (by kernel_rfl)
@[simp] theorem Tb.bl50:bldT Tryz.prog 50=some ([.int .i64 0,.string ⟨#[]⟩],[(0,1),(1,1)]):=by kernel_rfl
@[simp] theorem Tb.tk54:tk Tryz.prog 54=1:=by kernel_rfl
@[simp] theorem Tb.sz54:Program.cellsOf Tryz.prog 54=1:=by kernel_rfl
@[simp] theorem Tb.sl54:slT Tryz.prog 54=some 50:=by kernel_rfl
@[simp] theorem Tb.zb54:((Tryz.prog.info? 54).bind (·.zero)).isSome=true:=by kernel_rfl
@[simp] theorem Tb.el54:elOK Tryz.prog 54:=elOK_of (by kernel_rfl)
@[simp] theorem Tb.tk59:tk Tryz.prog 59=1:=by kernel_rfl
@[simp] theorem Tb.sz59:Program.cellsOf Tryz.prog 59=1:=by kernel_rfl
@[simp] theorem Tb.sl59:slT Tryz.prog 59=some 61:=by kernel_rfl
@[simp] theorem Tb.tk61:tk Tryz.prog 61=2:=by kernel_rfl
@[simp] theorem Tb.sz61:Program.cellsOf Tryz.prog 61=3:=by kernel_rfl
@[simp] theorem Tb.ff61_0:foff Tryz.prog 61 0=some (0,3):=by kernel_rfl
@[simp] theorem Tb.ff61_1:foff Tryz.prog 61 1=some (1,3):=by kernel_rfl
@[simp] theorem Tb.ff61_2:foff Tryz.prog 61 2=some (2,59):=by kernel_rfl
@[simp] theorem Tb.zr61:zrT Tryz.prog 61=[.int .i64 0,.int .i64 0,.slice none 0 0]:=by kernel_rfl
@[simp] theorem Tb.za61:(Tryz.prog.info? 61).any (·.zero.isSome)=true:=by kernel_rfl
@[simp] theorem Tb.zb61:((Tryz.prog.info? 61).bind (·.zero)).isSome=true:=by kernel_rfl
@[simp] theorem Tb.bl61:bldT Tryz.prog 61=some ([.int .i64 0,.int .i64 0,.slice none 0 0],[(0,1),(1,1),(2,1)]):=by kernel_rfl
@[simp] theorem Tb.tk63:tk Tryz.prog 63=2:=by kernel_rfl
@[simp] theorem Tb.sz63:Program.cellsOf Tryz.prog 63=10:=by kernel_rfl
@[simp] theorem Tb.ff63_0:foff Tryz.prog 63 0=some (0,9):=by kernel_rfl
@[simp] theorem Tb.ff63_1:foff Tryz.prog 63 1=some (1,3):=by kernel_rfl
@[simp] theorem Tb.ff63_2:foff Tryz.prog 63 2=some (2,61):=by kernel_rfl
@[simp] theorem Tb.ff63_3:foff Tryz.prog 63 3=some (5,61):=by kernel_rfl
@[simp] theorem Tb.ff63_4:foff Tryz.prog 63 4=some (8,3):=by kernel_rfl
@[simp] theorem Tb.ff63_5:foff Tryz.prog 63 5=some (9,4):=by kernel_rfl
@[simp] theorem Tb.zr63:zrT Tryz.prog 63=[.string ⟨#[]⟩,.int .i64 0,.int .i64 0,.int .i64 0,.slice none 0 0,.int .i64 0,.int .i64 0,.slice none 0 0,.int .i64 0,.bool false]:=by kernel_rfl
@[simp] theorem Tb.za63:(Tryz.prog.info? 63).any (·.zero.isSome)=true:=by kernel_rfl
@[simp] theorem Tb.zb63:((Tryz.prog.info? 63).bind (·.zero)).isSome=true:=by kernel_rfl
@[simp] theorem Tb.bl63:bldT Tryz.prog 63=some ([.string ⟨#[]⟩,.int .i64 0,.int .i64 0,.int .i64 0,.slice none 0 0,.int .i64 0,.int .i64 0,.slice none 0 0,.int .i64 0,.bool false],[(0,1),(1,1),(2,3),(5,3),(8,1),(9,1)]):=by kernel_rfl
@[simp] theorem Tb.tk67:tk Tryz.prog 67=2:=by kernel_rfl
@[simp] theorem Tb.sz67:Program.cellsOf Tryz.prog 67=3:=by kernel_rfl
@[simp] theorem Tb.ff67_0:foff Tryz.prog 67 0=some (0,3):=by kernel_rfl
@[simp] theorem Tb.ff67_1:foff Tryz.prog 67 1=some (1,9):=by kernel_rfl
@[simp] theorem Tb.ff67_2:foff Tryz.prog 67 2=some (2,3):=by kernel_rfl
@[simp] theorem Tb.zr67:zrT Tryz.prog 67=[.int .i64 0,.string ⟨#[]⟩,.int .i64 0]:=by kernel_rfl
@[simp] theorem Tb.za67:(Tryz.prog.info? 67).any (·.zero.isSome)=true:=by kernel_rfl
@[simp] theorem Tb.zb67:((Tryz.prog.info? 67).bind (·.zero)).isSome=true:=by kernel_rfl
@[simp] theorem Tb.el67:elOK Tryz.prog 67:=elOK_of (by kernel_rfl)
@[simp] theorem Tb.bl67:bldT Tryz.prog 67=some ([.int .i64 0,.string ⟨#[]⟩,.int .i64 0],[(0,1),(1,1),(2,1)]):=by kernel_rfl
@[simp] theorem Tb.tk99:tk Tryz.prog 99=1:=by kernel_rfl
@[simp] theorem Tb.tk103:tk Tryz.prog 103=1:=by kernel_rfl
@[simp] theorem Tb.sz103:Program.cellsOf Tryz.prog 103=1:=by kernel_rfl
@[simp] theorem Tb.sl103:slT Tryz.prog 103=some 112:=by kernel_rfl
@[simp] theorem Tb.tk104:tk Tryz.prog 104=1:=by kernel_rfl
@[simp] theorem Tb.sz104:Program.cellsOf Tryz.prog 104=1:=by kernel_rfl
@[simp] theorem Tb.sl104:slT Tryz.prog 104=some 180:=by kernel_rfl
@[simp] theorem Tb.tk105:tk Tryz.prog 105=1:=by kernel_rfl
@[simp] theorem Tb.sz105:Program.cellsOf Tryz.prog 105=1:=by kernel_rfl
@[simp] theorem Tb.mp105:mpT Tryz.prog 105=none:=by kernel_rfl
@[simp] theorem Tb.ms105:msT Tryz.prog 105=some (.int .i64,[.str [],.str []]):=by kernel_rfl
@[simp] theorem Tb.tk106:tk Tryz.prog 106=1:=by kernel_rfl
@[simp] theorem Tb.sz106:Program.cellsOf Tryz.prog 106=1:=by kernel_rfl
@[simp] theorem Tb.tk107:tk Tryz.prog 107=2:=by kernel_rfl
@[simp] theorem Tb.sz107:Program.cellsOf Tryz.prog 107=5:=by kernel_rfl
@[simp] theorem Tb.ar107:arT Tryz.prog 107=some (5,106):=by kernel_rfl
@[simp] theorem Tb.bl107:bldT Tryz.prog 107=some ([.nilFunc,.nilFunc,.nilFunc,.nilFunc,.nilFunc],[(0,1),(1,1),(2,1),(3,1),(4,1)]):=by kernel_rfl
@[simp] theorem Tb.ff109_0:foff Tryz.prog 109 0=some (0,26):=by kernel_rfl
@[simp] theorem Tb.ff109_1:foff Tryz.prog 109 1=some (5,103):=by kernel_rfl
@[simp] theorem Tb.ff109_2:foff Tryz.prog 109 2=some (6,104):=by kernel_rfl
@[simp] theorem Tb.ff109_3:foff Tryz.prog 109 3=some (7,3):=by kernel_rfl
@[simp] theorem Tb.ff109_4:foff Tryz.prog 109 4=some (8,3):=by kernel_rfl
@[simp] theorem Tb.ff109_5:foff Tryz.prog 109 5=some (9,105):=by kernel_rfl
@[simp] theorem Tb.ff109_6:foff Tryz.prog 109 6=some (10,107):=by kernel_rfl
@[simp] theorem Tb.bl109:bldT Tryz.prog 109=some ([.int .i64 0,.slice none 0 0,.slice none 0 0,.slice none 0 0,.slice none 0 0,.slice none 0 0,.slice none 0 0,.int .i64 0,.int .i64 0,.map none,.nilFunc,.nilFunc,.nilFunc,.nilFunc,.nilFunc],[(0,5),(5,1),(6,1),(7,1),(8,1),(9,1),(10,5)]):=by kernel_rfl
@[simp] theorem Tb.tk110:tk Tryz.prog 110=1:=by kernel_rfl
@[simp] theorem Tb.sz110:Program.cellsOf Tryz.prog 110=1:=by kernel_rfl
@[simp] theorem Tb.sl110:slT Tryz.prog 110=none:=by kernel_rfl
@[simp] theorem Tb.tk112:tk Tryz.prog 112=2:=by kernel_rfl
@[simp] theorem Tb.sz112:Program.cellsOf Tryz.prog 112=7:=by kernel_rfl
@[simp] theorem Tb.ff112_0:foff Tryz.prog 112 0=some (0,67):=by kernel_rfl
@[simp] theorem Tb.ff112_1:foff Tryz.prog 112 1=some (3,3):=by kernel_rfl
@[simp] theorem Tb.ff112_2:foff Tryz.prog 112 2=some (4,110):=by kernel_rfl
@[simp] theorem Tb.ff112_3:foff Tryz.prog 112 3=some (5,3):=by kernel_rfl
@[simp] theorem Tb.ff112_4:foff Tryz.prog 112 4=some (6,3):=by kernel_rfl
@[simp] theorem Tb.zr112:zrT Tryz.prog 112=[.int .i64 0,.string ⟨#[]⟩,.int .i64 0,.int .i64 0,.pointer none,.int .i64 0,.int .i64 0]:=by kernel_rfl
@[simp] theorem Tb.za112:(Tryz.prog.info? 112).any (·.zero.isSome)=true:=by kernel_rfl
@[simp] theorem Tb.zb112:((Tryz.prog.info? 112).bind (·.zero)).isSome=true:=by kernel_rfl
@[simp] theorem Tb.el112:elOK Tryz.prog 112:=elOK_of (by kernel_rfl)
@[simp] theorem Tb.bl112:bldT Tryz.prog 112=some ([.int .i64 0,.string ⟨#[]⟩,.int .i64 0,.int .i64 0,.pointer none,.int .i64 0,.int .i64 0],[(0,3),(3,1),(4,1),(5,1),(6,1)]):=by kernel_rfl
@[simp] theorem Tb.tk117:tk Tryz.prog 117=1:=by kernel_rfl
@[simp] theorem Tb.tk123:tk Tryz.prog 123=2:=by kernel_rfl
@[simp] theorem Tb.sz123:Program.cellsOf Tryz.prog 123=2:=by kernel_rfl
@[simp] theorem Tb.ff123_0:foff Tryz.prog 123 0=some (0,9):=by kernel_rfl
@[simp] theorem Tb.ff123_1:foff Tryz.prog 123 1=some (1,9):=by kernel_rfl
@[simp] theorem Tb.cm123:cmpT Tryz.prog 123=some [.string,.string]:=by kernel_rfl
@[simp] theorem Tb.sl123:slT Tryz.prog 123=none:=by kernel_rfl
@[simp] theorem Tb.zr123:zrT Tryz.prog 123=[.string ⟨#[]⟩,.string ⟨#[]⟩]:=by kernel_rfl
@[simp] theorem Tb.za123:(Tryz.prog.info? 123).any (·.zero.isSome)=true:=by kernel_rfl
@[simp] theorem Tb.zb123:((Tryz.prog.info? 123).bind (·.zero)).isSome=true:=by kernel_rfl
@[simp] theorem Tb.el123:elOK Tryz.prog 123:=elOK_of (by kernel_rfl)
@[simp] theorem Tb.bl123:bldT Tryz.prog 123=some ([.string ⟨#[]⟩,.string ⟨#[]⟩],[(0,1),(1,1)]):=by kernel_rfl
@[simp] theorem Tb.sl129:slT Tryz.prog 129=some 132:=by kernel_rfl
@[simp] theorem Tb.tk132:tk Tryz.prog 132=2:=by kernel_rfl
@[simp] theorem Tb.sz132:Program.cellsOf Tryz.prog 132=3:=by kernel_rfl
@[simp] theorem Tb.ff132_0:foff Tryz.prog 132 0=some (0,3):=by kernel_rfl
@[simp] theorem Tb.ff132_1:foff Tryz.prog 132 1=some (1,3):=by kernel_rfl
@[simp] theorem Tb.ff132_2:foff Tryz.prog 132 2=some (2,4):=by kernel_rfl
@[simp] theorem Tb.cm132:cmpT Tryz.prog 132=some [.int .i64,.int .i64,.bool]:=by kernel_rfl
@[simp] theorem Tb.sl132:slT Tryz.prog 132=none:=by kernel_rfl
@[simp] theorem Tb.zr132:zrT Tryz.prog 132=[.int .i64 0,.int .i64 0,.bool false]:=by kernel_rfl
@[simp] theorem Tb.za132:(Tryz.prog.info? 132).any (·.zero.isSome)=true:=by kernel_rfl
@[simp] theorem Tb.zb132:((Tryz.prog.info? 132).bind (·.zero)).isSome=true:=by kernel_rfl
@[simp] theorem Tb.el132:elOK Tryz.prog 132:=elOK_of (by kernel_rfl)
@[simp] theorem Tb.bl132:bldT Tryz.prog 132=some ([.int .i64 0,.int .i64 0,.bool false],[(0,1),(1,1),(2,1)]):=by kernel_rfl
@[simp] theorem Tb.tk143:tk Tryz.prog 143=1:=by kernel_rfl
@[simp] theorem Tb.sz143:Program.cellsOf Tryz.prog 143=1:=by kernel_rfl
@[simp] theorem Tb.mp143:mpT Tryz.prog 143=none:=by kernel_rfl
@[simp] theorem Tb.ms143:msT Tryz.prog 143=none:=by kernel_rfl
@[simp] theorem Tb.pk143:pkT Tryz.prog 143=some (50,false,[.int .i64 0]):=by kernel_rfl
@[simp] theorem Tb.tk163:tk Tryz.prog 163=1:=by kernel_rfl
@[simp] theorem Tb.sz163:Program.cellsOf Tryz.prog 163=1:=by kernel_rfl
@[simp] theorem Tb.zr163:zrT Tryz.prog 163=[.nilFunc]:=by kernel_rfl
@[simp] theorem Tb.za163:(Tryz.prog.info? 163).any (·.zero.isSome)=true:=by kernel_rfl
@[simp] theorem Tb.tk172:tk Tryz.prog 172=2:=by kernel_rfl
@[simp] theorem Tb.sz172:Program.cellsOf Tryz.prog 172=4:=by kernel_rfl
@[simp] theorem Tb.ff172_0:foff Tryz.prog 172 0=some (0,50):=by kernel_rfl
@[simp] theorem Tb.ff172_1:foff Tryz.prog 172 1=some (2,50):=by kernel_rfl
@[simp] theorem Tb.zr172:zrT Tryz.prog 172=[.int .i64 0,.string ⟨#[]⟩,.int .i64 0,.string ⟨#[]⟩]:=by kernel_rfl
@[simp] theorem Tb.za172:(Tryz.prog.info? 172).any (·.zero.isSome)=true:=by kernel_rfl
@[simp] theorem Tb.zb172:((Tryz.prog.info? 172).bind (·.zero)).isSome=true:=by kernel_rfl
@[simp] theorem Tb.el172:elOK Tryz.prog 172:=elOK_of (by kernel_rfl)
@[simp] theorem Tb.bl172:bldT Tryz.prog 172=some ([.int .i64 0,.string ⟨#[]⟩,.int .i64 0,.string ⟨#[]⟩],[(0,2),(2,2)]):=by kernel_rfl
@[simp] theorem Tb.tk180:tk Tryz.prog 180=2:=by kernel_rfl
@[simp] theorem Tb.sz180:Program.cellsOf Tryz.prog 180=4:=by kernel_rfl
@[simp] theorem Tb.ar180:arT Tryz.prog 180=some (2,123):=by kernel_rfl
@[simp] theorem Tb.zr180:zrT Tryz.prog 180=[.string ⟨#[]⟩,.string ⟨#[]⟩,.string ⟨#[]⟩,.string ⟨#[]⟩]:=by kernel_rfl
@[simp] theorem Tb.za180:(Tryz.prog.info? 180).any (·.zero.isSome)=true:=by kernel_rfl
@[simp] theorem Tb.zb180:((Tryz.prog.info? 180).bind (·.zero)).isSome=true:=by kernel_rfl
@[simp] theorem Tb.el180:elOK Tryz.prog 180:=elOK_of (by kernel_rfl)
@[simp] theorem Tb.bl180:bldT Tryz.prog 180=some ([.string ⟨#[]⟩,.string ⟨#[]⟩,.string ⟨#[]⟩,.string ⟨#[]⟩],[(0,2),(2,2)]):=by kernel_rfl
@[simp] theorem Tb.tk185:tk Tryz.prog 185=1:=by kernel_rfl
@[simp] theorem Tb.sz185:Program.cellsOf Tryz.prog 185=1:=by kernel_rfl
@[simp] theorem Tb.mp185:mpT Tryz.prog 185=none:=by kernel_rfl
@[simp] theorem Tb.ms185:msT Tryz.prog 185=none:=by kernel_rfl
@[simp] theorem Tb.pk185:pkT Tryz.prog 185=some (50,true,[.int .i64 0,.str []]):=by kernel_rfl
@[simp] theorem Tb.zr185:zrT Tryz.prog 185=[.map none]:=by kernel_rfl
@[simp] theorem Tb.za185:(Tryz.prog.info? 185).any (·.zero.isSome)=true:=by kernel_rfl
@[simp] theorem Tb.ff190_0:foff Tryz.prog 190 0=some (0,35):=by kernel_rfl
@[simp] theorem Tb.ff190_1:foff Tryz.prog 190 1=some (2,3):=by kernel_rfl
@[simp] theorem Tb.ff190_2:foff Tryz.prog 190 2=some (3,143):=by kernel_rfl
@[simp] theorem Tb.bl190:bldT Tryz.prog 190=some ([.slice none 0 0,.slice none 0 0,.int .i64 0,.map none],[(0,2),(2,1),(3,1)]):=by kernel_rfl
@[simp] theorem Tb.sl191:slT Tryz.prog 191=some 195:=by kernel_rfl
@[simp] theorem Tb.tk195:tk Tryz.prog 195=2:=by kernel_rfl
@[simp] theorem Tb.sz195:Program.cellsOf Tryz.prog 195=4:=by kernel_rfl
@[simp] theorem Tb.ff195_1:foff Tryz.prog 195 1=some (1,3):=by kernel_rfl
@[simp] theorem Tb.ff195_2:foff Tryz.prog 195 2=some (2,24):=by kernel_rfl
@[simp] theorem Tb.ff195_3:foff Tryz.prog 195 3=some (3,4):=by kernel_rfl
@[simp] theorem Tb.zr195:zrT Tryz.prog 195=[.int .i64 0,.int .i64 0,.slice none 0 0,.bool false]:=by kernel_rfl
@[simp] theorem Tb.za195:(Tryz.prog.info? 195).any (·.zero.isSome)=true:=by kernel_rfl
@[simp] theorem Tb.zb195:((Tryz.prog.info? 195).bind (·.zero)).isSome=true:=by kernel_rfl
@[simp] theorem Tb.el195:elOK Tryz.prog 195:=elOK_of (by kernel_rfl)
@[simp] theorem Tb.bl195:bldT Tryz.prog 195=some ([.int .i64 0,.int .i64 0,.slice none 0 0,.bool false],[(0,1),(1,1),(2,1),(3,1)]):=by kernel_rfl
@[simp] theorem Tb.sl220:slT Tryz.prog 220=none:=by kernel_rfl
@[simp] theorem Tb.in220:intT Tryz.prog 220=some .u64:=by kernel_rfl
@[simp] theorem Tb.tk229:tk Tryz.prog 229=1:=by kernel_rfl
@[simp] theorem Tb.sz229:Program.cellsOf Tryz.prog 229=1:=by kernel_rfl
@[simp] theorem Tb.zr229:zrT Tryz.prog 229=[.nilFunc]:=by kernel_rfl
@[simp] theorem Tb.za229:(Tryz.prog.info? 229).any (·.zero.isSome)=true:=by kernel_rfl
@[simp] theorem Tb.tk231:tk Tryz.prog 231=2:=by kernel_rfl
@[simp] theorem Tb.sz231:Program.cellsOf Tryz.prog 231=5:=by kernel_rfl
@[simp] theorem Tb.ar231:arT Tryz.prog 231=some (5,22):=by kernel_rfl
@[simp] theorem Tb.bl231:bldT Tryz.prog 231=some ([.slice none 0 0,.slice none 0 0,.slice none 0 0,.slice none 0 0,.slice none 0 0],[(0,1),(1,1),(2,1),(3,1),(4,1)]):=by kernel_rfl
@[simp] theorem Tb.tk232:tk Tryz.prog 232=1:=by kernel_rfl
@[simp] theorem Tb.sz232:Program.cellsOf Tryz.prog 232=1:=by kernel_rfl
@[simp] theorem Tb.tk233:tk Tryz.prog 233=1:=by kernel_rfl
@[simp] theorem Tb.sz233:Program.cellsOf Tryz.prog 233=1:=by kernel_rfl
@[simp] theorem Tb.tk235:tk Tryz.prog 235=2:=by kernel_rfl
@[simp] theorem Tb.sz235:Program.cellsOf Tryz.prog 235=12:=by kernel_rfl
@[simp] theorem Tb.ff235_2:foff Tryz.prog 235 2=some (2,231):=by kernel_rfl
@[simp] theorem Tb.ff235_3:foff Tryz.prog 235 3=some (7,9):=by kernel_rfl
@[simp] theorem Tb.ff235_4:foff Tryz.prog 235 4=some (8,9):=by kernel_rfl
@[simp] theorem Tb.ff235_5:foff Tryz.prog 235 5=some (9,3):=by kernel_rfl
@[simp] theorem Tb.ff235_6:foff Tryz.prog 235 6=some (10,232):=by kernel_rfl
@[simp] theorem Tb.ff235_7:foff Tryz.prog 235 7=some (11,233):=by kernel_rfl
@[simp] theorem Tb.zr235:zrT Tryz.prog 235=[.string ⟨#[]⟩,.string ⟨#[]⟩,.slice none 0 0,.slice none 0 0,.slice none 0 0,.slice none 0 0,.slice none 0 0,.string ⟨#[]⟩,.string ⟨#[]⟩,.int .i64 0,.nilFunc,.nilFunc]:=by kernel_rfl
@[simp] theorem Tb.za235:(Tryz.prog.info? 235).any (·.zero.isSome)=true:=by kernel_rfl
@[simp] theorem Tb.bl235:bldT Tryz.prog 235=some ([.string ⟨#[]⟩,.string ⟨#[]⟩,.slice none 0 0,.slice none 0 0,.slice none 0 0,.slice none 0 0,.slice none 0 0,.string ⟨#[]⟩,.string ⟨#[]⟩,.int .i64 0,.nilFunc,.nilFunc],[(0,1),(1,1),(2,5),(7,1),(8,1),(9,1),(10,1),(11,1)]):=by kernel_rfl
@[simp] theorem Tb.tk242:tk Tryz.prog 242=1:=by kernel_rfl
@[simp] theorem Tb.sz242:Program.cellsOf Tryz.prog 242=1:=by kernel_rfl
@[simp] theorem Tb.sl242:slT Tryz.prog 242=none:=by kernel_rfl
@[simp] theorem Tb.mp242:mpT Tryz.prog 242=some (.string,.int .i64 0):=by kernel_rfl
@[simp] theorem Tb.sl248:slT Tryz.prog 248=some 123:=by kernel_rfl
@[simp] theorem Tb.ar251:arT Tryz.prog 251=some (2,9):=by kernel_rfl
@[simp] theorem Tb.bl251:bldT Tryz.prog 251=some ([.string ⟨#[]⟩,.string ⟨#[]⟩],[(0,1),(1,1)]):=by kernel_rfl
@[simp] theorem Tb.sl256:slT Tryz.prog 256=some 260:=by kernel_rfl
@[simp] theorem Tb.tk260:tk Tryz.prog 260=2:=by kernel_rfl
@[simp] theorem Tb.sz260:Program.cellsOf Tryz.prog 260=3:=by kernel_rfl
@[simp] theorem Tb.ff260_0:foff Tryz.prog 260 0=some (0,9):=by kernel_rfl
@[simp] theorem Tb.ff260_1:foff Tryz.prog 260 1=some (1,22):=by kernel_rfl
@[simp] theorem Tb.ff260_2:foff Tryz.prog 260 2=some (2,4):=by kernel_rfl
@[simp] theorem Tb.zr260:zrT Tryz.prog 260=[.string ⟨#[]⟩,.slice none 0 0,.bool false]:=by kernel_rfl
@[simp] theorem Tb.za260:(Tryz.prog.info? 260).any (·.zero.isSome)=true:=by kernel_rfl
@[simp] theorem Tb.zb260:((Tryz.prog.info? 260).bind (·.zero)).isSome=true:=by kernel_rfl
@[simp] theorem Tb.bl260:bldT Tryz.prog 260=some ([.string ⟨#[]⟩,.slice none 0 0,.bool false],[(0,1),(1,1),(2,1)]):=by kernel_rfl
@[simp] theorem Tb.sl267:slT Tryz.prog 267=some 24:=by kernel_rfl
@[simp] theorem Tb.tk311:tk Tryz.prog 311=2:=by kernel_rfl
@[simp] theorem Tb.sz311:Program.cellsOf Tryz.prog 311=168:=by kernel_rfl
@[simp] theorem Tb.ar311:arT Tryz.prog 311=some (14,235):=by kernel_rfl
@[simp] theorem Tb.zr311:zrT Tryz.prog 311=[.string ⟨#[]⟩,.string ⟨#[]⟩,.slice none 0 0,.slice none 0 0,.slice none 0 0,.slice none 0 0,.slice none 0 0,.string ⟨#[]⟩,.string ⟨#[]⟩,.int .i64 0,.nilFunc,.nilFunc,.string ⟨#[]⟩,.string ⟨#[]⟩,.slice none 0 0,.slice none 0 0,.slice none 0 0,.slice none 0 0,.slice none 0 0,.string ⟨#[]⟩,.string ⟨#[]⟩,.int .i64 0,.nilFunc,.nilFunc,.string ⟨#[]⟩,.string ⟨#[]⟩,.slice none 0 0,.slice none 0 0,.slice none 0 0,.slice none 0 0,.slice none 0 0,.string ⟨#[]⟩,.string ⟨#[]⟩,.int .i64 0,.nilFunc,.nilFunc,.string ⟨#[]⟩,.string ⟨#[]⟩,.slice none 0 0,.slice none 0 0,.slice none 0 0,.slice none 0 0,.slice none 0 0,.string ⟨#[]⟩,.string ⟨#[]⟩,.int .i64 0,.nilFunc,.nilFunc,.string ⟨#[]⟩,.string ⟨#[]⟩,.slice none 0 0,.slice none 0 0,.slice none 0 0,.slice none 0 0,.slice none 0 0,.string ⟨#[]⟩,.string ⟨#[]⟩,.int .i64 0,.nilFunc,.nilFunc,.string ⟨#[]⟩,.string ⟨#[]⟩,.slice none 0 0,.slice none 0 0,.slice none 0 0,.slice none 0 0,.slice none 0 0,.string ⟨#[]⟩,.string ⟨#[]⟩,.int .i64 0,.nilFunc,.nilFunc,.string ⟨#[]⟩,.string ⟨#[]⟩,.slice none 0 0,.slice none 0 0,.slice none 0 0,.slice none 0 0,.slice none 0 0,.string ⟨#[]⟩,.string ⟨#[]⟩,.int .i64 0,.nilFunc,.nilFunc,.string ⟨#[]⟩,.string ⟨#[]⟩,.slice none 0 0,.slice none 0 0,.slice none 0 0,.slice none 0 0,.slice none 0 0,.string ⟨#[]⟩,.string ⟨#[]⟩,.int .i64 0,.nilFunc,.nilFunc,.string ⟨#[]⟩,.string ⟨#[]⟩,.slice none 0 0,.slice none 0 0,.slice none 0 0,.slice none 0 0,.slice none 0 0,.string ⟨#[]⟩,.string ⟨#[]⟩,.int .i64 0,.nilFunc,.nilFunc,.string ⟨#[]⟩,.string ⟨#[]⟩,.slice none 0 0,.slice none 0 0,.slice none 0 0,.slice none 0 0,.slice none 0 0,.string ⟨#[]⟩,.string ⟨#[]⟩,.int .i64 0,.nilFunc,.nilFunc,.string ⟨#[]⟩,.string ⟨#[]⟩,.slice none 0 0,.slice none 0 0,.slice none 0 0,.slice none 0 0,.slice none 0 0,.string ⟨#[]⟩,.string ⟨#[]⟩,.int .i64 0,.nilFunc,.nilFunc,.string ⟨#[]⟩,.string ⟨#[]⟩,.slice none 0 0,.slice none 0 0,.slice none 0 0,.slice none 0 0,.slice none 0 0,.string ⟨#[]⟩,.string ⟨#[]⟩,.int .i64 0,.nilFunc,.nilFunc,.string ⟨#[]⟩,.string ⟨#[]⟩,.slice none 0 0,.slice none 0 0,.slice none 0 0,.slice none 0 0,.slice none 0 0,.string ⟨#[]⟩,.string ⟨#[]⟩,.int .i64 0,.nilFunc,.nilFunc,.string ⟨#[]⟩,.string ⟨#[]⟩,.slice none 0 0,.slice none 0 0,.slice none 0 0,.slice none 0 0,.slice none 0 0,.string ⟨#[]⟩,.string ⟨#[]⟩,.int .i64 0,.nilFunc,.nilFunc]:=by kernel_rfl
@[simp] theorem Tb.za311:(Tryz.prog.info? 311).any (·.zero.isSome)=true:=by kernel_rfl
@[simp] theorem Tb.bl311:bldT Tryz.prog 311=some ([.string ⟨#[]⟩,.string ⟨#[]⟩,.slice none 0 0,.slice none 0 0,.slice none 0 0,.slice none 0 0,.slice none 0 0,.string ⟨#[]⟩,.string ⟨#[]⟩,.int .i64 0,.nilFunc,.nilFunc,.string ⟨#[]⟩,.string ⟨#[]⟩,.slice none 0 0,.slice none 0 0,.slice none 0 0,.slice none 0 0,.slice none 0 0,.string ⟨#[]⟩,.string ⟨#[]⟩,.int .i64 0,.nilFunc,.nilFunc,.string ⟨#[]⟩,.string ⟨#[]⟩,.slice none 0 0,.slice none 0 0,.slice none 0 0,.slice none 0 0,.slice none 0 0,.string ⟨#[]⟩,.string ⟨#[]⟩,.int .i64 0,.nilFunc,.nilFunc,.string ⟨#[]⟩,.string ⟨#[]⟩,.slice none 0 0,.slice none 0 0,.slice none 0 0,.slice none 0 0,.slice none 0 0,.string ⟨#[]⟩,.string ⟨#[]⟩,.int .i64 0,.nilFunc,.nilFunc,.string ⟨#[]⟩,.string ⟨#[]⟩,.slice none 0 0,.slice none 0 0,.slice none 0 0,.slice none 0 0,.slice none 0 0,.string ⟨#[]⟩,.string ⟨#[]⟩,.int .i64 0,.nilFunc,.nilFunc,.string ⟨#[]⟩,.string ⟨#[]⟩,.slice none 0 0,.slice none 0 0,.slice none 0 0,.slice none 0 0,.slice none 0 0,.string ⟨#[]⟩,.string ⟨#[]⟩,.int .i64 0,.nilFunc,.nilFunc,.string ⟨#[]⟩,.string ⟨#[]⟩,.slice none 0 0,.slice none 0 0,.slice none 0 0,.slice none 0 0,.slice none 0 0,.string ⟨#[]⟩,.string ⟨#[]⟩,.int .i64 0,.nilFunc,.nilFunc,.string ⟨#[]⟩,.string ⟨#[]⟩,.slice none 0 0,.slice none 0 0,.slice none 0 0,.slice none 0 0,.slice none 0 0,.string ⟨#[]⟩,.string ⟨#[]⟩,.int .i64 0,.nilFunc,.nilFunc,.string ⟨#[]⟩,.string ⟨#[]⟩,.slice none 0 0,.slice none 0 0,.slice none 0 0,.slice none 0 0,.slice none 0 0,.string ⟨#[]⟩,.string ⟨#[]⟩,.int .i64 0,.nilFunc,.nilFunc,.string ⟨#[]⟩,.string ⟨#[]⟩,.slice none 0 0,.slice none 0 0,.slice none 0 0,.slice none 0 0,.slice none 0 0,.string ⟨#[]⟩,.string ⟨#[]⟩,.int .i64 0,.nilFunc,.nilFunc,.string ⟨#[]⟩,.string ⟨#[]⟩,.slice none 0 0,.slice none 0 0,.slice none 0 0,.slice none 0 0,.slice none 0 0,.string ⟨#[]⟩,.string ⟨#[]⟩,.int .i64 0,.nilFunc,.nilFunc,.string ⟨#[]⟩,.string ⟨#[]⟩,.slice none 0 0,.slice none 0 0,.slice none 0 0,.slice none 0 0,.slice none 0 0,.string ⟨#[]⟩,.string ⟨#[]⟩,.int .i64 0,.nilFunc,.nilFunc,.string ⟨#[]⟩,.string ⟨#[]⟩,.slice none 0 0,.slice none 0 0,.slice none 0 0,.slice none 0 0,.slice none 0 0,.string ⟨#[]⟩,.string ⟨#[]⟩,.int .i64 0,.nilFunc,.nilFunc,.string ⟨#[]⟩,.string ⟨#[]⟩,.slice none 0 0,.slice none 0 0,.slice none 0 0,.slice none 0 0,.slice none 0 0,.string ⟨#[]⟩,.string ⟨#[]⟩,.int .i64 0,.nilFunc,.nilFunc],[(0,12),(12,12),(24,12),(36,12),(48,12),(60,12),(72,12),(84,12),(96,12),(108,12),(120,12),(132,12),(144,12),(156,12)]):=by kernel_rfl
@[simp] theorem Tb.tk315:tk Tryz.prog 315=1:=by kernel_rfl
@[simp] theorem Tb.tk316:tk Tryz.prog 316=1:=by kernel_rfl
@[simp] theorem Tb.sz316:Program.cellsOf Tryz.prog 316=1:=by kernel_rfl
@[simp] theorem Tb.tk317:tk Tryz.prog 317=2:=by kernel_rfl
@[simp] theorem Tb.sz317:Program.cellsOf Tryz.prog 317=3:=by kernel_rfl
@[simp] theorem Tb.ar317:arT Tryz.prog 317=some (3,316):=by kernel_rfl
@[simp] theorem Tb.bl317:bldT Tryz.prog 317=some ([.nilFunc,.nilFunc,.nilFunc],[(0,1),(1,1),(2,1)]):=by kernel_rfl
@[simp] theorem Tb.ff319_0:foff Tryz.prog 319 0=some (0,26):=by kernel_rfl
@[simp] theorem Tb.ff319_1:foff Tryz.prog 319 1=some (5,242):=by kernel_rfl
@[simp] theorem Tb.ff319_2:foff Tryz.prog 319 2=some (6,317):=by kernel_rfl
@[simp] theorem Tb.bl319:bldT Tryz.prog 319=some ([.int .i64 0,.slice none 0 0,.slice none 0 0,.slice none 0 0,.slice none 0 0,.map none,.nilFunc,.nilFunc,.nilFunc],[(0,5),(5,1),(6,3)]):=by kernel_rfl
@[simp] theorem Tb.tk336:tk Tryz.prog 336=1:=by kernel_rfl
@[simp] theorem Tb.tk338:tk Tryz.prog 338=2:=by kernel_rfl
@[simp] theorem Tb.sz338:Program.cellsOf Tryz.prog 338=3:=by kernel_rfl
@[simp] theorem Tb.ff338_0:foff Tryz.prog 338 0=some (0,3):=by kernel_rfl
@[simp] theorem Tb.ff338_1:foff Tryz.prog 338 1=some (1,3):=by kernel_rfl
@[simp] theorem Tb.ff338_2:foff Tryz.prog 338 2=some (2,336):=by kernel_rfl
@[simp] theorem Tb.zr338:zrT Tryz.prog 338=[.int .i64 0,.int .i64 0,.nilFunc]:=by kernel_rfl
@[simp] theorem Tb.za338:(Tryz.prog.info? 338).any (·.zero.isSome)=true:=by kernel_rfl
@[simp] theorem Tb.bl338:bldT Tryz.prog 338=some ([.int .i64 0,.int .i64 0,.nilFunc],[(0,1),(1,1),(2,1)]):=by kernel_rfl
@[simp] theorem Tb.tk339:tk Tryz.prog 339=2:=by kernel_rfl
@[simp] theorem Tb.sz339:Program.cellsOf Tryz.prog 339=15:=by kernel_rfl
@[simp] theorem Tb.ar339:arT Tryz.prog 339=some (5,338):=by kernel_rfl
@[simp] theorem Tb.zr339:zrT Tryz.prog 339=[.int .i64 0,.int .i64 0,.nilFunc,.int .i64 0,.int .i64 0,.nilFunc,.int .i64 0,.int .i64 0,.nilFunc,.int .i64 0,.int .i64 0,.nilFunc,.int .i64 0,.int .i64 0,.nilFunc]:=by kernel_rfl
@[simp] theorem Tb.za339:(Tryz.prog.info? 339).any (·.zero.isSome)=true:=by kernel_rfl
@[simp] theorem Tb.bl339:bldT Tryz.prog 339=some ([.int .i64 0,.int .i64 0,.nilFunc,.int .i64 0,.int .i64 0,.nilFunc,.int .i64 0,.int .i64 0,.nilFunc,.int .i64 0,.int .i64 0,.nilFunc,.int .i64 0,.int .i64 0,.nilFunc],[(0,3),(3,3),(6,3),(9,3),(12,3)]):=by kernel_rfl
@[simp] theorem Tb.sl344:slT Tryz.prog 344=some 22:=by kernel_rfl
@[simp] theorem Tb.tk379:tk Tryz.prog 379=2:=by kernel_rfl
@[simp] theorem Tb.sz379:Program.cellsOf Tryz.prog 379=3:=by kernel_rfl
@[simp] theorem Tb.ar379:arT Tryz.prog 379=some (3,5):=by kernel_rfl
@[simp] theorem Tb.zr379:zrT Tryz.prog 379=[.int .u8 0,.int .u8 0,.int .u8 0]:=by kernel_rfl
@[simp] theorem Tb.za379:(Tryz.prog.info? 379).any (·.zero.isSome)=true:=by kernel_rfl
@[simp] theorem Tb.sl380:slT Tryz.prog 380=none:=by kernel_rfl
@[simp] theorem Tb.ar380:arT Tryz.prog 380=some (6,379):=by kernel_rfl
@[simp] theorem Tb.tk383:tk Tryz.prog 383=1:=by kernel_rfl
@[simp] theorem Tb.tk392:tk Tryz.prog 392=1:=by kernel_rfl
@[simp] theorem Tb.tk422:tk Tryz.prog 422=1:=by kernel_rfl
@[simp] theorem Tb.sz422:Program.cellsOf Tryz.prog 422=1:=by kernel_rfl
@[simp] theorem Tb.zr422:zrT Tryz.prog 422=[.nilFunc]:=by kernel_rfl
@[simp] theorem Tb.za422:(Tryz.prog.info? 422).any (·.zero.isSome)=true:=by kernel_rfl
section
variable {P:Program}
theorem CallY.c1 {l:Nat}{az:List A}{H:Heap}{K:A->Heap->Prop}{e:Nat×Ent}(h:CallY P l az H K):CallY P l az (e::H) fun r H'=>∃H2,K r H2∧H'=e::H2:=h.frameL (H1:=[e])
theorem CallS.c1 {g:FuncId}{az:List A}{H:Heap}{K:A->Heap->Prop}{e:Nat×Ent}(h:CallS P g az H K):CallS P g az (e::H) fun r H'=>∃H2,K r H2∧H'=e::H2:=h.frameL (H1:=[e])
def subP (H H':Heap):Prop:=∃K:Heap,K.Sublist H'∧K.Perm H
theorem subP.refl (H:Heap):subP H H:=⟨H,List.Sublist.refl H,List.Perm.refl H⟩
theorem subP.c {H H':Heap}(h:subP H H') (e:Nat×Ent):subP H (e::H'):=by
 obtain⟨K,h1,h2⟩:=h
 exact⟨K,h1.cons e,h2⟩
theorem subP.cc {H H':Heap}(h:subP H H') (e:Nat×Ent):subP (e::H) (e::H'):=by
 obtain⟨K,h1,h2⟩:=h
 exact⟨e::K,h1.cons_cons e,h2.cons e⟩
theorem subP_inv {x:X}{H H' H0:Heap}(h:subP H H') (hi:Inv x (H'++H0)):Inv x (H++H0):=by
 obtain⟨K,h1,h2⟩:=h
 exact (hi.sub (h1.append (List.Sublist.refl H0))).perm (h2.symm.append_right H0)
theorem CallS.dropP {g:FuncId}{az:List A}{H:Heap}{K K':A->Heap->Prop}(h:CallS P g az H K) (hk:∀r H',K r H'->∃H'':Heap,subP H'' H'∧K' r H''):CallS P g az H K':=by
 refine⟨h.1,fun x args H0 hi hd=>(h.2 x args H0 hi hd).mono ?_⟩
 rintro _ _ ⟨y,v,r,H',a,b,c,d,e,f⟩
 obtain⟨H'',h1,h2⟩:=hk r H' f
 exact⟨y,v,r,H'',a,b,c,subP_inv h1 d,e,h2⟩
theorem V.for' {C:Cfg}{E:Env}{H:Heap}{Q:PostQ}{c:Code}{ι:Type}(Lv:List Nat) (sl:ι->List (Nat×A)) (Hs:ι->Heap) (I:ι->Prop) (μ:ι->Nat) (i0:ι)
  (h0:I i0∧(∀p∈sl i0,E p.1=p.2)∧subP (Hs i0) H)
  (hr:∀i,I i->vcC C c (headEnv E Lv (sl i)) (Hs i) fun e E' H'=>match e with
   | .normal=>∃j,I j∧μ j<μ i∧(∀p∈sl j,E' p.1=p.2)∧(∀t∈Lv,E' t=E t)∧subP (Hs j) H'
   | .exit i=>Q (.exit i) E' H'
   | .ret=>Q .ret E' H'
   | _=>False):V C (.loop c) E H Q:=by
 intro hf x act H0 ms hi he
 have hhead:∀ {i:ι}{E':Env},(∀p∈sl i,E' p.1=p.2)->(∀t∈Lv,E' t=E t)->∀t,headEnv E Lv (sl i) t=.any∨headEnv E Lv (sl i) t=E' t:=by
  intro i E' h1 h2
  refine sets_weak _ _ h1 (sets_weak _ _ ?_ fun t=>.inl rfl)
  intro p hp
  obtain⟨t,ht,rfl⟩:=List.mem_map.1 hp
  exact h2 t ht
 have key:W C (.loop c) (headEnv E Lv (sl i0)) (Hs i0) Q:=by
  refine W.loop (fun m E' H'=>∃i,I i∧μ i=m∧E'=headEnv E Lv (sl i)∧H'=Hs i) (μ i0) ⟨i0,h0.1,rfl,rfl,rfl⟩ ?_
  rintro m _ _ ⟨i,hI,rfl,rfl,rfl⟩
  have hw:=vcC_ok c _ _ _ hf (hr i hI)
  intro x act H0 ms hi he
  refine wpIn_mono (hw x act H0 ms hi he) ?_
  rintro e a' w' ⟨y,E',H',ms',rfl,hle,hi',he',hq⟩
  cases e with
  | normal=>
   obtain⟨j,h1,h2,h3,h4,h5⟩:=hq
   exact⟨y,_,_,ms',rfl,hle,subP_inv h5 hi',he'.weak (hhead h3 h4),μ j,h2,j,h1,rfl,rfl,rfl⟩
  | exit k=>exact⟨y,E',H',ms',rfl,hle,hi',he',hq⟩
  | ret=>exact⟨y,E',H',ms',rfl,hle,hi',he',hq⟩
  | goto l=>exact hq.elim
  | panic c=>exact hq.elim
  | outgrown=>exact hq.elim
 exact key x act H0 ms (subP_inv h0.2.2 hi) (he.weak (hhead h0.2.1 fun _ _=>rfl))
@[congr] theorem GCall_congr {q q' p p':Prop}{g:FuncId}{az az':List A}{H H':Heap}{K:A->Heap->Prop}{z:Prop}(_:(True∧True)=z) (h1:q=q') (h2:p=p') (h3:az=az') (h4:H=H'):GCall P q p g az H K=GCall P q' p' g az' H' K:=by rw[h1,h2,h3,h4]
theorem Inv.ents {x:X}{H H':Heap}(e:H.map Prod.snd=H'.map Prod.snd) (h:Inv x H):Inv x H':=by
 have mem:∀p∈H',∃q∈H,q.2=p.2:=by
  intro p hp
  have:p.2∈H.map Prod.snd:=by rw[e];exact List.mem_map.2 ⟨p,hp,rfl⟩
  exact List.mem_map.1 this
 refine⟨h.bd,?_,?_,?_⟩
 ·intro p hp
  obtain⟨q,hq,e⟩:=mem p hp
  rw[<- e];exact h.sat q hq
 ·intro p hp b hb
  obtain⟨q,hq,e⟩:=mem p hp
  rw[<- e]at hb;exact h.own q hq b hb
 ·have h1:(H.map Prod.snd).Pairwise fun (a c:Ent)=>∀b,a.own b->¬c.own b:=List.pairwise_map.2 h.apart
  rw[e]at h1
  exact List.pairwise_map.1 h1
def rt (k:Nat) (H:Heap):Heap:=H.map fun p=>(p.1+k,p.2)
@[simp] theorem rt_cons (k t:Nat) (e:Ent) (H:Heap):rt k ((t,e)::H)=(t+k,e)::rt k H:=rfl
theorem rt_snd (k:Nat) (H:Heap):(rt k H).map Prod.snd=H.map Prod.snd:=by simp[rt,Function.comp_def]
theorem hget_rt {k t:Nat}(h:t<k):∀H:Heap,hget t (rt k H)=none
 | []=>rfl
 | (s,e)::r=>by
  simp only[rt_cons,hget]
  rw[if_neg (by omega)]
  exact hget_rt h r
@[simp] theorem hget_rt1000 {t:Nat}(H:Heap) (h:t<1000):hget t (rt 1000 H)=none:=hget_rt h H
theorem CallY.rt {P:Program}{k l:Nat}{az:List A}{H:Heap}{K:A->Heap->Prop}(h:CallY P l az H K):CallY P l az (rt k H) fun r H'=>∃H2,H'=Go.Proofs.YtafamcbdaeppoaaGreatDoor.rt k H2∧K r H2:=by
 intro x args H0 hi hd
 obtain⟨f,t,a,b,h1,h2⟩:=h x args H0 (hi.ents (by simp[rt_snd])) hd
 refine⟨f,t,a,b,h1,h2.mono ?_⟩
 rintro _ _ ⟨y,v,r,H',a,b,c,d,e,g⟩
 exact⟨y,v,r,Go.Proofs.YtafamcbdaeppoaaGreatDoor.rt k H',a,b,c,d.ents (by simp[rt_snd]),e,H',rfl,g⟩
theorem CallS.rt {P:Program}{k:Nat}{g:FuncId}{az:List A}{H:Heap}{K:A->Heap->Prop}(h:CallS P g az (rt k H) fun r H'=>∃H2,H'=Go.Proofs.YtafamcbdaeppoaaGreatDoor.rt k H2∧K r H2):CallS P g az H K:=by
 refine⟨h.1,fun x args H0 hi hd=>(h.2 x args H0 (hi.ents (by simp[rt_snd])) hd).mono ?_⟩
 rintro _ _ ⟨y,v,r,H',a,b,c,d,e,H2,rfl,g⟩
 exact⟨y,v,r,H2,a,b,c,d.ents (by simp[rt_snd]),e,g⟩
structure Expr where
 op:Int
 index:Int
 args:List Expr
def encE:Expr->List L
 | ⟨op,ix,args⟩=>[.int .i64 op,.int .i64 ix,.sl (args.map encE)]
theorem encE_eq (e:Expr):encE e=[.int .i64 e.op,.int .i64 e.index,.sl (e.args.map encE)]:=by
 cases e;simp[encE]
inductive OkE:Expr->Prop
 | mk (e:Expr) (h:e.args.length<=9223372036854775807) (ho:inR .i64 e.op) (hi:inR .i64 e.index) (hr:∀a∈e.args,OkE a):OkE e
theorem OkE.len {e:Expr}(h:OkE e):e.args.length<=9223372036854775807:=by cases h;assumption
theorem OkE.args {e:Expr}(h:OkE e):∀a∈e.args,OkE a:=by cases h;assumption
abbrev aE (e:Expr):A:=.record [.int .i64 e.op,.int .i64 e.index,.sl (e.args.map encE)]
mutual
def preE:Expr->Int->List (Int×Expr)
 | ⟨op,ix,args⟩,d=>(d,⟨op,ix,args⟩)::(if d<=16 then preL args (d+1) else [])
def preL:List Expr->Int->List (Int×Expr)
 | [],_=>[]
 | x::xs,d=>preE x d++preL xs d
end
theorem preE_eq (e:Expr) (d:Int):preE e d=(d,e)::(if d<=16 then preL e.args (d+1) else []):=by
 cases e;simp[preE]
theorem Expr.lt_of_mem {e a:Expr}(h:a∈e.args):SizeOf.sizeOf a<SizeOf.sizeOf e:=by
 cases e
 have:=List.sizeOf_lt_of_mem h
 simp only[Expr.mk.sizeOf_spec]at this ⊢
 omega
end
section
variable {P:Program}
theorem vcOp_mono {op:Op}{d:Option Nat}{E:Env}{H:Heap}{K K':Env->Heap->Prop}(hk:∀E H,K E H->K' E H) (h:vcOp P op d E H K):vcOp P op d E H K':=by
 unfold vcOp at h ⊢
 cases h1:pureA P E op with
 | some q=>
  obtain⟨p,a⟩:=q
  simp only[h1]at h ⊢
  exact⟨h.1,hk _ _ h.2⟩
 | none=>
  simp only[h1]at h ⊢
  cases h2:callA E op with
  | some q=>
   obtain⟨p,g,az⟩:=q
   simp only[h2]at h ⊢
   exact⟨h.1,h.2.mono fun _ _=>hk _ _⟩
  | none=>
   simp only[h2]at h ⊢
   cases h3:yldA E op with
   | some q=>
    obtain⟨p,l,az⟩:=q
    simp only[h3]at h ⊢
    exact⟨h.1,h.2.mono fun _ _=>hk _ _⟩
   | none=>
    simp only[h3]at h ⊢
    intro u b
    have:=h u b
    cases h4:heapF P u b (d.getD 0) E (fun t=>hget t H) op with
    | some q=>
     obtain⟨p,a,ch⟩:=q
     simp only[h4]at this ⊢
     exact⟨this.1,hk _ _ this.2⟩
    | none=>simp only[h4]at this
theorem vcOps_mono {ops:List Oper}:∀(l:List Oper) {E:Env}{H:Heap}{K K':Env->Heap->Prop},(∀E H,K E H->K' E H)->vcOps P ops l E H K->vcOps P ops l E H K'
 | [],_,_,_,_,hk,h=>hk _ _ h
 | o::rest,E,H,K,K',hk,h=>by
  simp only[vcOps]at h ⊢
  cases hg:o.guard with
  | none=>
   simp only[hg]at h ⊢
   exact vcOp_mono (fun _ _=>vcOps_mono rest hk) h
  | some jw=>
   obtain⟨j,want⟩:=jw
   simp only[hg]at h ⊢
   cases hq:gq E ops j want with
   | none=>simp only[hq]at h
   | some q=>
    simp only[hq]at h ⊢
    cases h1:pureA P E o.op with
    | some pa=>
     obtain⟨p,a⟩:=pa
     simp only[h1]at h ⊢
     exact⟨h.1,vcOps_mono rest hk h.2⟩
    | none=>
     simp only[h1]at h ⊢
     cases h2:callA E o.op with
     | some pg=>
      obtain⟨p,g,az⟩:=pg
      simp only[h2]at h ⊢
      rcases h with⟨r,h3,h4⟩|⟨h3,h4⟩
      ·exact .inl ⟨r,h3,vcOps_mono rest hk h4⟩
      ·exact .inr ⟨fun hq=>⟨(h3 hq).1,(h3 hq).2.mono fun _ _=>vcOps_mono rest hk⟩,fun hq=>let ⟨r,h5⟩:=h4 hq;⟨r,vcOps_mono rest hk h5⟩⟩
     | none=>
      simp only[h2]at h ⊢
      cases h3:heapF P .nilIface 0 0 E (fun t=>hget t H) o.op with
      | none=>
       simp only[h3]at h ⊢
       exact⟨h.1,vcOps_mono rest hk h.2⟩
      | some pa=>
       obtain⟨p,a,ch⟩:=pa
       simp only[h3]at h ⊢
       cases ch with
       | none=>exact⟨h.1,h.2.1,vcOps_mono rest hk h.2.2⟩
       | some c=>exact⟨h.1,vcOps_mono rest hk h.2⟩
theorem V.mono {C:Cfg}{c:Code}{E:Env}{H:Heap}{Q Q':PostQ}(hq:∀e E H,Q e E H->Q' e E H) (h:V C c E H Q):V C c E H Q':=fun hf=>(h hf).mono hq
theorem vcC_mono {C:Cfg}:∀(c:Code) {E:Env}{H:Heap}{Q Q':PostQ},(∀e E H,Q e E H->Q' e E H)->vcC C c E H Q->vcC C c E H Q'
 | .skip,_,_,_,_,hq,h=>hq _ _ _ h
 | .seq a b,E,H,Q,Q',hq,h=>by
  refine vcC_mono a ?_ h
  intro e E H h
  cases e with
  | normal=>exact vcC_mono b hq h
  | exit i=>exact hq _ _ _ h
  | ret=>exact hq _ _ _ h
  | goto l=>exact h
  | panic c=>exact h
  | outgrown=>exact h
 | .cond c a b,E,H,Q,Q',hq,h=>by
  simp only[vcC]at h ⊢
  split at h
  ·rename_i p t hst
   exact⟨h.1,fun e=>vcC_mono a hq (h.2.1 e),fun e=>vcC_mono b hq (h.2.2 e)⟩
  ·exact h.elim
 | .block id c,E,H,Q,Q',hq,h=>by
  refine vcC_mono c ?_ h
  intro e E H h
  cases e with
  | normal=>exact hq _ _ _ h
  | exit i=>
   simp only[blockQ]at h ⊢
   split
   ·rename_i hi;simp only[hi,if_true]at h;exact hq _ _ _ h
   ·rename_i hi;simp only[hi,if_false]at h;exact hq _ _ _ h
  | ret=>exact hq _ _ _ h
  | goto l=>exact h
  | panic c=>exact h
  | outgrown=>exact h
 | .exit _,_,_,_,_,hq,h=>hq _ _ _ h
 | .ret,_,_,_,_,hq,h=>hq _ _ _ h
 | .region id ops d,E,H,Q,Q',hq,h=>by
  cases d with
  | false=>exact vcOps_mono ops.toList (fun _ _=>hq _ _ _) h
  | true=>exact V.mono hq h
 | .loop c,_,_,_,_,hq,h=>V.mono hq h
 | .rangeFunc _ _ _ _,_,_,_,_,hq,h=>V.mono hq h
 | .scope _,_,_,_,_,_,h=>h.elim
 | .label _,_,_,_,_,_,h=>h.elim
 | .goto _,_,_,_,_,_,h=>h.elim
 | .refuse _,_,_,_,_,_,h=>h.elim
def yK {σ δ:Type}(Hc:σ->Heap) (Hd:δ->Heap) (o:Except δ σ):A->Heap->Prop:=fun r H'=>match o with
 | .ok s=>r=.dat (.bool true)∧H'=Hc s
 | .error d=>r=.dat (.bool false)∧H'=Hd d
def IterS (P:Program) (f:FuncId) (first caps:List A) {ι:Type}(items:List ι) (enc:ι->List A):Prop:=
 ∀ {σ δ:Type}(l:Nat) (Hc:σ->Heap) (Hd:δ->Heap) (step:σ->ι->Except δ σ) (s:σ),(∀s p,p∈items->CallY P l (enc p) (Hc s) (yK Hc Hd (step s p))) ->
  CallS P f (first++[.yld l]++caps) (Hc s) fun _ H'=>match items.foldlM step s with
   | .ok s'=>H'=Hc s'
   | .error e=>H'=Hd e
theorem CallY.dropP {l:Nat}{az:List A}{H:Heap}{K K':A->Heap->Prop}(h:CallY P l az H K) (hk:∀r H',K r H'->∃H'':Heap,subP H'' H'∧K' r H''):CallY P l az H K':=by
 intro x args H0 hi hd
 obtain⟨f,t,a,b,h1,h2⟩:=h x args H0 hi hd
 refine⟨f,t,a,b,h1,h2.mono ?_⟩
 rintro _ _ ⟨y,v,r,H',a,b,c,d,e,f⟩
 obtain⟨H'',h1,h2⟩:=hk r H' f
 exact⟨y,v,r,H'',a,b,c,subP_inv h1 d,e,h2⟩
def jX:Option Nat->Exit
 | none=>.ret
 | some i=>.exit i
def jC:Option Nat->Code
 | none=>.ret
 | some i=>.exit i
theorem V.rangeFold {n:Nat}{E:Env}{H:Heap}{Q:PostQ}{g:Operand}{ps:Array Tmp}{asg body:Code}{p:Prop}{f:FuncId}{first caps:List A}{ι σ δ:Type}{items:List ι}{enc:ι->List A}
  (τ:Nat) (hg:st (ev E g)=(p,.fn f first caps)) (hp:p) (hit:IterS P f first caps items enc) (Hb:σ->Heap) (Hx:δ->Heap) (jump:δ->Option Nat) (step:σ->ι->Except δ σ) (I:σ->Prop) (s0:σ) (hI0:I s0)
  (hI:∀s p s',I s->step s p=.ok s'->I s') (hH:subP (Hb s0) H) (hlen:∀p∈items,(enc p).length=ps.size)
  (hbody:∀l s p,I s->p∈items->vcC ⟨P,some l,n⟩ asg (bindP ps.toList (enc p) E) (Hb s) fun e E' H'=>match e with
   | .normal=>vcC ⟨P,some l,n⟩ body E' H' fun e _ H''=>match step s p with
    | .ok s'=>e=.normal∧subP (Hb s') H''
    | .error d=>e=jX (jump d)∧subP (Hx d) H''
   | _=>False)
  (hend:∀o,items.foldlM step s0=o->match (generalizing:=false) o with
   | .ok s=>Q .normal E (Hb s)
   | .error d=>Q (jX (jump d)) E (Hx d)):V ⟨P,none,n⟩ (.rangeFunc g ps asg body) E H Q:=by
 intro hf
 have key:V ⟨P,none,n⟩ (.rangeFunc g ps asg body) E (Hb s0) Q:=by
  refine V.rangeFunc τ hg hp fun l=>?_
  let step':{s // I s}->ι->Except δ {s // I s}:=fun s p=>match h:step s.1 p with
   | .ok s'=>.ok ⟨s',hI s.1 p s' s.2 h⟩
   | .error d=>.error d
  have hs':∀s p,(step' s p).map Subtype.val=step s.1 p:=by
   intro s p
   show Except.map Subtype.val (match h:step s.1 p with | .ok s'=>.ok ⟨s',hI s.1 p s' s.2 h⟩ | .error d=>.error d)=_
   split<;>rename_i h<;>simp[Except.map,h]
  have hfold:∀(its:List ι) (s:{s // I s}),(its.foldlM step' s).map Subtype.val=its.foldlM step s.1:=by
   intro its
   induction its with
   | nil=>intro s;rfl
   | cons q r ih=>
    intro s
    simp only[List.foldlM_cons]
    have:=hs' s q
    cases h:step' s q with
    | error d=>rw[h]at this;rw[<- this];rfl
    | ok s1=>rw[h]at this;rw[<- this];exact ih s1
  have hc:=hit (σ:={s // I s}) (δ:=δ) l (fun s=>(τ,.loop l n .ready none ps asg body E)::Hb s.1) (fun d=>(τ,.loop l n .done (some (jC (jump d))) ps asg body E)::Hx d) step' ⟨s0,hI0⟩ ?_
  ·refine hc.mono ?_
   intro _ H' hk
   have h1:=hfold items ⟨s0,hI0⟩
   have h2:=hend _ rfl
   rw[<- h1]at h2
   cases hr:items.foldlM step' ⟨s0,hI0⟩ with
   | ok s=>
    rw[hr]at hk h2
    subst hk
    exact .inl ⟨_,rfl,h2⟩
   | error d=>
    rw[hr]at hk h2
    subst hk
    simp only[Except.map]at h2
    cases hj:jump d with
    | none=>rw[hj]at h2;exact .inr (.inl ⟨_,rfl,h2⟩)
    | some i=>rw[hj]at h2;exact .inr (.inr ⟨_,i,rfl,h2⟩)
  ·rintro⟨s,hs⟩ q hq
   have hb:=hbody l s q hs hq
   refine CallY.dropP (K:=fun r H''=>match step s q with
    | .ok s'=>r=.dat (.bool true)∧∃H3,H''=(τ,.loop l n .ready none ps asg body E)::H3∧subP (Hb s') H3
    | .error d=>r=.dat (.bool false)∧∃H3,H''=(τ,.loop l n .done (some (jC (jump d))) ps asg body E)::H3∧subP (Hx d) H3) (callY_of (hlen q hq) hf ?_) ?_
   ·have hf':=hf
    simp only[fitsC,Bool.and_eq_true]at hf'
    refine vcC_mono asg ?_ hb
    intro e E' H' h
    cases e with
    | normal=>
     refine vcC_mono body ?_ h
     intro e E'' H'' h
     cases hst:step s q with
     | ok s'=>
      rw[hst]at h
      obtain⟨rfl,h⟩:=h
      simp only[roundQ,hst]
      exact⟨by trivial,_,rfl,h⟩
     | error d=>
      rw[hst]at h
      obtain⟨rfl,h⟩:=h
      cases hj:jump d with
      | none=>simp only[jX,roundQ,hst];exact⟨by trivial,_,by rw[hj];rfl,h⟩
      | some i=>simp only[jX,roundQ,hst];exact⟨by trivial,_,by rw[hj];rfl,h⟩
    | ret=>exact h
    | exit i=>exact h
    | goto t=>exact h
    | panic c=>exact h
    | outgrown=>exact h
   ·intro r H'' hk
    have h1:=hs' ⟨s,hs⟩ q
    cases hst:step' ⟨s,hs⟩ q with
    | ok s'=>
     rw[hst]at h1
     simp only[Except.map]at h1
     simp only[<- h1]at hk
     obtain⟨rfl,H3,rfl,h3⟩:=hk
     exact⟨_,h3.cc _,rfl,rfl⟩
    | error d=>
     rw[hst]at h1
     simp only[Except.map]at h1
     simp only[<- h1]at hk
     obtain⟨rfl,H3,rfl,h3⟩:=hk
     exact⟨_,h3.cc _,rfl,rfl⟩
 intro x act H0 ms hi he
 exact key hf x act H0 ms (subP_inv hH hi) he
end
end Go.Proofs.YtafamcbdaeppoaaGreatDoor
