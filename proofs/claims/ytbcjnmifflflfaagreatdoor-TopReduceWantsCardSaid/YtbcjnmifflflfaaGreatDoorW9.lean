/- Texts joined by a program: Tb. -/
import Derived.KernelRfl
import Derived.Test.YtbcjnmifflflfaaGreatDoorW5
set_option linter.unusedSimpArgs false
set_option linter.unusedVariables false

section
namespace Go.Proofs.YtbcjnmifflflfaaGreatDoor
@[simp] theorem Tb.tk2 : tk Tryz.prog 2 = 1 := by kernel_rfl
@[simp] theorem Tb.sz2 : Program.cellsOf Tryz.prog 2 = 1 := by kernel_rfl
@[simp] theorem Tb.sl2 : slT Tryz.prog 2 = none := by kernel_rfl
@[simp] theorem Tb.st2 : isStr Tryz.prog 2 = false := by kernel_rfl
@[simp] theorem Tb.bo2 : isBool Tryz.prog 2 = false := by kernel_rfl
@[simp] theorem Tb.in2 : intT Tryz.prog 2 = some .i64 := by kernel_rfl
@[simp] theorem Tb.un2 : (Tryz.prog.underlying 2).isSome = true := by kernel_rfl
@[simp] theorem Tb.zr2 : zrT Tryz.prog 2 = [.int .i64 0] := by kernel_rfl
@[simp] theorem Tb.za2 : (Tryz.prog.info? 2).any (·.zero.isSome) = true := by kernel_rfl
@[simp] theorem Tb.zb2 : ((Tryz.prog.info? 2).bind (·.zero)).isSome = true := by kernel_rfl
@[simp] theorem Tb.el2 : elOK Tryz.prog 2 := elOK_of (by kernel_rfl)
@[simp] theorem Tb.tk3 : tk Tryz.prog 3 = 1 := by kernel_rfl
@[simp] theorem Tb.sz3 : Program.cellsOf Tryz.prog 3 = 1 := by kernel_rfl
@[simp] theorem Tb.sl3 : slT Tryz.prog 3 = none := by kernel_rfl
@[simp] theorem Tb.st3 : isStr Tryz.prog 3 = false := by kernel_rfl
@[simp] theorem Tb.bo3 : isBool Tryz.prog 3 = false := by kernel_rfl
@[simp] theorem Tb.in3 : intT Tryz.prog 3 = some .i64 := by kernel_rfl
@[simp] theorem Tb.un3 : (Tryz.prog.underlying 3).isSome = true := by kernel_rfl
@[simp] theorem Tb.zr3 : zrT Tryz.prog 3 = [.int .i64 0] := by kernel_rfl
@[simp] theorem Tb.za3 : (Tryz.prog.info? 3).any (·.zero.isSome) = true := by kernel_rfl
@[simp] theorem Tb.zb3 : ((Tryz.prog.info? 3).bind (·.zero)).isSome = true := by kernel_rfl
@[simp] theorem Tb.el3 : elOK Tryz.prog 3 := elOK_of (by kernel_rfl)
@[simp] theorem Tb.tk4 : tk Tryz.prog 4 = 1 := by kernel_rfl
@[simp] theorem Tb.sz4 : Program.cellsOf Tryz.prog 4 = 1 := by kernel_rfl
@[simp] theorem Tb.sl4 : slT Tryz.prog 4 = none := by kernel_rfl
@[simp] theorem Tb.st4 : isStr Tryz.prog 4 = false := by kernel_rfl
@[simp] theorem Tb.bo4 : isBool Tryz.prog 4 = true := by kernel_rfl
@[simp] theorem Tb.in4 : intT Tryz.prog 4 = none := by kernel_rfl
@[simp] theorem Tb.un4 : (Tryz.prog.underlying 4).isSome = true := by kernel_rfl
@[simp] theorem Tb.zr4 : zrT Tryz.prog 4 = [.bool false] := by kernel_rfl
@[simp] theorem Tb.za4 : (Tryz.prog.info? 4).any (·.zero.isSome) = true := by kernel_rfl
@[simp] theorem Tb.zb4 : ((Tryz.prog.info? 4).bind (·.zero)).isSome = true := by kernel_rfl
@[simp] theorem Tb.el4 : elOK Tryz.prog 4 := elOK_of (by kernel_rfl)
@[simp] theorem Tb.tk5 : tk Tryz.prog 5 = 1 := by kernel_rfl
@[simp] theorem Tb.sz5 : Program.cellsOf Tryz.prog 5 = 1 := by kernel_rfl
@[simp] theorem Tb.sl5 : slT Tryz.prog 5 = none := by kernel_rfl
@[simp] theorem Tb.st5 : isStr Tryz.prog 5 = false := by kernel_rfl
@[simp] theorem Tb.bo5 : isBool Tryz.prog 5 = false := by kernel_rfl
@[simp] theorem Tb.in5 : intT Tryz.prog 5 = some .u8 := by kernel_rfl
@[simp] theorem Tb.un5 : (Tryz.prog.underlying 5).isSome = true := by kernel_rfl
@[simp] theorem Tb.zr5 : zrT Tryz.prog 5 = [.int .u8 0] := by kernel_rfl
@[simp] theorem Tb.za5 : (Tryz.prog.info? 5).any (·.zero.isSome) = true := by kernel_rfl
@[simp] theorem Tb.zb5 : ((Tryz.prog.info? 5).bind (·.zero)).isSome = true := by kernel_rfl
@[simp] theorem Tb.el5 : elOK Tryz.prog 5 := elOK_of (by kernel_rfl)
@[simp] theorem Tb.tk9 : tk Tryz.prog 9 = 1 := by kernel_rfl
@[simp] theorem Tb.sz9 : Program.cellsOf Tryz.prog 9 = 1 := by kernel_rfl
@[simp] theorem Tb.sl9 : slT Tryz.prog 9 = none := by kernel_rfl
@[simp] theorem Tb.st9 : isStr Tryz.prog 9 = true := by kernel_rfl
@[simp] theorem Tb.bo9 : isBool Tryz.prog 9 = false := by kernel_rfl
@[simp] theorem Tb.in9 : intT Tryz.prog 9 = none := by kernel_rfl
@[simp] theorem Tb.un9 : (Tryz.prog.underlying 9).isSome = true := by kernel_rfl
@[simp] theorem Tb.zr9 : zrT Tryz.prog 9 = [.string ⟨#[]⟩] := by kernel_rfl
@[simp] theorem Tb.za9 : (Tryz.prog.info? 9).any (·.zero.isSome) = true := by kernel_rfl
@[simp] theorem Tb.zb9 : ((Tryz.prog.info? 9).bind (·.zero)).isSome = true := by kernel_rfl
@[simp] theorem Tb.el9 : elOK Tryz.prog 9 := elOK_of (by kernel_rfl)
@[simp] theorem Tb.tk12 : tk Tryz.prog 12 = 1 := by kernel_rfl
@[simp] theorem Tb.sz12 : Program.cellsOf Tryz.prog 12 = 1 := by kernel_rfl
@[simp] theorem Tb.sl12 : slT Tryz.prog 12 = none := by kernel_rfl
@[simp] theorem Tb.st12 : isStr Tryz.prog 12 = false := by kernel_rfl
@[simp] theorem Tb.bo12 : isBool Tryz.prog 12 = false := by kernel_rfl
@[simp] theorem Tb.in12 : intT Tryz.prog 12 = some .u64 := by kernel_rfl
@[simp] theorem Tb.un12 : (Tryz.prog.underlying 12).isSome = true := by kernel_rfl
@[simp] theorem Tb.zr12 : zrT Tryz.prog 12 = [.int .u64 0] := by kernel_rfl
@[simp] theorem Tb.za12 : (Tryz.prog.info? 12).any (·.zero.isSome) = true := by kernel_rfl
@[simp] theorem Tb.zb12 : ((Tryz.prog.info? 12).bind (·.zero)).isSome = true := by kernel_rfl
@[simp] theorem Tb.el12 : elOK Tryz.prog 12 := elOK_of (by kernel_rfl)
@[simp] theorem Tb.tk19 : tk Tryz.prog 19 = 2 := by kernel_rfl
@[simp] theorem Tb.sz19 : Program.cellsOf Tryz.prog 19 = 1 := by kernel_rfl
@[simp] theorem Tb.ff19_0 : foff Tryz.prog 19 0 = some (0, 17) := by kernel_rfl
@[simp] theorem Tb.cm19 : cmpT Tryz.prog 19 = none := by kernel_rfl
@[simp] theorem Tb.sl19 : slT Tryz.prog 19 = none := by kernel_rfl
@[simp] theorem Tb.st19 : isStr Tryz.prog 19 = false := by kernel_rfl
@[simp] theorem Tb.bo19 : isBool Tryz.prog 19 = false := by kernel_rfl
@[simp] theorem Tb.in19 : intT Tryz.prog 19 = none := by kernel_rfl
@[simp] theorem Tb.un19 : (Tryz.prog.underlying 19).isSome = true := by kernel_rfl
@[simp] theorem Tb.zr19 : zrT Tryz.prog 19 = [.pointer none] := by kernel_rfl
@[simp] theorem Tb.za19 : (Tryz.prog.info? 19).any (·.zero.isSome) = true := by kernel_rfl
@[simp] theorem Tb.zb19 : ((Tryz.prog.info? 19).bind (·.zero)).isSome = true := by kernel_rfl
@[simp] theorem Tb.el19 : elOK Tryz.prog 19 := elOK_of (by kernel_rfl)
@[simp] theorem Tb.bl19 : bldT Tryz.prog 19 = some ([.pointer none], [(0, 1)]) := by kernel_rfl
@[simp] theorem Tb.tk21 : tk Tryz.prog 21 = 1 := by kernel_rfl
@[simp] theorem Tb.sz21 : Program.cellsOf Tryz.prog 21 = 1 := by kernel_rfl
@[simp] theorem Tb.sl21 : slT Tryz.prog 21 = none := by kernel_rfl
@[simp] theorem Tb.st21 : isStr Tryz.prog 21 = false := by kernel_rfl
@[simp] theorem Tb.bo21 : isBool Tryz.prog 21 = false := by kernel_rfl
@[simp] theorem Tb.in21 : intT Tryz.prog 21 = some .i32 := by kernel_rfl
@[simp] theorem Tb.un21 : (Tryz.prog.underlying 21).isSome = true := by kernel_rfl
@[simp] theorem Tb.zr21 : zrT Tryz.prog 21 = [.int .i32 0] := by kernel_rfl
@[simp] theorem Tb.za21 : (Tryz.prog.info? 21).any (·.zero.isSome) = true := by kernel_rfl
@[simp] theorem Tb.zb21 : ((Tryz.prog.info? 21).bind (·.zero)).isSome = true := by kernel_rfl
@[simp] theorem Tb.el21 : elOK Tryz.prog 21 := elOK_of (by kernel_rfl)
@[simp] theorem Tb.tk22 : tk Tryz.prog 22 = 1 := by kernel_rfl
@[simp] theorem Tb.sz22 : Program.cellsOf Tryz.prog 22 = 1 := by kernel_rfl
@[simp] theorem Tb.sl22 : slT Tryz.prog 22 = some 9 := by kernel_rfl
@[simp] theorem Tb.st22 : isStr Tryz.prog 22 = false := by kernel_rfl
@[simp] theorem Tb.bo22 : isBool Tryz.prog 22 = false := by kernel_rfl
@[simp] theorem Tb.in22 : intT Tryz.prog 22 = none := by kernel_rfl
@[simp] theorem Tb.un22 : (Tryz.prog.underlying 22).isSome = true := by kernel_rfl
@[simp] theorem Tb.zr22 : zrT Tryz.prog 22 = [.slice none 0 0] := by kernel_rfl
@[simp] theorem Tb.za22 : (Tryz.prog.info? 22).any (·.zero.isSome) = true := by kernel_rfl
@[simp] theorem Tb.zb22 : ((Tryz.prog.info? 22).bind (·.zero)).isSome = true := by kernel_rfl
@[simp] theorem Tb.el22 : elOK Tryz.prog 22 := elOK_of (by kernel_rfl)
@[simp] theorem Tb.tk23 : tk Tryz.prog 23 = 1 := by kernel_rfl
@[simp] theorem Tb.sz23 : Program.cellsOf Tryz.prog 23 = 1 := by kernel_rfl
@[simp] theorem Tb.sl23 : slT Tryz.prog 23 = some 86 := by kernel_rfl
@[simp] theorem Tb.st23 : isStr Tryz.prog 23 = false := by kernel_rfl
@[simp] theorem Tb.bo23 : isBool Tryz.prog 23 = false := by kernel_rfl
@[simp] theorem Tb.in23 : intT Tryz.prog 23 = none := by kernel_rfl
@[simp] theorem Tb.un23 : (Tryz.prog.underlying 23).isSome = true := by kernel_rfl
@[simp] theorem Tb.zr23 : zrT Tryz.prog 23 = [.slice none 0 0] := by kernel_rfl
@[simp] theorem Tb.za23 : (Tryz.prog.info? 23).any (·.zero.isSome) = true := by kernel_rfl
@[simp] theorem Tb.zb23 : ((Tryz.prog.info? 23).bind (·.zero)).isSome = true := by kernel_rfl
@[simp] theorem Tb.el23 : elOK Tryz.prog 23 := elOK_of (by kernel_rfl)
@[simp] theorem Tb.tk24 : tk Tryz.prog 24 = 1 := by kernel_rfl
@[simp] theorem Tb.sz24 : Program.cellsOf Tryz.prog 24 = 1 := by kernel_rfl
@[simp] theorem Tb.sl24 : slT Tryz.prog 24 = some 3 := by kernel_rfl
@[simp] theorem Tb.st24 : isStr Tryz.prog 24 = false := by kernel_rfl
@[simp] theorem Tb.bo24 : isBool Tryz.prog 24 = false := by kernel_rfl
@[simp] theorem Tb.in24 : intT Tryz.prog 24 = none := by kernel_rfl
@[simp] theorem Tb.un24 : (Tryz.prog.underlying 24).isSome = true := by kernel_rfl
@[simp] theorem Tb.zr24 : zrT Tryz.prog 24 = [.slice none 0 0] := by kernel_rfl
@[simp] theorem Tb.za24 : (Tryz.prog.info? 24).any (·.zero.isSome) = true := by kernel_rfl
@[simp] theorem Tb.zb24 : ((Tryz.prog.info? 24).bind (·.zero)).isSome = true := by kernel_rfl
@[simp] theorem Tb.el24 : elOK Tryz.prog 24 := elOK_of (by kernel_rfl)
@[simp] theorem Tb.tk25 : tk Tryz.prog 25 = 2 := by kernel_rfl
@[simp] theorem Tb.sz25 : Program.cellsOf Tryz.prog 25 = 5 := by kernel_rfl
@[simp] theorem Tb.ff25_0 : foff Tryz.prog 25 0 = some (0, 3) := by kernel_rfl
@[simp] theorem Tb.ff25_1 : foff Tryz.prog 25 1 = some (1, 22) := by kernel_rfl
@[simp] theorem Tb.ff25_2 : foff Tryz.prog 25 2 = some (2, 23) := by kernel_rfl
@[simp] theorem Tb.ff25_3 : foff Tryz.prog 25 3 = some (3, 24) := by kernel_rfl
@[simp] theorem Tb.ff25_4 : foff Tryz.prog 25 4 = some (4, 24) := by kernel_rfl
@[simp] theorem Tb.cm25 : cmpT Tryz.prog 25 = none := by kernel_rfl
@[simp] theorem Tb.sl25 : slT Tryz.prog 25 = none := by kernel_rfl
@[simp] theorem Tb.st25 : isStr Tryz.prog 25 = false := by kernel_rfl
@[simp] theorem Tb.bo25 : isBool Tryz.prog 25 = false := by kernel_rfl
@[simp] theorem Tb.in25 : intT Tryz.prog 25 = none := by kernel_rfl
@[simp] theorem Tb.un25 : (Tryz.prog.underlying 25).isSome = true := by kernel_rfl
@[simp] theorem Tb.zr25 : zrT Tryz.prog 25 = [.int .i64 0, .slice none 0 0, .slice none 0 0, .slice none 0 0, .slice none 0 0] := by kernel_rfl
@[simp] theorem Tb.za25 : (Tryz.prog.info? 25).any (·.zero.isSome) = true := by kernel_rfl
@[simp] theorem Tb.zb25 : ((Tryz.prog.info? 25).bind (·.zero)).isSome = true := by kernel_rfl
@[simp] theorem Tb.el25 : elOK Tryz.prog 25 := elOK_of (by kernel_rfl)
@[simp] theorem Tb.bl25 : bldT Tryz.prog 25 = some ([.int .i64 0, .slice none 0 0, .slice none 0 0, .slice none 0 0, .slice none 0 0], [(0, 1), (1, 1), (2, 1), (3, 1), (4, 1)]) := by kernel_rfl
@[simp] theorem Tb.tk26 : tk Tryz.prog 26 = 2 := by kernel_rfl
@[simp] theorem Tb.sz26 : Program.cellsOf Tryz.prog 26 = 5 := by kernel_rfl
@[simp] theorem Tb.ff26_0 : foff Tryz.prog 26 0 = some (0, 3) := by kernel_rfl
@[simp] theorem Tb.ff26_1 : foff Tryz.prog 26 1 = some (1, 22) := by kernel_rfl
@[simp] theorem Tb.ff26_2 : foff Tryz.prog 26 2 = some (2, 23) := by kernel_rfl
@[simp] theorem Tb.ff26_3 : foff Tryz.prog 26 3 = some (3, 24) := by kernel_rfl
@[simp] theorem Tb.ff26_4 : foff Tryz.prog 26 4 = some (4, 24) := by kernel_rfl
@[simp] theorem Tb.cm26 : cmpT Tryz.prog 26 = none := by kernel_rfl
@[simp] theorem Tb.sl26 : slT Tryz.prog 26 = none := by kernel_rfl
@[simp] theorem Tb.st26 : isStr Tryz.prog 26 = false := by kernel_rfl
@[simp] theorem Tb.bo26 : isBool Tryz.prog 26 = false := by kernel_rfl
@[simp] theorem Tb.in26 : intT Tryz.prog 26 = none := by kernel_rfl
@[simp] theorem Tb.un26 : (Tryz.prog.underlying 26).isSome = true := by kernel_rfl
@[simp] theorem Tb.zr26 : zrT Tryz.prog 26 = [.int .i64 0, .slice none 0 0, .slice none 0 0, .slice none 0 0, .slice none 0 0] := by kernel_rfl
@[simp] theorem Tb.za26 : (Tryz.prog.info? 26).any (·.zero.isSome) = true := by kernel_rfl
@[simp] theorem Tb.zb26 : ((Tryz.prog.info? 26).bind (·.zero)).isSome = true := by kernel_rfl
@[simp] theorem Tb.el26 : elOK Tryz.prog 26 := elOK_of (by kernel_rfl)
@[simp] theorem Tb.bl26 : bldT Tryz.prog 26 = some ([.int .i64 0, .slice none 0 0, .slice none 0 0, .slice none 0 0, .slice none 0 0], [(0, 1), (1, 1), (2, 1), (3, 1), (4, 1)]) := by kernel_rfl
@[simp] theorem Tb.tk30 : tk Tryz.prog 30 = 1 := by kernel_rfl
@[simp] theorem Tb.sz30 : Program.cellsOf Tryz.prog 30 = 1 := by kernel_rfl
@[simp] theorem Tb.sl30 : slT Tryz.prog 30 = none := by kernel_rfl
@[simp] theorem Tb.st30 : isStr Tryz.prog 30 = false := by kernel_rfl
@[simp] theorem Tb.bo30 : isBool Tryz.prog 30 = false := by kernel_rfl
@[simp] theorem Tb.in30 : intT Tryz.prog 30 = some .i64 := by kernel_rfl
@[simp] theorem Tb.un30 : (Tryz.prog.underlying 30).isSome = true := by kernel_rfl
@[simp] theorem Tb.zr30 : zrT Tryz.prog 30 = [.int .i64 0] := by kernel_rfl
@[simp] theorem Tb.za30 : (Tryz.prog.info? 30).any (·.zero.isSome) = true := by kernel_rfl
@[simp] theorem Tb.zb30 : ((Tryz.prog.info? 30).bind (·.zero)).isSome = true := by kernel_rfl
@[simp] theorem Tb.el30 : elOK Tryz.prog 30 := elOK_of (by kernel_rfl)
@[simp] theorem Tb.tk35 : tk Tryz.prog 35 = 1 := by kernel_rfl
@[simp] theorem Tb.sz35 : Program.cellsOf Tryz.prog 35 = 1 := by kernel_rfl
@[simp] theorem Tb.sl35 : slT Tryz.prog 35 = some 67 := by kernel_rfl
@[simp] theorem Tb.st35 : isStr Tryz.prog 35 = false := by kernel_rfl
@[simp] theorem Tb.bo35 : isBool Tryz.prog 35 = false := by kernel_rfl
@[simp] theorem Tb.in35 : intT Tryz.prog 35 = none := by kernel_rfl
@[simp] theorem Tb.un35 : (Tryz.prog.underlying 35).isSome = true := by kernel_rfl
@[simp] theorem Tb.zr35 : zrT Tryz.prog 35 = [.slice none 0 0] := by kernel_rfl
@[simp] theorem Tb.za35 : (Tryz.prog.info? 35).any (·.zero.isSome) = true := by kernel_rfl
@[simp] theorem Tb.zb35 : ((Tryz.prog.info? 35).bind (·.zero)).isSome = true := by kernel_rfl
@[simp] theorem Tb.el35 : elOK Tryz.prog 35 := elOK_of (by kernel_rfl)
@[simp] theorem Tb.tk36 : tk Tryz.prog 36 = 1 := by kernel_rfl
@[simp] theorem Tb.sz36 : Program.cellsOf Tryz.prog 36 = 1 := by kernel_rfl
@[simp] theorem Tb.sl36 : slT Tryz.prog 36 = some 125 := by kernel_rfl
@[simp] theorem Tb.st36 : isStr Tryz.prog 36 = false := by kernel_rfl
@[simp] theorem Tb.bo36 : isBool Tryz.prog 36 = false := by kernel_rfl
@[simp] theorem Tb.in36 : intT Tryz.prog 36 = none := by kernel_rfl
@[simp] theorem Tb.un36 : (Tryz.prog.underlying 36).isSome = true := by kernel_rfl
@[simp] theorem Tb.zr36 : zrT Tryz.prog 36 = [.slice none 0 0] := by kernel_rfl
@[simp] theorem Tb.za36 : (Tryz.prog.info? 36).any (·.zero.isSome) = true := by kernel_rfl
@[simp] theorem Tb.zb36 : ((Tryz.prog.info? 36).bind (·.zero)).isSome = true := by kernel_rfl
@[simp] theorem Tb.el36 : elOK Tryz.prog 36 := elOK_of (by kernel_rfl)
@[simp] theorem Tb.tk37 : tk Tryz.prog 37 = 2 := by kernel_rfl
@[simp] theorem Tb.sz37 : Program.cellsOf Tryz.prog 37 = 2 := by kernel_rfl
@[simp] theorem Tb.ff37_0 : foff Tryz.prog 37 0 = some (0, 35) := by kernel_rfl
@[simp] theorem Tb.ff37_1 : foff Tryz.prog 37 1 = some (1, 36) := by kernel_rfl
@[simp] theorem Tb.cm37 : cmpT Tryz.prog 37 = none := by kernel_rfl
@[simp] theorem Tb.sl37 : slT Tryz.prog 37 = none := by kernel_rfl
@[simp] theorem Tb.st37 : isStr Tryz.prog 37 = false := by kernel_rfl
@[simp] theorem Tb.bo37 : isBool Tryz.prog 37 = false := by kernel_rfl
@[simp] theorem Tb.in37 : intT Tryz.prog 37 = none := by kernel_rfl
@[simp] theorem Tb.un37 : (Tryz.prog.underlying 37).isSome = true := by kernel_rfl
@[simp] theorem Tb.zr37 : zrT Tryz.prog 37 = [.slice none 0 0, .slice none 0 0] := by kernel_rfl
@[simp] theorem Tb.za37 : (Tryz.prog.info? 37).any (·.zero.isSome) = true := by kernel_rfl
@[simp] theorem Tb.zb37 : ((Tryz.prog.info? 37).bind (·.zero)).isSome = true := by kernel_rfl
@[simp] theorem Tb.el37 : elOK Tryz.prog 37 := elOK_of (by kernel_rfl)
@[simp] theorem Tb.bl37 : bldT Tryz.prog 37 = some ([.slice none 0 0, .slice none 0 0], [(0, 1), (1, 1)]) := by kernel_rfl
@[simp] theorem Tb.tk38 : tk Tryz.prog 38 = 2 := by kernel_rfl
@[simp] theorem Tb.sz38 : Program.cellsOf Tryz.prog 38 = 2 := by kernel_rfl
@[simp] theorem Tb.ff38_0 : foff Tryz.prog 38 0 = some (0, 35) := by kernel_rfl
@[simp] theorem Tb.ff38_1 : foff Tryz.prog 38 1 = some (1, 36) := by kernel_rfl
@[simp] theorem Tb.cm38 : cmpT Tryz.prog 38 = none := by kernel_rfl
@[simp] theorem Tb.sl38 : slT Tryz.prog 38 = none := by kernel_rfl
@[simp] theorem Tb.st38 : isStr Tryz.prog 38 = false := by kernel_rfl
@[simp] theorem Tb.bo38 : isBool Tryz.prog 38 = false := by kernel_rfl
@[simp] theorem Tb.in38 : intT Tryz.prog 38 = none := by kernel_rfl
@[simp] theorem Tb.un38 : (Tryz.prog.underlying 38).isSome = true := by kernel_rfl
@[simp] theorem Tb.zr38 : zrT Tryz.prog 38 = [.slice none 0 0, .slice none 0 0] := by kernel_rfl
@[simp] theorem Tb.za38 : (Tryz.prog.info? 38).any (·.zero.isSome) = true := by kernel_rfl
@[simp] theorem Tb.zb38 : ((Tryz.prog.info? 38).bind (·.zero)).isSome = true := by kernel_rfl
@[simp] theorem Tb.el38 : elOK Tryz.prog 38 := elOK_of (by kernel_rfl)
@[simp] theorem Tb.bl38 : bldT Tryz.prog 38 = some ([.slice none 0 0, .slice none 0 0], [(0, 1), (1, 1)]) := by kernel_rfl
@[simp] theorem Tb.tk46 : tk Tryz.prog 46 = 2 := by kernel_rfl
@[simp] theorem Tb.sz46 : Program.cellsOf Tryz.prog 46 = 2 := by kernel_rfl
@[simp] theorem Tb.ff46_0 : foff Tryz.prog 46 0 = some (0, 3) := by kernel_rfl
@[simp] theorem Tb.ff46_1 : foff Tryz.prog 46 1 = some (1, 9) := by kernel_rfl
@[simp] theorem Tb.cm46 : cmpT Tryz.prog 46 = some [.int .i64, .string] := by kernel_rfl
@[simp] theorem Tb.sl46 : slT Tryz.prog 46 = none := by kernel_rfl
@[simp] theorem Tb.st46 : isStr Tryz.prog 46 = false := by kernel_rfl
@[simp] theorem Tb.bo46 : isBool Tryz.prog 46 = false := by kernel_rfl
@[simp] theorem Tb.in46 : intT Tryz.prog 46 = none := by kernel_rfl
@[simp] theorem Tb.un46 : (Tryz.prog.underlying 46).isSome = true := by kernel_rfl
@[simp] theorem Tb.zr46 : zrT Tryz.prog 46 = [.int .i64 0, .string ⟨#[]⟩] := by kernel_rfl
@[simp] theorem Tb.za46 : (Tryz.prog.info? 46).any (·.zero.isSome) = true := by kernel_rfl
@[simp] theorem Tb.zb46 : ((Tryz.prog.info? 46).bind (·.zero)).isSome = true := by kernel_rfl
@[simp] theorem Tb.el46 : elOK Tryz.prog 46 := elOK_of (by kernel_rfl)
@[simp] theorem Tb.bl46 : bldT Tryz.prog 46 = some ([.int .i64 0, .string ⟨#[]⟩], [(0, 1), (1, 1)]) := by kernel_rfl
@[simp] theorem Tb.tk47 : tk Tryz.prog 47 = 2 := by kernel_rfl
@[simp] theorem Tb.sz47 : Program.cellsOf Tryz.prog 47 = 2 := by kernel_rfl
@[simp] theorem Tb.ff47_0 : foff Tryz.prog 47 0 = some (0, 3) := by kernel_rfl
@[simp] theorem Tb.ff47_1 : foff Tryz.prog 47 1 = some (1, 9) := by kernel_rfl
@[simp] theorem Tb.cm47 : cmpT Tryz.prog 47 = some [.int .i64, .string] := by kernel_rfl
@[simp] theorem Tb.sl47 : slT Tryz.prog 47 = none := by kernel_rfl
@[simp] theorem Tb.st47 : isStr Tryz.prog 47 = false := by kernel_rfl
@[simp] theorem Tb.bo47 : isBool Tryz.prog 47 = false := by kernel_rfl
@[simp] theorem Tb.in47 : intT Tryz.prog 47 = none := by kernel_rfl
@[simp] theorem Tb.un47 : (Tryz.prog.underlying 47).isSome = true := by kernel_rfl
@[simp] theorem Tb.zr47 : zrT Tryz.prog 47 = [.int .i64 0, .string ⟨#[]⟩] := by kernel_rfl
@[simp] theorem Tb.za47 : (Tryz.prog.info? 47).any (·.zero.isSome) = true := by kernel_rfl
@[simp] theorem Tb.zb47 : ((Tryz.prog.info? 47).bind (·.zero)).isSome = true := by kernel_rfl
@[simp] theorem Tb.el47 : elOK Tryz.prog 47 := elOK_of (by kernel_rfl)
@[simp] theorem Tb.bl47 : bldT Tryz.prog 47 = some ([.int .i64 0, .string ⟨#[]⟩], [(0, 1), (1, 1)]) := by kernel_rfl
@[simp] theorem Tb.tk58 : tk Tryz.prog 58 = 1 := by kernel_rfl
@[simp] theorem Tb.sz58 : Program.cellsOf Tryz.prog 58 = 1 := by kernel_rfl
@[simp] theorem Tb.sl58 : slT Tryz.prog 58 = some 4 := by kernel_rfl
@[simp] theorem Tb.st58 : isStr Tryz.prog 58 = false := by kernel_rfl
@[simp] theorem Tb.bo58 : isBool Tryz.prog 58 = false := by kernel_rfl
@[simp] theorem Tb.in58 : intT Tryz.prog 58 = none := by kernel_rfl
@[simp] theorem Tb.un58 : (Tryz.prog.underlying 58).isSome = true := by kernel_rfl
@[simp] theorem Tb.zr58 : zrT Tryz.prog 58 = [.slice none 0 0] := by kernel_rfl
@[simp] theorem Tb.za58 : (Tryz.prog.info? 58).any (·.zero.isSome) = true := by kernel_rfl
@[simp] theorem Tb.zb58 : ((Tryz.prog.info? 58).bind (·.zero)).isSome = true := by kernel_rfl
@[simp] theorem Tb.el58 : elOK Tryz.prog 58 := elOK_of (by kernel_rfl)
@[simp] theorem Tb.tk59 : tk Tryz.prog 59 = 2 := by kernel_rfl
@[simp] theorem Tb.sz59 : Program.cellsOf Tryz.prog 59 = 5 := by kernel_rfl
@[simp] theorem Tb.ff59_0 : foff Tryz.prog 59 0 = some (0, 24) := by kernel_rfl
@[simp] theorem Tb.ff59_1 : foff Tryz.prog 59 1 = some (1, 58) := by kernel_rfl
@[simp] theorem Tb.ff59_2 : foff Tryz.prog 59 2 = some (2, 58) := by kernel_rfl
@[simp] theorem Tb.ff59_3 : foff Tryz.prog 59 3 = some (3, 58) := by kernel_rfl
@[simp] theorem Tb.ff59_4 : foff Tryz.prog 59 4 = some (4, 24) := by kernel_rfl
@[simp] theorem Tb.cm59 : cmpT Tryz.prog 59 = none := by kernel_rfl
@[simp] theorem Tb.sl59 : slT Tryz.prog 59 = none := by kernel_rfl
@[simp] theorem Tb.st59 : isStr Tryz.prog 59 = false := by kernel_rfl
@[simp] theorem Tb.bo59 : isBool Tryz.prog 59 = false := by kernel_rfl
@[simp] theorem Tb.in59 : intT Tryz.prog 59 = none := by kernel_rfl
@[simp] theorem Tb.un59 : (Tryz.prog.underlying 59).isSome = true := by kernel_rfl
@[simp] theorem Tb.zr59 : zrT Tryz.prog 59 = [.slice none 0 0, .slice none 0 0, .slice none 0 0, .slice none 0 0, .slice none 0 0] := by kernel_rfl
@[simp] theorem Tb.za59 : (Tryz.prog.info? 59).any (·.zero.isSome) = true := by kernel_rfl
@[simp] theorem Tb.zb59 : ((Tryz.prog.info? 59).bind (·.zero)).isSome = true := by kernel_rfl
@[simp] theorem Tb.el59 : elOK Tryz.prog 59 := elOK_of (by kernel_rfl)
@[simp] theorem Tb.bl59 : bldT Tryz.prog 59 = some ([.slice none 0 0, .slice none 0 0, .slice none 0 0, .slice none 0 0, .slice none 0 0], [(0, 1), (1, 1), (2, 1), (3, 1), (4, 1)]) := by kernel_rfl
@[simp] theorem Tb.tk60 : tk Tryz.prog 60 = 2 := by kernel_rfl
@[simp] theorem Tb.sz60 : Program.cellsOf Tryz.prog 60 = 5 := by kernel_rfl
@[simp] theorem Tb.ff60_0 : foff Tryz.prog 60 0 = some (0, 24) := by kernel_rfl
@[simp] theorem Tb.ff60_1 : foff Tryz.prog 60 1 = some (1, 58) := by kernel_rfl
@[simp] theorem Tb.ff60_2 : foff Tryz.prog 60 2 = some (2, 58) := by kernel_rfl
@[simp] theorem Tb.ff60_3 : foff Tryz.prog 60 3 = some (3, 58) := by kernel_rfl
@[simp] theorem Tb.ff60_4 : foff Tryz.prog 60 4 = some (4, 24) := by kernel_rfl
@[simp] theorem Tb.cm60 : cmpT Tryz.prog 60 = none := by kernel_rfl
@[simp] theorem Tb.sl60 : slT Tryz.prog 60 = none := by kernel_rfl
@[simp] theorem Tb.st60 : isStr Tryz.prog 60 = false := by kernel_rfl
@[simp] theorem Tb.bo60 : isBool Tryz.prog 60 = false := by kernel_rfl
@[simp] theorem Tb.in60 : intT Tryz.prog 60 = none := by kernel_rfl
@[simp] theorem Tb.un60 : (Tryz.prog.underlying 60).isSome = true := by kernel_rfl
@[simp] theorem Tb.zr60 : zrT Tryz.prog 60 = [.slice none 0 0, .slice none 0 0, .slice none 0 0, .slice none 0 0, .slice none 0 0] := by kernel_rfl
@[simp] theorem Tb.za60 : (Tryz.prog.info? 60).any (·.zero.isSome) = true := by kernel_rfl
@[simp] theorem Tb.zb60 : ((Tryz.prog.info? 60).bind (·.zero)).isSome = true := by kernel_rfl
@[simp] theorem Tb.el60 : elOK Tryz.prog 60 := elOK_of (by kernel_rfl)
@[simp] theorem Tb.bl60 : bldT Tryz.prog 60 = some ([.slice none 0 0, .slice none 0 0, .slice none 0 0, .slice none 0 0, .slice none 0 0], [(0, 1), (1, 1), (2, 1), (3, 1), (4, 1)]) := by kernel_rfl
@[simp] theorem Tb.tk66 : tk Tryz.prog 66 = 2 := by kernel_rfl
@[simp] theorem Tb.sz66 : Program.cellsOf Tryz.prog 66 = 3 := by kernel_rfl
@[simp] theorem Tb.ff66_0 : foff Tryz.prog 66 0 = some (0, 3) := by kernel_rfl
@[simp] theorem Tb.ff66_1 : foff Tryz.prog 66 1 = some (1, 9) := by kernel_rfl
@[simp] theorem Tb.ff66_2 : foff Tryz.prog 66 2 = some (2, 3) := by kernel_rfl
@[simp] theorem Tb.cm66 : cmpT Tryz.prog 66 = some [.int .i64, .string, .int .i64] := by kernel_rfl
@[simp] theorem Tb.sl66 : slT Tryz.prog 66 = none := by kernel_rfl
@[simp] theorem Tb.st66 : isStr Tryz.prog 66 = false := by kernel_rfl
@[simp] theorem Tb.bo66 : isBool Tryz.prog 66 = false := by kernel_rfl
@[simp] theorem Tb.in66 : intT Tryz.prog 66 = none := by kernel_rfl
@[simp] theorem Tb.un66 : (Tryz.prog.underlying 66).isSome = true := by kernel_rfl
@[simp] theorem Tb.zr66 : zrT Tryz.prog 66 = [.int .i64 0, .string ⟨#[]⟩, .int .i64 0] := by kernel_rfl
@[simp] theorem Tb.za66 : (Tryz.prog.info? 66).any (·.zero.isSome) = true := by kernel_rfl
@[simp] theorem Tb.zb66 : ((Tryz.prog.info? 66).bind (·.zero)).isSome = true := by kernel_rfl
@[simp] theorem Tb.el66 : elOK Tryz.prog 66 := elOK_of (by kernel_rfl)
@[simp] theorem Tb.bl66 : bldT Tryz.prog 66 = some ([.int .i64 0, .string ⟨#[]⟩, .int .i64 0], [(0, 1), (1, 1), (2, 1)]) := by kernel_rfl
@[simp] theorem Tb.tk67 : tk Tryz.prog 67 = 2 := by kernel_rfl
@[simp] theorem Tb.sz67 : Program.cellsOf Tryz.prog 67 = 3 := by kernel_rfl
@[simp] theorem Tb.ff67_0 : foff Tryz.prog 67 0 = some (0, 3) := by kernel_rfl
@[simp] theorem Tb.ff67_1 : foff Tryz.prog 67 1 = some (1, 9) := by kernel_rfl
@[simp] theorem Tb.ff67_2 : foff Tryz.prog 67 2 = some (2, 3) := by kernel_rfl
@[simp] theorem Tb.cm67 : cmpT Tryz.prog 67 = some [.int .i64, .string, .int .i64] := by kernel_rfl
@[simp] theorem Tb.sl67 : slT Tryz.prog 67 = none := by kernel_rfl
@[simp] theorem Tb.st67 : isStr Tryz.prog 67 = false := by kernel_rfl
@[simp] theorem Tb.bo67 : isBool Tryz.prog 67 = false := by kernel_rfl
@[simp] theorem Tb.in67 : intT Tryz.prog 67 = none := by kernel_rfl
@[simp] theorem Tb.un67 : (Tryz.prog.underlying 67).isSome = true := by kernel_rfl
@[simp] theorem Tb.zr67 : zrT Tryz.prog 67 = [.int .i64 0, .string ⟨#[]⟩, .int .i64 0] := by kernel_rfl
@[simp] theorem Tb.za67 : (Tryz.prog.info? 67).any (·.zero.isSome) = true := by kernel_rfl
@[simp] theorem Tb.zb67 : ((Tryz.prog.info? 67).bind (·.zero)).isSome = true := by kernel_rfl
@[simp] theorem Tb.el67 : elOK Tryz.prog 67 := elOK_of (by kernel_rfl)
@[simp] theorem Tb.bl67 : bldT Tryz.prog 67 = some ([.int .i64 0, .string ⟨#[]⟩, .int .i64 0], [(0, 1), (1, 1), (2, 1)]) := by kernel_rfl
@[simp] theorem Tb.tk70 : tk Tryz.prog 70 = 1 := by kernel_rfl
@[simp] theorem Tb.sz70 : Program.cellsOf Tryz.prog 70 = 1 := by kernel_rfl
@[simp] theorem Tb.sl70 : slT Tryz.prog 70 = some 77 := by kernel_rfl
@[simp] theorem Tb.st70 : isStr Tryz.prog 70 = false := by kernel_rfl
@[simp] theorem Tb.bo70 : isBool Tryz.prog 70 = false := by kernel_rfl
@[simp] theorem Tb.in70 : intT Tryz.prog 70 = none := by kernel_rfl
@[simp] theorem Tb.un70 : (Tryz.prog.underlying 70).isSome = true := by kernel_rfl
@[simp] theorem Tb.zr70 : zrT Tryz.prog 70 = [.slice none 0 0] := by kernel_rfl
@[simp] theorem Tb.za70 : (Tryz.prog.info? 70).any (·.zero.isSome) = true := by kernel_rfl
@[simp] theorem Tb.zb70 : ((Tryz.prog.info? 70).bind (·.zero)).isSome = true := by kernel_rfl
@[simp] theorem Tb.el70 : elOK Tryz.prog 70 := elOK_of (by kernel_rfl)
@[simp] theorem Tb.tk77 : tk Tryz.prog 77 = 1 := by kernel_rfl
@[simp] theorem Tb.sz77 : Program.cellsOf Tryz.prog 77 = 1 := by kernel_rfl
@[simp] theorem Tb.sl77 : slT Tryz.prog 77 = some 47 := by kernel_rfl
@[simp] theorem Tb.st77 : isStr Tryz.prog 77 = false := by kernel_rfl
@[simp] theorem Tb.bo77 : isBool Tryz.prog 77 = false := by kernel_rfl
@[simp] theorem Tb.in77 : intT Tryz.prog 77 = none := by kernel_rfl
@[simp] theorem Tb.un77 : (Tryz.prog.underlying 77).isSome = true := by kernel_rfl
@[simp] theorem Tb.zr77 : zrT Tryz.prog 77 = [.slice none 0 0] := by kernel_rfl
@[simp] theorem Tb.za77 : (Tryz.prog.info? 77).any (·.zero.isSome) = true := by kernel_rfl
@[simp] theorem Tb.zb77 : ((Tryz.prog.info? 77).bind (·.zero)).isSome = true := by kernel_rfl
@[simp] theorem Tb.el77 : elOK Tryz.prog 77 := elOK_of (by kernel_rfl)
@[simp] theorem Tb.tk82 : tk Tryz.prog 82 = 1 := by kernel_rfl
@[simp] theorem Tb.sz82 : Program.cellsOf Tryz.prog 82 = 1 := by kernel_rfl
@[simp] theorem Tb.sl82 : slT Tryz.prog 82 = some 84 := by kernel_rfl
@[simp] theorem Tb.st82 : isStr Tryz.prog 82 = false := by kernel_rfl
@[simp] theorem Tb.bo82 : isBool Tryz.prog 82 = false := by kernel_rfl
@[simp] theorem Tb.in82 : intT Tryz.prog 82 = none := by kernel_rfl
@[simp] theorem Tb.un82 : (Tryz.prog.underlying 82).isSome = true := by kernel_rfl
@[simp] theorem Tb.zr82 : zrT Tryz.prog 82 = [.slice none 0 0] := by kernel_rfl
@[simp] theorem Tb.za82 : (Tryz.prog.info? 82).any (·.zero.isSome) = true := by kernel_rfl
@[simp] theorem Tb.zb82 : ((Tryz.prog.info? 82).bind (·.zero)).isSome = true := by kernel_rfl
@[simp] theorem Tb.el82 : elOK Tryz.prog 82 := elOK_of (by kernel_rfl)
@[simp] theorem Tb.tk83 : tk Tryz.prog 83 = 2 := by kernel_rfl
@[simp] theorem Tb.sz83 : Program.cellsOf Tryz.prog 83 = 3 := by kernel_rfl
@[simp] theorem Tb.ff83_0 : foff Tryz.prog 83 0 = some (0, 3) := by kernel_rfl
@[simp] theorem Tb.ff83_1 : foff Tryz.prog 83 1 = some (1, 3) := by kernel_rfl
@[simp] theorem Tb.ff83_2 : foff Tryz.prog 83 2 = some (2, 82) := by kernel_rfl
@[simp] theorem Tb.cm83 : cmpT Tryz.prog 83 = none := by kernel_rfl
@[simp] theorem Tb.sl83 : slT Tryz.prog 83 = none := by kernel_rfl
@[simp] theorem Tb.st83 : isStr Tryz.prog 83 = false := by kernel_rfl
@[simp] theorem Tb.bo83 : isBool Tryz.prog 83 = false := by kernel_rfl
@[simp] theorem Tb.in83 : intT Tryz.prog 83 = none := by kernel_rfl
@[simp] theorem Tb.un83 : (Tryz.prog.underlying 83).isSome = true := by kernel_rfl
@[simp] theorem Tb.zr83 : zrT Tryz.prog 83 = [.int .i64 0, .int .i64 0, .slice none 0 0] := by kernel_rfl
@[simp] theorem Tb.za83 : (Tryz.prog.info? 83).any (·.zero.isSome) = true := by kernel_rfl
@[simp] theorem Tb.zb83 : ((Tryz.prog.info? 83).bind (·.zero)).isSome = true := by kernel_rfl
@[simp] theorem Tb.el83 : elOK Tryz.prog 83 := elOK_of (by kernel_rfl)
@[simp] theorem Tb.bl83 : bldT Tryz.prog 83 = some ([.int .i64 0, .int .i64 0, .slice none 0 0], [(0, 1), (1, 1), (2, 1)]) := by kernel_rfl
@[simp] theorem Tb.tk84 : tk Tryz.prog 84 = 2 := by kernel_rfl
@[simp] theorem Tb.sz84 : Program.cellsOf Tryz.prog 84 = 3 := by kernel_rfl
@[simp] theorem Tb.ff84_0 : foff Tryz.prog 84 0 = some (0, 3) := by kernel_rfl
@[simp] theorem Tb.ff84_1 : foff Tryz.prog 84 1 = some (1, 3) := by kernel_rfl
@[simp] theorem Tb.ff84_2 : foff Tryz.prog 84 2 = some (2, 82) := by kernel_rfl
@[simp] theorem Tb.cm84 : cmpT Tryz.prog 84 = none := by kernel_rfl
@[simp] theorem Tb.sl84 : slT Tryz.prog 84 = none := by kernel_rfl
@[simp] theorem Tb.st84 : isStr Tryz.prog 84 = false := by kernel_rfl
@[simp] theorem Tb.bo84 : isBool Tryz.prog 84 = false := by kernel_rfl
@[simp] theorem Tb.in84 : intT Tryz.prog 84 = none := by kernel_rfl
@[simp] theorem Tb.un84 : (Tryz.prog.underlying 84).isSome = true := by kernel_rfl
@[simp] theorem Tb.zr84 : zrT Tryz.prog 84 = [.int .i64 0, .int .i64 0, .slice none 0 0] := by kernel_rfl
@[simp] theorem Tb.za84 : (Tryz.prog.info? 84).any (·.zero.isSome) = true := by kernel_rfl
@[simp] theorem Tb.zb84 : ((Tryz.prog.info? 84).bind (·.zero)).isSome = true := by kernel_rfl
@[simp] theorem Tb.el84 : elOK Tryz.prog 84 := elOK_of (by kernel_rfl)
@[simp] theorem Tb.bl84 : bldT Tryz.prog 84 = some ([.int .i64 0, .int .i64 0, .slice none 0 0], [(0, 1), (1, 1), (2, 1)]) := by kernel_rfl
@[simp] theorem Tb.tk85 : tk Tryz.prog 85 = 2 := by kernel_rfl
@[simp] theorem Tb.sz85 : Program.cellsOf Tryz.prog 85 = 10 := by kernel_rfl
@[simp] theorem Tb.ff85_0 : foff Tryz.prog 85 0 = some (0, 9) := by kernel_rfl
@[simp] theorem Tb.ff85_1 : foff Tryz.prog 85 1 = some (1, 3) := by kernel_rfl
@[simp] theorem Tb.ff85_2 : foff Tryz.prog 85 2 = some (2, 84) := by kernel_rfl
@[simp] theorem Tb.ff85_3 : foff Tryz.prog 85 3 = some (5, 84) := by kernel_rfl
@[simp] theorem Tb.ff85_4 : foff Tryz.prog 85 4 = some (8, 3) := by kernel_rfl
@[simp] theorem Tb.ff85_5 : foff Tryz.prog 85 5 = some (9, 4) := by kernel_rfl
@[simp] theorem Tb.cm85 : cmpT Tryz.prog 85 = none := by kernel_rfl
@[simp] theorem Tb.sl85 : slT Tryz.prog 85 = none := by kernel_rfl
@[simp] theorem Tb.st85 : isStr Tryz.prog 85 = false := by kernel_rfl
@[simp] theorem Tb.bo85 : isBool Tryz.prog 85 = false := by kernel_rfl
@[simp] theorem Tb.in85 : intT Tryz.prog 85 = none := by kernel_rfl
@[simp] theorem Tb.un85 : (Tryz.prog.underlying 85).isSome = true := by kernel_rfl
@[simp] theorem Tb.zr85 : zrT Tryz.prog 85 = [.string ⟨#[]⟩, .int .i64 0, .int .i64 0, .int .i64 0, .slice none 0 0, .int .i64 0, .int .i64 0, .slice none 0 0, .int .i64 0, .bool false] := by kernel_rfl
@[simp] theorem Tb.za85 : (Tryz.prog.info? 85).any (·.zero.isSome) = true := by kernel_rfl
@[simp] theorem Tb.zb85 : ((Tryz.prog.info? 85).bind (·.zero)).isSome = true := by kernel_rfl
@[simp] theorem Tb.el85 : elOK Tryz.prog 85 := elOK_of (by kernel_rfl)
@[simp] theorem Tb.bl85 : bldT Tryz.prog 85 = some ([.string ⟨#[]⟩, .int .i64 0, .int .i64 0, .int .i64 0, .slice none 0 0, .int .i64 0, .int .i64 0, .slice none 0 0, .int .i64 0, .bool false], [(0, 1), (1, 1), (2, 3), (5, 3), (8, 1), (9, 1)]) := by kernel_rfl
@[simp] theorem Tb.tk86 : tk Tryz.prog 86 = 2 := by kernel_rfl
@[simp] theorem Tb.sz86 : Program.cellsOf Tryz.prog 86 = 10 := by kernel_rfl
@[simp] theorem Tb.ff86_0 : foff Tryz.prog 86 0 = some (0, 9) := by kernel_rfl
@[simp] theorem Tb.ff86_1 : foff Tryz.prog 86 1 = some (1, 3) := by kernel_rfl
@[simp] theorem Tb.ff86_2 : foff Tryz.prog 86 2 = some (2, 84) := by kernel_rfl
@[simp] theorem Tb.ff86_3 : foff Tryz.prog 86 3 = some (5, 84) := by kernel_rfl
@[simp] theorem Tb.ff86_4 : foff Tryz.prog 86 4 = some (8, 3) := by kernel_rfl
@[simp] theorem Tb.ff86_5 : foff Tryz.prog 86 5 = some (9, 4) := by kernel_rfl
@[simp] theorem Tb.cm86 : cmpT Tryz.prog 86 = none := by kernel_rfl
@[simp] theorem Tb.sl86 : slT Tryz.prog 86 = none := by kernel_rfl
@[simp] theorem Tb.st86 : isStr Tryz.prog 86 = false := by kernel_rfl
@[simp] theorem Tb.bo86 : isBool Tryz.prog 86 = false := by kernel_rfl
@[simp] theorem Tb.in86 : intT Tryz.prog 86 = none := by kernel_rfl
@[simp] theorem Tb.un86 : (Tryz.prog.underlying 86).isSome = true := by kernel_rfl
@[simp] theorem Tb.zr86 : zrT Tryz.prog 86 = [.string ⟨#[]⟩, .int .i64 0, .int .i64 0, .int .i64 0, .slice none 0 0, .int .i64 0, .int .i64 0, .slice none 0 0, .int .i64 0, .bool false] := by kernel_rfl
@[simp] theorem Tb.za86 : (Tryz.prog.info? 86).any (·.zero.isSome) = true := by kernel_rfl
@[simp] theorem Tb.zb86 : ((Tryz.prog.info? 86).bind (·.zero)).isSome = true := by kernel_rfl
@[simp] theorem Tb.el86 : elOK Tryz.prog 86 := elOK_of (by kernel_rfl)
@[simp] theorem Tb.bl86 : bldT Tryz.prog 86 = some ([.string ⟨#[]⟩, .int .i64 0, .int .i64 0, .int .i64 0, .slice none 0 0, .int .i64 0, .int .i64 0, .slice none 0 0, .int .i64 0, .bool false], [(0, 1), (1, 1), (2, 3), (5, 3), (8, 1), (9, 1)]) := by kernel_rfl
@[simp] theorem Tb.tk89 : tk Tryz.prog 89 = 2 := by kernel_rfl
@[simp] theorem Tb.sz89 : Program.cellsOf Tryz.prog 89 = 11 := by kernel_rfl
@[simp] theorem Tb.ff89_0 : foff Tryz.prog 89 0 = some (0, 26) := by kernel_rfl
@[simp] theorem Tb.ff89_1 : foff Tryz.prog 89 1 = some (5, 26) := by kernel_rfl
@[simp] theorem Tb.ff89_2 : foff Tryz.prog 89 2 = some (10, 24) := by kernel_rfl
@[simp] theorem Tb.cm89 : cmpT Tryz.prog 89 = none := by kernel_rfl
@[simp] theorem Tb.sl89 : slT Tryz.prog 89 = none := by kernel_rfl
@[simp] theorem Tb.st89 : isStr Tryz.prog 89 = false := by kernel_rfl
@[simp] theorem Tb.bo89 : isBool Tryz.prog 89 = false := by kernel_rfl
@[simp] theorem Tb.in89 : intT Tryz.prog 89 = none := by kernel_rfl
@[simp] theorem Tb.un89 : (Tryz.prog.underlying 89).isSome = true := by kernel_rfl
@[simp] theorem Tb.zr89 : zrT Tryz.prog 89 = [.int .i64 0, .slice none 0 0, .slice none 0 0, .slice none 0 0, .slice none 0 0, .int .i64 0, .slice none 0 0, .slice none 0 0, .slice none 0 0, .slice none 0 0, .slice none 0 0] := by kernel_rfl
@[simp] theorem Tb.za89 : (Tryz.prog.info? 89).any (·.zero.isSome) = true := by kernel_rfl
@[simp] theorem Tb.zb89 : ((Tryz.prog.info? 89).bind (·.zero)).isSome = true := by kernel_rfl
@[simp] theorem Tb.el89 : elOK Tryz.prog 89 := elOK_of (by kernel_rfl)
@[simp] theorem Tb.bl89 : bldT Tryz.prog 89 = some ([.int .i64 0, .slice none 0 0, .slice none 0 0, .slice none 0 0, .slice none 0 0, .int .i64 0, .slice none 0 0, .slice none 0 0, .slice none 0 0, .slice none 0 0, .slice none 0 0], [(0, 5), (5, 5), (10, 1)]) := by kernel_rfl
@[simp] theorem Tb.tk90 : tk Tryz.prog 90 = 2 := by kernel_rfl
@[simp] theorem Tb.sz90 : Program.cellsOf Tryz.prog 90 = 11 := by kernel_rfl
@[simp] theorem Tb.ff90_0 : foff Tryz.prog 90 0 = some (0, 26) := by kernel_rfl
@[simp] theorem Tb.ff90_1 : foff Tryz.prog 90 1 = some (5, 26) := by kernel_rfl
@[simp] theorem Tb.ff90_2 : foff Tryz.prog 90 2 = some (10, 24) := by kernel_rfl
@[simp] theorem Tb.cm90 : cmpT Tryz.prog 90 = none := by kernel_rfl
@[simp] theorem Tb.sl90 : slT Tryz.prog 90 = none := by kernel_rfl
@[simp] theorem Tb.st90 : isStr Tryz.prog 90 = false := by kernel_rfl
@[simp] theorem Tb.bo90 : isBool Tryz.prog 90 = false := by kernel_rfl
@[simp] theorem Tb.in90 : intT Tryz.prog 90 = none := by kernel_rfl
@[simp] theorem Tb.un90 : (Tryz.prog.underlying 90).isSome = true := by kernel_rfl
@[simp] theorem Tb.zr90 : zrT Tryz.prog 90 = [.int .i64 0, .slice none 0 0, .slice none 0 0, .slice none 0 0, .slice none 0 0, .int .i64 0, .slice none 0 0, .slice none 0 0, .slice none 0 0, .slice none 0 0, .slice none 0 0] := by kernel_rfl
@[simp] theorem Tb.za90 : (Tryz.prog.info? 90).any (·.zero.isSome) = true := by kernel_rfl
@[simp] theorem Tb.zb90 : ((Tryz.prog.info? 90).bind (·.zero)).isSome = true := by kernel_rfl
@[simp] theorem Tb.el90 : elOK Tryz.prog 90 := elOK_of (by kernel_rfl)
@[simp] theorem Tb.bl90 : bldT Tryz.prog 90 = some ([.int .i64 0, .slice none 0 0, .slice none 0 0, .slice none 0 0, .slice none 0 0, .int .i64 0, .slice none 0 0, .slice none 0 0, .slice none 0 0, .slice none 0 0, .slice none 0 0], [(0, 5), (5, 5), (10, 1)]) := by kernel_rfl
@[simp] theorem Tb.tk103 : tk Tryz.prog 103 = 1 := by kernel_rfl
@[simp] theorem Tb.sz103 : Program.cellsOf Tryz.prog 103 = 1 := by kernel_rfl
@[simp] theorem Tb.sl103 : slT Tryz.prog 103 = none := by kernel_rfl
@[simp] theorem Tb.st103 : isStr Tryz.prog 103 = false := by kernel_rfl
@[simp] theorem Tb.bo103 : isBool Tryz.prog 103 = false := by kernel_rfl
@[simp] theorem Tb.in103 : intT Tryz.prog 103 = none := by kernel_rfl
@[simp] theorem Tb.un103 : (Tryz.prog.underlying 103).isSome = true := by kernel_rfl
@[simp] theorem Tb.zr103 : zrT Tryz.prog 103 = [.pointer none] := by kernel_rfl
@[simp] theorem Tb.za103 : (Tryz.prog.info? 103).any (·.zero.isSome) = true := by kernel_rfl
@[simp] theorem Tb.zb103 : ((Tryz.prog.info? 103).bind (·.zero)).isSome = true := by kernel_rfl
@[simp] theorem Tb.el103 : elOK Tryz.prog 103 := elOK_of (by kernel_rfl)
@[simp] theorem Tb.tk106 : tk Tryz.prog 106 = 1 := by kernel_rfl
@[simp] theorem Tb.sz106 : Program.cellsOf Tryz.prog 106 = 1 := by kernel_rfl
@[simp] theorem Tb.sl106 : slT Tryz.prog 106 = some 137 := by kernel_rfl
@[simp] theorem Tb.st106 : isStr Tryz.prog 106 = false := by kernel_rfl
@[simp] theorem Tb.bo106 : isBool Tryz.prog 106 = false := by kernel_rfl
@[simp] theorem Tb.in106 : intT Tryz.prog 106 = none := by kernel_rfl
@[simp] theorem Tb.un106 : (Tryz.prog.underlying 106).isSome = true := by kernel_rfl
@[simp] theorem Tb.zr106 : zrT Tryz.prog 106 = [.slice none 0 0] := by kernel_rfl
@[simp] theorem Tb.za106 : (Tryz.prog.info? 106).any (·.zero.isSome) = true := by kernel_rfl
@[simp] theorem Tb.zb106 : ((Tryz.prog.info? 106).bind (·.zero)).isSome = true := by kernel_rfl
@[simp] theorem Tb.el106 : elOK Tryz.prog 106 := elOK_of (by kernel_rfl)
@[simp] theorem Tb.tk107 : tk Tryz.prog 107 = 1 := by kernel_rfl
@[simp] theorem Tb.sz107 : Program.cellsOf Tryz.prog 107 = 1 := by kernel_rfl
@[simp] theorem Tb.sl107 : slT Tryz.prog 107 = some 186 := by kernel_rfl
@[simp] theorem Tb.st107 : isStr Tryz.prog 107 = false := by kernel_rfl
@[simp] theorem Tb.bo107 : isBool Tryz.prog 107 = false := by kernel_rfl
@[simp] theorem Tb.in107 : intT Tryz.prog 107 = none := by kernel_rfl
@[simp] theorem Tb.un107 : (Tryz.prog.underlying 107).isSome = true := by kernel_rfl
@[simp] theorem Tb.zr107 : zrT Tryz.prog 107 = [.slice none 0 0] := by kernel_rfl
@[simp] theorem Tb.za107 : (Tryz.prog.info? 107).any (·.zero.isSome) = true := by kernel_rfl
@[simp] theorem Tb.zb107 : ((Tryz.prog.info? 107).bind (·.zero)).isSome = true := by kernel_rfl
@[simp] theorem Tb.el107 : elOK Tryz.prog 107 := elOK_of (by kernel_rfl)
@[simp] theorem Tb.tk108 : tk Tryz.prog 108 = 1 := by kernel_rfl
@[simp] theorem Tb.sz108 : Program.cellsOf Tryz.prog 108 = 1 := by kernel_rfl
@[simp] theorem Tb.sl108 : slT Tryz.prog 108 = none := by kernel_rfl
@[simp] theorem Tb.mp108 : mpT Tryz.prog 108 = none := by kernel_rfl
@[simp] theorem Tb.ms108 : msT Tryz.prog 108 = some (.int .i64, [.str [], .str []]) := by kernel_rfl
@[simp] theorem Tb.st108 : isStr Tryz.prog 108 = false := by kernel_rfl
@[simp] theorem Tb.bo108 : isBool Tryz.prog 108 = false := by kernel_rfl
@[simp] theorem Tb.in108 : intT Tryz.prog 108 = none := by kernel_rfl
@[simp] theorem Tb.un108 : (Tryz.prog.underlying 108).isSome = true := by kernel_rfl
@[simp] theorem Tb.zr108 : zrT Tryz.prog 108 = [.map none] := by kernel_rfl
@[simp] theorem Tb.za108 : (Tryz.prog.info? 108).any (·.zero.isSome) = true := by kernel_rfl
@[simp] theorem Tb.zb108 : ((Tryz.prog.info? 108).bind (·.zero)).isSome = true := by kernel_rfl
@[simp] theorem Tb.el108 : elOK Tryz.prog 108 := elOK_of (by kernel_rfl)
@[simp] theorem Tb.tk109 : tk Tryz.prog 109 = 1 := by kernel_rfl
@[simp] theorem Tb.sz109 : Program.cellsOf Tryz.prog 109 = 1 := by kernel_rfl
@[simp] theorem Tb.sl109 : slT Tryz.prog 109 = none := by kernel_rfl
@[simp] theorem Tb.st109 : isStr Tryz.prog 109 = false := by kernel_rfl
@[simp] theorem Tb.bo109 : isBool Tryz.prog 109 = false := by kernel_rfl
@[simp] theorem Tb.in109 : intT Tryz.prog 109 = none := by kernel_rfl
@[simp] theorem Tb.un109 : (Tryz.prog.underlying 109).isSome = true := by kernel_rfl
@[simp] theorem Tb.zr109 : zrT Tryz.prog 109 = [.nilFunc] := by kernel_rfl
@[simp] theorem Tb.za109 : (Tryz.prog.info? 109).any (·.zero.isSome) = true := by kernel_rfl
@[simp] theorem Tb.zb109 : ((Tryz.prog.info? 109).bind (·.zero)).isSome = true := by kernel_rfl
@[simp] theorem Tb.el109 : elOK Tryz.prog 109 := elOK_of (by kernel_rfl)
@[simp] theorem Tb.tk110 : tk Tryz.prog 110 = 2 := by kernel_rfl
@[simp] theorem Tb.sz110 : Program.cellsOf Tryz.prog 110 = 5 := by kernel_rfl
@[simp] theorem Tb.sl110 : slT Tryz.prog 110 = none := by kernel_rfl
@[simp] theorem Tb.ar110 : arT Tryz.prog 110 = some (5, 109) := by kernel_rfl
@[simp] theorem Tb.st110 : isStr Tryz.prog 110 = false := by kernel_rfl
@[simp] theorem Tb.bo110 : isBool Tryz.prog 110 = false := by kernel_rfl
@[simp] theorem Tb.in110 : intT Tryz.prog 110 = none := by kernel_rfl
@[simp] theorem Tb.un110 : (Tryz.prog.underlying 110).isSome = true := by kernel_rfl
@[simp] theorem Tb.zr110 : zrT Tryz.prog 110 = [.nilFunc, .nilFunc, .nilFunc, .nilFunc, .nilFunc] := by kernel_rfl
@[simp] theorem Tb.za110 : (Tryz.prog.info? 110).any (·.zero.isSome) = true := by kernel_rfl
@[simp] theorem Tb.zb110 : ((Tryz.prog.info? 110).bind (·.zero)).isSome = true := by kernel_rfl
@[simp] theorem Tb.el110 : elOK Tryz.prog 110 := elOK_of (by kernel_rfl)
@[simp] theorem Tb.bl110 : bldT Tryz.prog 110 = some ([.nilFunc, .nilFunc, .nilFunc, .nilFunc, .nilFunc], [(0, 1), (1, 1), (2, 1), (3, 1), (4, 1)]) := by kernel_rfl
@[simp] theorem Tb.tk111 : tk Tryz.prog 111 = 2 := by kernel_rfl
@[simp] theorem Tb.sz111 : Program.cellsOf Tryz.prog 111 = 15 := by kernel_rfl
@[simp] theorem Tb.ff111_0 : foff Tryz.prog 111 0 = some (0, 26) := by kernel_rfl
@[simp] theorem Tb.ff111_1 : foff Tryz.prog 111 1 = some (5, 106) := by kernel_rfl
@[simp] theorem Tb.ff111_2 : foff Tryz.prog 111 2 = some (6, 107) := by kernel_rfl
@[simp] theorem Tb.ff111_3 : foff Tryz.prog 111 3 = some (7, 3) := by kernel_rfl
@[simp] theorem Tb.ff111_4 : foff Tryz.prog 111 4 = some (8, 3) := by kernel_rfl
@[simp] theorem Tb.ff111_5 : foff Tryz.prog 111 5 = some (9, 108) := by kernel_rfl
@[simp] theorem Tb.ff111_6 : foff Tryz.prog 111 6 = some (10, 110) := by kernel_rfl
@[simp] theorem Tb.cm111 : cmpT Tryz.prog 111 = none := by kernel_rfl
@[simp] theorem Tb.sl111 : slT Tryz.prog 111 = none := by kernel_rfl
@[simp] theorem Tb.st111 : isStr Tryz.prog 111 = false := by kernel_rfl
@[simp] theorem Tb.bo111 : isBool Tryz.prog 111 = false := by kernel_rfl
@[simp] theorem Tb.in111 : intT Tryz.prog 111 = none := by kernel_rfl
@[simp] theorem Tb.un111 : (Tryz.prog.underlying 111).isSome = true := by kernel_rfl
@[simp] theorem Tb.zr111 : zrT Tryz.prog 111 = [.int .i64 0, .slice none 0 0, .slice none 0 0, .slice none 0 0, .slice none 0 0, .slice none 0 0, .slice none 0 0, .int .i64 0, .int .i64 0, .map none, .nilFunc, .nilFunc, .nilFunc, .nilFunc, .nilFunc] := by kernel_rfl
@[simp] theorem Tb.za111 : (Tryz.prog.info? 111).any (·.zero.isSome) = true := by kernel_rfl
@[simp] theorem Tb.zb111 : ((Tryz.prog.info? 111).bind (·.zero)).isSome = true := by kernel_rfl
@[simp] theorem Tb.el111 : elOK Tryz.prog 111 := elOK_of (by kernel_rfl)
@[simp] theorem Tb.bl111 : bldT Tryz.prog 111 = some ([.int .i64 0, .slice none 0 0, .slice none 0 0, .slice none 0 0, .slice none 0 0, .slice none 0 0, .slice none 0 0, .int .i64 0, .int .i64 0, .map none, .nilFunc, .nilFunc, .nilFunc, .nilFunc, .nilFunc], [(0, 5), (5, 1), (6, 1), (7, 1), (8, 1), (9, 1), (10, 5)]) := by kernel_rfl
@[simp] theorem Tb.tk112 : tk Tryz.prog 112 = 2 := by kernel_rfl
@[simp] theorem Tb.sz112 : Program.cellsOf Tryz.prog 112 = 15 := by kernel_rfl
@[simp] theorem Tb.ff112_0 : foff Tryz.prog 112 0 = some (0, 26) := by kernel_rfl
@[simp] theorem Tb.ff112_1 : foff Tryz.prog 112 1 = some (5, 106) := by kernel_rfl
@[simp] theorem Tb.ff112_2 : foff Tryz.prog 112 2 = some (6, 107) := by kernel_rfl
@[simp] theorem Tb.ff112_3 : foff Tryz.prog 112 3 = some (7, 3) := by kernel_rfl
@[simp] theorem Tb.ff112_4 : foff Tryz.prog 112 4 = some (8, 3) := by kernel_rfl
@[simp] theorem Tb.ff112_5 : foff Tryz.prog 112 5 = some (9, 108) := by kernel_rfl
@[simp] theorem Tb.ff112_6 : foff Tryz.prog 112 6 = some (10, 110) := by kernel_rfl
@[simp] theorem Tb.cm112 : cmpT Tryz.prog 112 = none := by kernel_rfl
@[simp] theorem Tb.sl112 : slT Tryz.prog 112 = none := by kernel_rfl
@[simp] theorem Tb.st112 : isStr Tryz.prog 112 = false := by kernel_rfl
@[simp] theorem Tb.bo112 : isBool Tryz.prog 112 = false := by kernel_rfl
@[simp] theorem Tb.in112 : intT Tryz.prog 112 = none := by kernel_rfl
@[simp] theorem Tb.un112 : (Tryz.prog.underlying 112).isSome = true := by kernel_rfl
@[simp] theorem Tb.zr112 : zrT Tryz.prog 112 = [.int .i64 0, .slice none 0 0, .slice none 0 0, .slice none 0 0, .slice none 0 0, .slice none 0 0, .slice none 0 0, .int .i64 0, .int .i64 0, .map none, .nilFunc, .nilFunc, .nilFunc, .nilFunc, .nilFunc] := by kernel_rfl
@[simp] theorem Tb.za112 : (Tryz.prog.info? 112).any (·.zero.isSome) = true := by kernel_rfl
@[simp] theorem Tb.zb112 : ((Tryz.prog.info? 112).bind (·.zero)).isSome = true := by kernel_rfl
@[simp] theorem Tb.el112 : elOK Tryz.prog 112 := elOK_of (by kernel_rfl)
@[simp] theorem Tb.bl112 : bldT Tryz.prog 112 = some ([.int .i64 0, .slice none 0 0, .slice none 0 0, .slice none 0 0, .slice none 0 0, .slice none 0 0, .slice none 0 0, .int .i64 0, .int .i64 0, .map none, .nilFunc, .nilFunc, .nilFunc, .nilFunc, .nilFunc], [(0, 5), (5, 1), (6, 1), (7, 1), (8, 1), (9, 1), (10, 5)]) := by kernel_rfl
@[simp] theorem Tb.tk115 : tk Tryz.prog 115 = 1 := by kernel_rfl
@[simp] theorem Tb.sz115 : Program.cellsOf Tryz.prog 115 = 1 := by kernel_rfl
@[simp] theorem Tb.sl115 : slT Tryz.prog 115 = some 139 := by kernel_rfl
@[simp] theorem Tb.st115 : isStr Tryz.prog 115 = false := by kernel_rfl
@[simp] theorem Tb.bo115 : isBool Tryz.prog 115 = false := by kernel_rfl
@[simp] theorem Tb.in115 : intT Tryz.prog 115 = none := by kernel_rfl
@[simp] theorem Tb.un115 : (Tryz.prog.underlying 115).isSome = true := by kernel_rfl
@[simp] theorem Tb.zr115 : zrT Tryz.prog 115 = [.slice none 0 0] := by kernel_rfl
@[simp] theorem Tb.za115 : (Tryz.prog.info? 115).any (·.zero.isSome) = true := by kernel_rfl
@[simp] theorem Tb.zb115 : ((Tryz.prog.info? 115).bind (·.zero)).isSome = true := by kernel_rfl
@[simp] theorem Tb.el115 : elOK Tryz.prog 115 := elOK_of (by kernel_rfl)
@[simp] theorem Tb.tk116 : tk Tryz.prog 116 = 1 := by kernel_rfl
@[simp] theorem Tb.sz116 : Program.cellsOf Tryz.prog 116 = 1 := by kernel_rfl
@[simp] theorem Tb.sl116 : slT Tryz.prog 116 = some 190 := by kernel_rfl
@[simp] theorem Tb.st116 : isStr Tryz.prog 116 = false := by kernel_rfl
@[simp] theorem Tb.bo116 : isBool Tryz.prog 116 = false := by kernel_rfl
@[simp] theorem Tb.in116 : intT Tryz.prog 116 = none := by kernel_rfl
@[simp] theorem Tb.un116 : (Tryz.prog.underlying 116).isSome = true := by kernel_rfl
@[simp] theorem Tb.zr116 : zrT Tryz.prog 116 = [.slice none 0 0] := by kernel_rfl
@[simp] theorem Tb.za116 : (Tryz.prog.info? 116).any (·.zero.isSome) = true := by kernel_rfl
@[simp] theorem Tb.zb116 : ((Tryz.prog.info? 116).bind (·.zero)).isSome = true := by kernel_rfl
@[simp] theorem Tb.el116 : elOK Tryz.prog 116 := elOK_of (by kernel_rfl)
@[simp] theorem Tb.tk117 : tk Tryz.prog 117 = 1 := by kernel_rfl
@[simp] theorem Tb.sz117 : Program.cellsOf Tryz.prog 117 = 1 := by kernel_rfl
@[simp] theorem Tb.sl117 : slT Tryz.prog 117 = some 132 := by kernel_rfl
@[simp] theorem Tb.st117 : isStr Tryz.prog 117 = false := by kernel_rfl
@[simp] theorem Tb.bo117 : isBool Tryz.prog 117 = false := by kernel_rfl
@[simp] theorem Tb.in117 : intT Tryz.prog 117 = none := by kernel_rfl
@[simp] theorem Tb.un117 : (Tryz.prog.underlying 117).isSome = true := by kernel_rfl
@[simp] theorem Tb.zr117 : zrT Tryz.prog 117 = [.slice none 0 0] := by kernel_rfl
@[simp] theorem Tb.za117 : (Tryz.prog.info? 117).any (·.zero.isSome) = true := by kernel_rfl
@[simp] theorem Tb.zb117 : ((Tryz.prog.info? 117).bind (·.zero)).isSome = true := by kernel_rfl
@[simp] theorem Tb.el117 : elOK Tryz.prog 117 := elOK_of (by kernel_rfl)
@[simp] theorem Tb.tk118 : tk Tryz.prog 118 = 2 := by kernel_rfl
@[simp] theorem Tb.sz118 : Program.cellsOf Tryz.prog 118 = 4 := by kernel_rfl
@[simp] theorem Tb.ff118_0 : foff Tryz.prog 118 0 = some (0, 115) := by kernel_rfl
@[simp] theorem Tb.ff118_1 : foff Tryz.prog 118 1 = some (1, 116) := by kernel_rfl
@[simp] theorem Tb.ff118_2 : foff Tryz.prog 118 2 = some (2, 117) := by kernel_rfl
@[simp] theorem Tb.ff118_3 : foff Tryz.prog 118 3 = some (3, 3) := by kernel_rfl
@[simp] theorem Tb.cm118 : cmpT Tryz.prog 118 = none := by kernel_rfl
@[simp] theorem Tb.sl118 : slT Tryz.prog 118 = none := by kernel_rfl
@[simp] theorem Tb.st118 : isStr Tryz.prog 118 = false := by kernel_rfl
@[simp] theorem Tb.bo118 : isBool Tryz.prog 118 = false := by kernel_rfl
@[simp] theorem Tb.in118 : intT Tryz.prog 118 = none := by kernel_rfl
@[simp] theorem Tb.un118 : (Tryz.prog.underlying 118).isSome = true := by kernel_rfl
@[simp] theorem Tb.zr118 : zrT Tryz.prog 118 = [.slice none 0 0, .slice none 0 0, .slice none 0 0, .int .i64 0] := by kernel_rfl
@[simp] theorem Tb.za118 : (Tryz.prog.info? 118).any (·.zero.isSome) = true := by kernel_rfl
@[simp] theorem Tb.zb118 : ((Tryz.prog.info? 118).bind (·.zero)).isSome = true := by kernel_rfl
@[simp] theorem Tb.el118 : elOK Tryz.prog 118 := elOK_of (by kernel_rfl)
@[simp] theorem Tb.bl118 : bldT Tryz.prog 118 = some ([.slice none 0 0, .slice none 0 0, .slice none 0 0, .int .i64 0], [(0, 1), (1, 1), (2, 1), (3, 1)]) := by kernel_rfl
@[simp] theorem Tb.tk119 : tk Tryz.prog 119 = 2 := by kernel_rfl
@[simp] theorem Tb.sz119 : Program.cellsOf Tryz.prog 119 = 4 := by kernel_rfl
@[simp] theorem Tb.ff119_0 : foff Tryz.prog 119 0 = some (0, 115) := by kernel_rfl
@[simp] theorem Tb.ff119_1 : foff Tryz.prog 119 1 = some (1, 116) := by kernel_rfl
@[simp] theorem Tb.ff119_2 : foff Tryz.prog 119 2 = some (2, 117) := by kernel_rfl
@[simp] theorem Tb.ff119_3 : foff Tryz.prog 119 3 = some (3, 3) := by kernel_rfl
@[simp] theorem Tb.cm119 : cmpT Tryz.prog 119 = none := by kernel_rfl
@[simp] theorem Tb.sl119 : slT Tryz.prog 119 = none := by kernel_rfl
@[simp] theorem Tb.st119 : isStr Tryz.prog 119 = false := by kernel_rfl
@[simp] theorem Tb.bo119 : isBool Tryz.prog 119 = false := by kernel_rfl
@[simp] theorem Tb.in119 : intT Tryz.prog 119 = none := by kernel_rfl
@[simp] theorem Tb.un119 : (Tryz.prog.underlying 119).isSome = true := by kernel_rfl
@[simp] theorem Tb.zr119 : zrT Tryz.prog 119 = [.slice none 0 0, .slice none 0 0, .slice none 0 0, .int .i64 0] := by kernel_rfl
@[simp] theorem Tb.za119 : (Tryz.prog.info? 119).any (·.zero.isSome) = true := by kernel_rfl
@[simp] theorem Tb.zb119 : ((Tryz.prog.info? 119).bind (·.zero)).isSome = true := by kernel_rfl
@[simp] theorem Tb.el119 : elOK Tryz.prog 119 := elOK_of (by kernel_rfl)
@[simp] theorem Tb.bl119 : bldT Tryz.prog 119 = some ([.slice none 0 0, .slice none 0 0, .slice none 0 0, .int .i64 0], [(0, 1), (1, 1), (2, 1), (3, 1)]) := by kernel_rfl
@[simp] theorem Tb.tk124 : tk Tryz.prog 124 = 2 := by kernel_rfl
@[simp] theorem Tb.sz124 : Program.cellsOf Tryz.prog 124 = 4 := by kernel_rfl
@[simp] theorem Tb.ff124_0 : foff Tryz.prog 124 0 = some (0, 47) := by kernel_rfl
@[simp] theorem Tb.ff124_1 : foff Tryz.prog 124 1 = some (2, 47) := by kernel_rfl
@[simp] theorem Tb.cm124 : cmpT Tryz.prog 124 = some [.int .i64, .string, .int .i64, .string] := by kernel_rfl
@[simp] theorem Tb.sl124 : slT Tryz.prog 124 = none := by kernel_rfl
@[simp] theorem Tb.st124 : isStr Tryz.prog 124 = false := by kernel_rfl
@[simp] theorem Tb.bo124 : isBool Tryz.prog 124 = false := by kernel_rfl
@[simp] theorem Tb.in124 : intT Tryz.prog 124 = none := by kernel_rfl
@[simp] theorem Tb.un124 : (Tryz.prog.underlying 124).isSome = true := by kernel_rfl
@[simp] theorem Tb.zr124 : zrT Tryz.prog 124 = [.int .i64 0, .string ⟨#[]⟩, .int .i64 0, .string ⟨#[]⟩] := by kernel_rfl
@[simp] theorem Tb.za124 : (Tryz.prog.info? 124).any (·.zero.isSome) = true := by kernel_rfl
@[simp] theorem Tb.zb124 : ((Tryz.prog.info? 124).bind (·.zero)).isSome = true := by kernel_rfl
@[simp] theorem Tb.el124 : elOK Tryz.prog 124 := elOK_of (by kernel_rfl)
@[simp] theorem Tb.bl124 : bldT Tryz.prog 124 = some ([.int .i64 0, .string ⟨#[]⟩, .int .i64 0, .string ⟨#[]⟩], [(0, 2), (2, 2)]) := by kernel_rfl
@[simp] theorem Tb.tk125 : tk Tryz.prog 125 = 2 := by kernel_rfl
@[simp] theorem Tb.sz125 : Program.cellsOf Tryz.prog 125 = 4 := by kernel_rfl
@[simp] theorem Tb.ff125_0 : foff Tryz.prog 125 0 = some (0, 47) := by kernel_rfl
@[simp] theorem Tb.ff125_1 : foff Tryz.prog 125 1 = some (2, 47) := by kernel_rfl
@[simp] theorem Tb.cm125 : cmpT Tryz.prog 125 = some [.int .i64, .string, .int .i64, .string] := by kernel_rfl
@[simp] theorem Tb.sl125 : slT Tryz.prog 125 = none := by kernel_rfl
@[simp] theorem Tb.st125 : isStr Tryz.prog 125 = false := by kernel_rfl
@[simp] theorem Tb.bo125 : isBool Tryz.prog 125 = false := by kernel_rfl
@[simp] theorem Tb.in125 : intT Tryz.prog 125 = none := by kernel_rfl
@[simp] theorem Tb.un125 : (Tryz.prog.underlying 125).isSome = true := by kernel_rfl
@[simp] theorem Tb.zr125 : zrT Tryz.prog 125 = [.int .i64 0, .string ⟨#[]⟩, .int .i64 0, .string ⟨#[]⟩] := by kernel_rfl
@[simp] theorem Tb.za125 : (Tryz.prog.info? 125).any (·.zero.isSome) = true := by kernel_rfl
@[simp] theorem Tb.zb125 : ((Tryz.prog.info? 125).bind (·.zero)).isSome = true := by kernel_rfl
@[simp] theorem Tb.el125 : elOK Tryz.prog 125 := elOK_of (by kernel_rfl)
@[simp] theorem Tb.bl125 : bldT Tryz.prog 125 = some ([.int .i64 0, .string ⟨#[]⟩, .int .i64 0, .string ⟨#[]⟩], [(0, 2), (2, 2)]) := by kernel_rfl
@[simp] theorem Tb.tk127 : tk Tryz.prog 127 = 2 := by kernel_rfl
@[simp] theorem Tb.sz127 : Program.cellsOf Tryz.prog 127 = 2 := by kernel_rfl
@[simp] theorem Tb.ff127_0 : foff Tryz.prog 127 0 = some (0, 9) := by kernel_rfl
@[simp] theorem Tb.ff127_1 : foff Tryz.prog 127 1 = some (1, 9) := by kernel_rfl
@[simp] theorem Tb.cm127 : cmpT Tryz.prog 127 = some [.string, .string] := by kernel_rfl
@[simp] theorem Tb.sl127 : slT Tryz.prog 127 = none := by kernel_rfl
@[simp] theorem Tb.st127 : isStr Tryz.prog 127 = false := by kernel_rfl
@[simp] theorem Tb.bo127 : isBool Tryz.prog 127 = false := by kernel_rfl
@[simp] theorem Tb.in127 : intT Tryz.prog 127 = none := by kernel_rfl
@[simp] theorem Tb.un127 : (Tryz.prog.underlying 127).isSome = true := by kernel_rfl
@[simp] theorem Tb.zr127 : zrT Tryz.prog 127 = [.string ⟨#[]⟩, .string ⟨#[]⟩] := by kernel_rfl
@[simp] theorem Tb.za127 : (Tryz.prog.info? 127).any (·.zero.isSome) = true := by kernel_rfl
@[simp] theorem Tb.zb127 : ((Tryz.prog.info? 127).bind (·.zero)).isSome = true := by kernel_rfl
@[simp] theorem Tb.el127 : elOK Tryz.prog 127 := elOK_of (by kernel_rfl)
@[simp] theorem Tb.bl127 : bldT Tryz.prog 127 = some ([.string ⟨#[]⟩, .string ⟨#[]⟩], [(0, 1), (1, 1)]) := by kernel_rfl
@[simp] theorem Tb.tk128 : tk Tryz.prog 128 = 2 := by kernel_rfl
@[simp] theorem Tb.sz128 : Program.cellsOf Tryz.prog 128 = 2 := by kernel_rfl
@[simp] theorem Tb.ff128_0 : foff Tryz.prog 128 0 = some (0, 9) := by kernel_rfl
@[simp] theorem Tb.ff128_1 : foff Tryz.prog 128 1 = some (1, 9) := by kernel_rfl
@[simp] theorem Tb.cm128 : cmpT Tryz.prog 128 = some [.string, .string] := by kernel_rfl
@[simp] theorem Tb.sl128 : slT Tryz.prog 128 = none := by kernel_rfl
@[simp] theorem Tb.st128 : isStr Tryz.prog 128 = false := by kernel_rfl
@[simp] theorem Tb.bo128 : isBool Tryz.prog 128 = false := by kernel_rfl
@[simp] theorem Tb.in128 : intT Tryz.prog 128 = none := by kernel_rfl
@[simp] theorem Tb.un128 : (Tryz.prog.underlying 128).isSome = true := by kernel_rfl
@[simp] theorem Tb.zr128 : zrT Tryz.prog 128 = [.string ⟨#[]⟩, .string ⟨#[]⟩] := by kernel_rfl
@[simp] theorem Tb.za128 : (Tryz.prog.info? 128).any (·.zero.isSome) = true := by kernel_rfl
@[simp] theorem Tb.zb128 : ((Tryz.prog.info? 128).bind (·.zero)).isSome = true := by kernel_rfl
@[simp] theorem Tb.el128 : elOK Tryz.prog 128 := elOK_of (by kernel_rfl)
@[simp] theorem Tb.bl128 : bldT Tryz.prog 128 = some ([.string ⟨#[]⟩, .string ⟨#[]⟩], [(0, 1), (1, 1)]) := by kernel_rfl
@[simp] theorem Tb.tk131 : tk Tryz.prog 131 = 2 := by kernel_rfl
@[simp] theorem Tb.sz131 : Program.cellsOf Tryz.prog 131 = 2 := by kernel_rfl
@[simp] theorem Tb.ff131_0 : foff Tryz.prog 131 0 = some (0, 9) := by kernel_rfl
@[simp] theorem Tb.ff131_1 : foff Tryz.prog 131 1 = some (1, 9) := by kernel_rfl
@[simp] theorem Tb.cm131 : cmpT Tryz.prog 131 = some [.string, .string] := by kernel_rfl
@[simp] theorem Tb.sl131 : slT Tryz.prog 131 = none := by kernel_rfl
@[simp] theorem Tb.st131 : isStr Tryz.prog 131 = false := by kernel_rfl
@[simp] theorem Tb.bo131 : isBool Tryz.prog 131 = false := by kernel_rfl
@[simp] theorem Tb.in131 : intT Tryz.prog 131 = none := by kernel_rfl
@[simp] theorem Tb.un131 : (Tryz.prog.underlying 131).isSome = true := by kernel_rfl
@[simp] theorem Tb.zr131 : zrT Tryz.prog 131 = [.string ⟨#[]⟩, .string ⟨#[]⟩] := by kernel_rfl
@[simp] theorem Tb.za131 : (Tryz.prog.info? 131).any (·.zero.isSome) = true := by kernel_rfl
@[simp] theorem Tb.zb131 : ((Tryz.prog.info? 131).bind (·.zero)).isSome = true := by kernel_rfl
@[simp] theorem Tb.el131 : elOK Tryz.prog 131 := elOK_of (by kernel_rfl)
@[simp] theorem Tb.bl131 : bldT Tryz.prog 131 = some ([.string ⟨#[]⟩, .string ⟨#[]⟩], [(0, 1), (1, 1)]) := by kernel_rfl
@[simp] theorem Tb.tk132 : tk Tryz.prog 132 = 2 := by kernel_rfl
@[simp] theorem Tb.sz132 : Program.cellsOf Tryz.prog 132 = 2 := by kernel_rfl
@[simp] theorem Tb.ff132_0 : foff Tryz.prog 132 0 = some (0, 9) := by kernel_rfl
@[simp] theorem Tb.ff132_1 : foff Tryz.prog 132 1 = some (1, 9) := by kernel_rfl
@[simp] theorem Tb.cm132 : cmpT Tryz.prog 132 = some [.string, .string] := by kernel_rfl
@[simp] theorem Tb.sl132 : slT Tryz.prog 132 = none := by kernel_rfl
@[simp] theorem Tb.st132 : isStr Tryz.prog 132 = false := by kernel_rfl
@[simp] theorem Tb.bo132 : isBool Tryz.prog 132 = false := by kernel_rfl
@[simp] theorem Tb.in132 : intT Tryz.prog 132 = none := by kernel_rfl
@[simp] theorem Tb.un132 : (Tryz.prog.underlying 132).isSome = true := by kernel_rfl
@[simp] theorem Tb.zr132 : zrT Tryz.prog 132 = [.string ⟨#[]⟩, .string ⟨#[]⟩] := by kernel_rfl
@[simp] theorem Tb.za132 : (Tryz.prog.info? 132).any (·.zero.isSome) = true := by kernel_rfl
@[simp] theorem Tb.zb132 : ((Tryz.prog.info? 132).bind (·.zero)).isSome = true := by kernel_rfl
@[simp] theorem Tb.el132 : elOK Tryz.prog 132 := elOK_of (by kernel_rfl)
@[simp] theorem Tb.bl132 : bldT Tryz.prog 132 = some ([.string ⟨#[]⟩, .string ⟨#[]⟩], [(0, 1), (1, 1)]) := by kernel_rfl
@[simp] theorem Tb.tk135 : tk Tryz.prog 135 = 1 := by kernel_rfl
@[simp] theorem Tb.sz135 : Program.cellsOf Tryz.prog 135 = 1 := by kernel_rfl
@[simp] theorem Tb.sl135 : slT Tryz.prog 135 = none := by kernel_rfl
@[simp] theorem Tb.st135 : isStr Tryz.prog 135 = false := by kernel_rfl
@[simp] theorem Tb.bo135 : isBool Tryz.prog 135 = false := by kernel_rfl
@[simp] theorem Tb.in135 : intT Tryz.prog 135 = none := by kernel_rfl
@[simp] theorem Tb.un135 : (Tryz.prog.underlying 135).isSome = true := by kernel_rfl
@[simp] theorem Tb.zr135 : zrT Tryz.prog 135 = [.pointer none] := by kernel_rfl
@[simp] theorem Tb.za135 : (Tryz.prog.info? 135).any (·.zero.isSome) = true := by kernel_rfl
@[simp] theorem Tb.zb135 : ((Tryz.prog.info? 135).bind (·.zero)).isSome = true := by kernel_rfl
@[simp] theorem Tb.el135 : elOK Tryz.prog 135 := elOK_of (by kernel_rfl)
@[simp] theorem Tb.tk136 : tk Tryz.prog 136 = 2 := by kernel_rfl
@[simp] theorem Tb.sz136 : Program.cellsOf Tryz.prog 136 = 7 := by kernel_rfl
@[simp] theorem Tb.ff136_0 : foff Tryz.prog 136 0 = some (0, 67) := by kernel_rfl
@[simp] theorem Tb.ff136_1 : foff Tryz.prog 136 1 = some (3, 3) := by kernel_rfl
@[simp] theorem Tb.ff136_2 : foff Tryz.prog 136 2 = some (4, 135) := by kernel_rfl
@[simp] theorem Tb.ff136_3 : foff Tryz.prog 136 3 = some (5, 3) := by kernel_rfl
@[simp] theorem Tb.ff136_4 : foff Tryz.prog 136 4 = some (6, 3) := by kernel_rfl
@[simp] theorem Tb.cm136 : cmpT Tryz.prog 136 = none := by kernel_rfl
@[simp] theorem Tb.sl136 : slT Tryz.prog 136 = none := by kernel_rfl
@[simp] theorem Tb.st136 : isStr Tryz.prog 136 = false := by kernel_rfl
@[simp] theorem Tb.bo136 : isBool Tryz.prog 136 = false := by kernel_rfl
@[simp] theorem Tb.in136 : intT Tryz.prog 136 = none := by kernel_rfl
@[simp] theorem Tb.un136 : (Tryz.prog.underlying 136).isSome = true := by kernel_rfl
@[simp] theorem Tb.zr136 : zrT Tryz.prog 136 = [.int .i64 0, .string ⟨#[]⟩, .int .i64 0, .int .i64 0, .pointer none, .int .i64 0, .int .i64 0] := by kernel_rfl
@[simp] theorem Tb.za136 : (Tryz.prog.info? 136).any (·.zero.isSome) = true := by kernel_rfl
@[simp] theorem Tb.zb136 : ((Tryz.prog.info? 136).bind (·.zero)).isSome = true := by kernel_rfl
@[simp] theorem Tb.el136 : elOK Tryz.prog 136 := elOK_of (by kernel_rfl)
@[simp] theorem Tb.bl136 : bldT Tryz.prog 136 = some ([.int .i64 0, .string ⟨#[]⟩, .int .i64 0, .int .i64 0, .pointer none, .int .i64 0, .int .i64 0], [(0, 3), (3, 1), (4, 1), (5, 1), (6, 1)]) := by kernel_rfl
@[simp] theorem Tb.tk137 : tk Tryz.prog 137 = 2 := by kernel_rfl
@[simp] theorem Tb.sz137 : Program.cellsOf Tryz.prog 137 = 7 := by kernel_rfl
@[simp] theorem Tb.ff137_0 : foff Tryz.prog 137 0 = some (0, 67) := by kernel_rfl
@[simp] theorem Tb.ff137_1 : foff Tryz.prog 137 1 = some (3, 3) := by kernel_rfl
@[simp] theorem Tb.ff137_2 : foff Tryz.prog 137 2 = some (4, 135) := by kernel_rfl
@[simp] theorem Tb.ff137_3 : foff Tryz.prog 137 3 = some (5, 3) := by kernel_rfl
@[simp] theorem Tb.ff137_4 : foff Tryz.prog 137 4 = some (6, 3) := by kernel_rfl
@[simp] theorem Tb.cm137 : cmpT Tryz.prog 137 = none := by kernel_rfl
@[simp] theorem Tb.sl137 : slT Tryz.prog 137 = none := by kernel_rfl
@[simp] theorem Tb.st137 : isStr Tryz.prog 137 = false := by kernel_rfl
@[simp] theorem Tb.bo137 : isBool Tryz.prog 137 = false := by kernel_rfl
@[simp] theorem Tb.in137 : intT Tryz.prog 137 = none := by kernel_rfl
@[simp] theorem Tb.un137 : (Tryz.prog.underlying 137).isSome = true := by kernel_rfl
@[simp] theorem Tb.zr137 : zrT Tryz.prog 137 = [.int .i64 0, .string ⟨#[]⟩, .int .i64 0, .int .i64 0, .pointer none, .int .i64 0, .int .i64 0] := by kernel_rfl
@[simp] theorem Tb.za137 : (Tryz.prog.info? 137).any (·.zero.isSome) = true := by kernel_rfl
@[simp] theorem Tb.zb137 : ((Tryz.prog.info? 137).bind (·.zero)).isSome = true := by kernel_rfl
@[simp] theorem Tb.el137 : elOK Tryz.prog 137 := elOK_of (by kernel_rfl)
@[simp] theorem Tb.bl137 : bldT Tryz.prog 137 = some ([.int .i64 0, .string ⟨#[]⟩, .int .i64 0, .int .i64 0, .pointer none, .int .i64 0, .int .i64 0], [(0, 3), (3, 1), (4, 1), (5, 1), (6, 1)]) := by kernel_rfl
@[simp] theorem Tb.tk138 : tk Tryz.prog 138 = 2 := by kernel_rfl
@[simp] theorem Tb.sz138 : Program.cellsOf Tryz.prog 138 = 7 := by kernel_rfl
@[simp] theorem Tb.ff138_0 : foff Tryz.prog 138 0 = some (0, 67) := by kernel_rfl
@[simp] theorem Tb.ff138_1 : foff Tryz.prog 138 1 = some (3, 3) := by kernel_rfl
@[simp] theorem Tb.ff138_2 : foff Tryz.prog 138 2 = some (4, 84) := by kernel_rfl
@[simp] theorem Tb.cm138 : cmpT Tryz.prog 138 = none := by kernel_rfl
@[simp] theorem Tb.sl138 : slT Tryz.prog 138 = none := by kernel_rfl
@[simp] theorem Tb.st138 : isStr Tryz.prog 138 = false := by kernel_rfl
@[simp] theorem Tb.bo138 : isBool Tryz.prog 138 = false := by kernel_rfl
@[simp] theorem Tb.in138 : intT Tryz.prog 138 = none := by kernel_rfl
@[simp] theorem Tb.un138 : (Tryz.prog.underlying 138).isSome = true := by kernel_rfl
@[simp] theorem Tb.zr138 : zrT Tryz.prog 138 = [.int .i64 0, .string ⟨#[]⟩, .int .i64 0, .int .i64 0, .int .i64 0, .int .i64 0, .slice none 0 0] := by kernel_rfl
@[simp] theorem Tb.za138 : (Tryz.prog.info? 138).any (·.zero.isSome) = true := by kernel_rfl
@[simp] theorem Tb.zb138 : ((Tryz.prog.info? 138).bind (·.zero)).isSome = true := by kernel_rfl
@[simp] theorem Tb.el138 : elOK Tryz.prog 138 := elOK_of (by kernel_rfl)
@[simp] theorem Tb.bl138 : bldT Tryz.prog 138 = some ([.int .i64 0, .string ⟨#[]⟩, .int .i64 0, .int .i64 0, .int .i64 0, .int .i64 0, .slice none 0 0], [(0, 3), (3, 1), (4, 3)]) := by kernel_rfl
@[simp] theorem Tb.tk139 : tk Tryz.prog 139 = 2 := by kernel_rfl
@[simp] theorem Tb.sz139 : Program.cellsOf Tryz.prog 139 = 7 := by kernel_rfl
@[simp] theorem Tb.ff139_0 : foff Tryz.prog 139 0 = some (0, 67) := by kernel_rfl
@[simp] theorem Tb.ff139_1 : foff Tryz.prog 139 1 = some (3, 3) := by kernel_rfl
@[simp] theorem Tb.ff139_2 : foff Tryz.prog 139 2 = some (4, 84) := by kernel_rfl
@[simp] theorem Tb.cm139 : cmpT Tryz.prog 139 = none := by kernel_rfl
@[simp] theorem Tb.sl139 : slT Tryz.prog 139 = none := by kernel_rfl
@[simp] theorem Tb.st139 : isStr Tryz.prog 139 = false := by kernel_rfl
@[simp] theorem Tb.bo139 : isBool Tryz.prog 139 = false := by kernel_rfl
@[simp] theorem Tb.in139 : intT Tryz.prog 139 = none := by kernel_rfl
@[simp] theorem Tb.un139 : (Tryz.prog.underlying 139).isSome = true := by kernel_rfl
@[simp] theorem Tb.zr139 : zrT Tryz.prog 139 = [.int .i64 0, .string ⟨#[]⟩, .int .i64 0, .int .i64 0, .int .i64 0, .int .i64 0, .slice none 0 0] := by kernel_rfl
@[simp] theorem Tb.za139 : (Tryz.prog.info? 139).any (·.zero.isSome) = true := by kernel_rfl
@[simp] theorem Tb.zb139 : ((Tryz.prog.info? 139).bind (·.zero)).isSome = true := by kernel_rfl
@[simp] theorem Tb.el139 : elOK Tryz.prog 139 := elOK_of (by kernel_rfl)
@[simp] theorem Tb.bl139 : bldT Tryz.prog 139 = some ([.int .i64 0, .string ⟨#[]⟩, .int .i64 0, .int .i64 0, .int .i64 0, .int .i64 0, .slice none 0 0], [(0, 3), (3, 1), (4, 3)]) := by kernel_rfl
@[simp] theorem Tb.tk152 : tk Tryz.prog 152 = 1 := by kernel_rfl
@[simp] theorem Tb.sz152 : Program.cellsOf Tryz.prog 152 = 1 := by kernel_rfl
@[simp] theorem Tb.sl152 : slT Tryz.prog 152 = none := by kernel_rfl
@[simp] theorem Tb.st152 : isStr Tryz.prog 152 = false := by kernel_rfl
@[simp] theorem Tb.bo152 : isBool Tryz.prog 152 = false := by kernel_rfl
@[simp] theorem Tb.in152 : intT Tryz.prog 152 = none := by kernel_rfl
@[simp] theorem Tb.un152 : (Tryz.prog.underlying 152).isSome = true := by kernel_rfl
@[simp] theorem Tb.zr152 : zrT Tryz.prog 152 = [.pointer none] := by kernel_rfl
@[simp] theorem Tb.za152 : (Tryz.prog.info? 152).any (·.zero.isSome) = true := by kernel_rfl
@[simp] theorem Tb.zb152 : ((Tryz.prog.info? 152).bind (·.zero)).isSome = true := by kernel_rfl
@[simp] theorem Tb.el152 : elOK Tryz.prog 152 := elOK_of (by kernel_rfl)
@[simp] theorem Tb.tk159 : tk Tryz.prog 159 = 1 := by kernel_rfl
@[simp] theorem Tb.sz159 : Program.cellsOf Tryz.prog 159 = 1 := by kernel_rfl
@[simp] theorem Tb.sl159 : slT Tryz.prog 159 = some 162 := by kernel_rfl
@[simp] theorem Tb.st159 : isStr Tryz.prog 159 = false := by kernel_rfl
@[simp] theorem Tb.bo159 : isBool Tryz.prog 159 = false := by kernel_rfl
@[simp] theorem Tb.in159 : intT Tryz.prog 159 = none := by kernel_rfl
@[simp] theorem Tb.un159 : (Tryz.prog.underlying 159).isSome = true := by kernel_rfl
@[simp] theorem Tb.zr159 : zrT Tryz.prog 159 = [.slice none 0 0] := by kernel_rfl
@[simp] theorem Tb.za159 : (Tryz.prog.info? 159).any (·.zero.isSome) = true := by kernel_rfl
@[simp] theorem Tb.zb159 : ((Tryz.prog.info? 159).bind (·.zero)).isSome = true := by kernel_rfl
@[simp] theorem Tb.el159 : elOK Tryz.prog 159 := elOK_of (by kernel_rfl)
@[simp] theorem Tb.tk161 : tk Tryz.prog 161 = 2 := by kernel_rfl
@[simp] theorem Tb.sz161 : Program.cellsOf Tryz.prog 161 = 3 := by kernel_rfl
@[simp] theorem Tb.ff161_0 : foff Tryz.prog 161 0 = some (0, 3) := by kernel_rfl
@[simp] theorem Tb.ff161_1 : foff Tryz.prog 161 1 = some (1, 3) := by kernel_rfl
@[simp] theorem Tb.ff161_2 : foff Tryz.prog 161 2 = some (2, 4) := by kernel_rfl
@[simp] theorem Tb.cm161 : cmpT Tryz.prog 161 = some [.int .i64, .int .i64, .bool] := by kernel_rfl
@[simp] theorem Tb.sl161 : slT Tryz.prog 161 = none := by kernel_rfl
@[simp] theorem Tb.st161 : isStr Tryz.prog 161 = false := by kernel_rfl
@[simp] theorem Tb.bo161 : isBool Tryz.prog 161 = false := by kernel_rfl
@[simp] theorem Tb.in161 : intT Tryz.prog 161 = none := by kernel_rfl
@[simp] theorem Tb.un161 : (Tryz.prog.underlying 161).isSome = true := by kernel_rfl
@[simp] theorem Tb.zr161 : zrT Tryz.prog 161 = [.int .i64 0, .int .i64 0, .bool false] := by kernel_rfl
@[simp] theorem Tb.za161 : (Tryz.prog.info? 161).any (·.zero.isSome) = true := by kernel_rfl
@[simp] theorem Tb.zb161 : ((Tryz.prog.info? 161).bind (·.zero)).isSome = true := by kernel_rfl
@[simp] theorem Tb.el161 : elOK Tryz.prog 161 := elOK_of (by kernel_rfl)
@[simp] theorem Tb.bl161 : bldT Tryz.prog 161 = some ([.int .i64 0, .int .i64 0, .bool false], [(0, 1), (1, 1), (2, 1)]) := by kernel_rfl
@[simp] theorem Tb.tk162 : tk Tryz.prog 162 = 2 := by kernel_rfl
@[simp] theorem Tb.sz162 : Program.cellsOf Tryz.prog 162 = 3 := by kernel_rfl
@[simp] theorem Tb.ff162_0 : foff Tryz.prog 162 0 = some (0, 3) := by kernel_rfl
@[simp] theorem Tb.ff162_1 : foff Tryz.prog 162 1 = some (1, 3) := by kernel_rfl
@[simp] theorem Tb.ff162_2 : foff Tryz.prog 162 2 = some (2, 4) := by kernel_rfl
@[simp] theorem Tb.cm162 : cmpT Tryz.prog 162 = some [.int .i64, .int .i64, .bool] := by kernel_rfl
@[simp] theorem Tb.sl162 : slT Tryz.prog 162 = none := by kernel_rfl
@[simp] theorem Tb.st162 : isStr Tryz.prog 162 = false := by kernel_rfl
@[simp] theorem Tb.bo162 : isBool Tryz.prog 162 = false := by kernel_rfl
@[simp] theorem Tb.in162 : intT Tryz.prog 162 = none := by kernel_rfl
@[simp] theorem Tb.un162 : (Tryz.prog.underlying 162).isSome = true := by kernel_rfl
@[simp] theorem Tb.zr162 : zrT Tryz.prog 162 = [.int .i64 0, .int .i64 0, .bool false] := by kernel_rfl
@[simp] theorem Tb.za162 : (Tryz.prog.info? 162).any (·.zero.isSome) = true := by kernel_rfl
@[simp] theorem Tb.zb162 : ((Tryz.prog.info? 162).bind (·.zero)).isSome = true := by kernel_rfl
@[simp] theorem Tb.el162 : elOK Tryz.prog 162 := elOK_of (by kernel_rfl)
@[simp] theorem Tb.bl162 : bldT Tryz.prog 162 = some ([.int .i64 0, .int .i64 0, .bool false], [(0, 1), (1, 1), (2, 1)]) := by kernel_rfl
@[simp] theorem Tb.tk166 : tk Tryz.prog 166 = 1 := by kernel_rfl
@[simp] theorem Tb.sz166 : Program.cellsOf Tryz.prog 166 = 1 := by kernel_rfl
@[simp] theorem Tb.sl166 : slT Tryz.prog 166 = none := by kernel_rfl
@[simp] theorem Tb.mp166 : mpT Tryz.prog 166 = some (.int .i64, .bool false) := by kernel_rfl
@[simp] theorem Tb.st166 : isStr Tryz.prog 166 = false := by kernel_rfl
@[simp] theorem Tb.bo166 : isBool Tryz.prog 166 = false := by kernel_rfl
@[simp] theorem Tb.in166 : intT Tryz.prog 166 = none := by kernel_rfl
@[simp] theorem Tb.un166 : (Tryz.prog.underlying 166).isSome = true := by kernel_rfl
@[simp] theorem Tb.zr166 : zrT Tryz.prog 166 = [.map none] := by kernel_rfl
@[simp] theorem Tb.za166 : (Tryz.prog.info? 166).any (·.zero.isSome) = true := by kernel_rfl
@[simp] theorem Tb.zb166 : ((Tryz.prog.info? 166).bind (·.zero)).isSome = true := by kernel_rfl
@[simp] theorem Tb.el166 : elOK Tryz.prog 166 := elOK_of (by kernel_rfl)
@[simp] theorem Tb.tk169 : tk Tryz.prog 169 = 1 := by kernel_rfl
@[simp] theorem Tb.sz169 : Program.cellsOf Tryz.prog 169 = 1 := by kernel_rfl
@[simp] theorem Tb.sl169 : slT Tryz.prog 169 = none := by kernel_rfl
@[simp] theorem Tb.st169 : isStr Tryz.prog 169 = false := by kernel_rfl
@[simp] theorem Tb.bo169 : isBool Tryz.prog 169 = false := by kernel_rfl
@[simp] theorem Tb.in169 : intT Tryz.prog 169 = some .u64 := by kernel_rfl
@[simp] theorem Tb.un169 : (Tryz.prog.underlying 169).isSome = true := by kernel_rfl
@[simp] theorem Tb.zr169 : zrT Tryz.prog 169 = [.int .u64 0] := by kernel_rfl
@[simp] theorem Tb.za169 : (Tryz.prog.info? 169).any (·.zero.isSome) = true := by kernel_rfl
@[simp] theorem Tb.zb169 : ((Tryz.prog.info? 169).bind (·.zero)).isSome = true := by kernel_rfl
@[simp] theorem Tb.el169 : elOK Tryz.prog 169 := elOK_of (by kernel_rfl)
@[simp] theorem Tb.tk171 : tk Tryz.prog 171 = 1 := by kernel_rfl
@[simp] theorem Tb.sz171 : Program.cellsOf Tryz.prog 171 = 1 := by kernel_rfl
@[simp] theorem Tb.sl171 : slT Tryz.prog 171 = none := by kernel_rfl
@[simp] theorem Tb.st171 : isStr Tryz.prog 171 = false := by kernel_rfl
@[simp] theorem Tb.bo171 : isBool Tryz.prog 171 = false := by kernel_rfl
@[simp] theorem Tb.in171 : intT Tryz.prog 171 = none := by kernel_rfl
@[simp] theorem Tb.un171 : (Tryz.prog.underlying 171).isSome = true := by kernel_rfl
@[simp] theorem Tb.zr171 : zrT Tryz.prog 171 = [.nilFunc] := by kernel_rfl
@[simp] theorem Tb.za171 : (Tryz.prog.info? 171).any (·.zero.isSome) = true := by kernel_rfl
@[simp] theorem Tb.zb171 : ((Tryz.prog.info? 171).bind (·.zero)).isSome = true := by kernel_rfl
@[simp] theorem Tb.el171 : elOK Tryz.prog 171 := elOK_of (by kernel_rfl)
@[simp] theorem Tb.tk174 : tk Tryz.prog 174 = 1 := by kernel_rfl
@[simp] theorem Tb.sz174 : Program.cellsOf Tryz.prog 174 = 1 := by kernel_rfl
@[simp] theorem Tb.sl174 : slT Tryz.prog 174 = some 24 := by kernel_rfl
@[simp] theorem Tb.st174 : isStr Tryz.prog 174 = false := by kernel_rfl
@[simp] theorem Tb.bo174 : isBool Tryz.prog 174 = false := by kernel_rfl
@[simp] theorem Tb.in174 : intT Tryz.prog 174 = none := by kernel_rfl
@[simp] theorem Tb.un174 : (Tryz.prog.underlying 174).isSome = true := by kernel_rfl
@[simp] theorem Tb.zr174 : zrT Tryz.prog 174 = [.slice none 0 0] := by kernel_rfl
@[simp] theorem Tb.za174 : (Tryz.prog.info? 174).any (·.zero.isSome) = true := by kernel_rfl
@[simp] theorem Tb.zb174 : ((Tryz.prog.info? 174).bind (·.zero)).isSome = true := by kernel_rfl
@[simp] theorem Tb.el174 : elOK Tryz.prog 174 := elOK_of (by kernel_rfl)
@[simp] theorem Tb.tk176 : tk Tryz.prog 176 = 1 := by kernel_rfl
@[simp] theorem Tb.sz176 : Program.cellsOf Tryz.prog 176 = 1 := by kernel_rfl
@[simp] theorem Tb.sl176 : slT Tryz.prog 176 = none := by kernel_rfl
@[simp] theorem Tb.mp176 : mpT Tryz.prog 176 = some (.string, .int .i64 0) := by kernel_rfl
@[simp] theorem Tb.st176 : isStr Tryz.prog 176 = false := by kernel_rfl
@[simp] theorem Tb.bo176 : isBool Tryz.prog 176 = false := by kernel_rfl
@[simp] theorem Tb.in176 : intT Tryz.prog 176 = none := by kernel_rfl
@[simp] theorem Tb.un176 : (Tryz.prog.underlying 176).isSome = true := by kernel_rfl
@[simp] theorem Tb.zr176 : zrT Tryz.prog 176 = [.map none] := by kernel_rfl
@[simp] theorem Tb.za176 : (Tryz.prog.info? 176).any (·.zero.isSome) = true := by kernel_rfl
@[simp] theorem Tb.zb176 : ((Tryz.prog.info? 176).bind (·.zero)).isSome = true := by kernel_rfl
@[simp] theorem Tb.el176 : elOK Tryz.prog 176 := elOK_of (by kernel_rfl)
@[simp] theorem Tb.tk179 : tk Tryz.prog 179 = 1 := by kernel_rfl
@[simp] theorem Tb.sz179 : Program.cellsOf Tryz.prog 179 = 1 := by kernel_rfl
@[simp] theorem Tb.sl179 : slT Tryz.prog 179 = none := by kernel_rfl
@[simp] theorem Tb.st179 : isStr Tryz.prog 179 = false := by kernel_rfl
@[simp] theorem Tb.bo179 : isBool Tryz.prog 179 = false := by kernel_rfl
@[simp] theorem Tb.in179 : intT Tryz.prog 179 = none := by kernel_rfl
@[simp] theorem Tb.un179 : (Tryz.prog.underlying 179).isSome = true := by kernel_rfl
@[simp] theorem Tb.zr179 : zrT Tryz.prog 179 = [.nilFunc] := by kernel_rfl
@[simp] theorem Tb.za179 : (Tryz.prog.info? 179).any (·.zero.isSome) = true := by kernel_rfl
@[simp] theorem Tb.zb179 : ((Tryz.prog.info? 179).bind (·.zero)).isSome = true := by kernel_rfl
@[simp] theorem Tb.el179 : elOK Tryz.prog 179 := elOK_of (by kernel_rfl)
@[simp] theorem Tb.tk181 : tk Tryz.prog 181 = 1 := by kernel_rfl
@[simp] theorem Tb.sz181 : Program.cellsOf Tryz.prog 181 = 1 := by kernel_rfl
@[simp] theorem Tb.sl181 : slT Tryz.prog 181 = none := by kernel_rfl
@[simp] theorem Tb.st181 : isStr Tryz.prog 181 = false := by kernel_rfl
@[simp] theorem Tb.bo181 : isBool Tryz.prog 181 = false := by kernel_rfl
@[simp] theorem Tb.in181 : intT Tryz.prog 181 = none := by kernel_rfl
@[simp] theorem Tb.un181 : (Tryz.prog.underlying 181).isSome = true := by kernel_rfl
@[simp] theorem Tb.zr181 : zrT Tryz.prog 181 = [.nilFunc] := by kernel_rfl
@[simp] theorem Tb.za181 : (Tryz.prog.info? 181).any (·.zero.isSome) = true := by kernel_rfl
@[simp] theorem Tb.zb181 : ((Tryz.prog.info? 181).bind (·.zero)).isSome = true := by kernel_rfl
@[simp] theorem Tb.el181 : elOK Tryz.prog 181 := elOK_of (by kernel_rfl)
@[simp] theorem Tb.tk186 : tk Tryz.prog 186 = 2 := by kernel_rfl
@[simp] theorem Tb.sz186 : Program.cellsOf Tryz.prog 186 = 4 := by kernel_rfl
@[simp] theorem Tb.sl186 : slT Tryz.prog 186 = none := by kernel_rfl
@[simp] theorem Tb.ar186 : arT Tryz.prog 186 = some (2, 128) := by kernel_rfl
@[simp] theorem Tb.st186 : isStr Tryz.prog 186 = false := by kernel_rfl
@[simp] theorem Tb.bo186 : isBool Tryz.prog 186 = false := by kernel_rfl
@[simp] theorem Tb.in186 : intT Tryz.prog 186 = none := by kernel_rfl
@[simp] theorem Tb.un186 : (Tryz.prog.underlying 186).isSome = true := by kernel_rfl
@[simp] theorem Tb.zr186 : zrT Tryz.prog 186 = [.string ⟨#[]⟩, .string ⟨#[]⟩, .string ⟨#[]⟩, .string ⟨#[]⟩] := by kernel_rfl
@[simp] theorem Tb.za186 : (Tryz.prog.info? 186).any (·.zero.isSome) = true := by kernel_rfl
@[simp] theorem Tb.zb186 : ((Tryz.prog.info? 186).bind (·.zero)).isSome = true := by kernel_rfl
@[simp] theorem Tb.el186 : elOK Tryz.prog 186 := elOK_of (by kernel_rfl)
@[simp] theorem Tb.bl186 : bldT Tryz.prog 186 = some ([.string ⟨#[]⟩, .string ⟨#[]⟩, .string ⟨#[]⟩, .string ⟨#[]⟩], [(0, 2), (2, 2)]) := by kernel_rfl
@[simp] theorem Tb.tk189 : tk Tryz.prog 189 = 2 := by kernel_rfl
@[simp] theorem Tb.sz189 : Program.cellsOf Tryz.prog 189 = 4 := by kernel_rfl
@[simp] theorem Tb.ff189_0 : foff Tryz.prog 189 0 = some (0, 132) := by kernel_rfl
@[simp] theorem Tb.ff189_1 : foff Tryz.prog 189 1 = some (2, 132) := by kernel_rfl
@[simp] theorem Tb.cm189 : cmpT Tryz.prog 189 = some [.string, .string, .string, .string] := by kernel_rfl
@[simp] theorem Tb.sl189 : slT Tryz.prog 189 = none := by kernel_rfl
@[simp] theorem Tb.st189 : isStr Tryz.prog 189 = false := by kernel_rfl
@[simp] theorem Tb.bo189 : isBool Tryz.prog 189 = false := by kernel_rfl
@[simp] theorem Tb.in189 : intT Tryz.prog 189 = none := by kernel_rfl
@[simp] theorem Tb.un189 : (Tryz.prog.underlying 189).isSome = true := by kernel_rfl
@[simp] theorem Tb.zr189 : zrT Tryz.prog 189 = [.string ⟨#[]⟩, .string ⟨#[]⟩, .string ⟨#[]⟩, .string ⟨#[]⟩] := by kernel_rfl
@[simp] theorem Tb.za189 : (Tryz.prog.info? 189).any (·.zero.isSome) = true := by kernel_rfl
@[simp] theorem Tb.zb189 : ((Tryz.prog.info? 189).bind (·.zero)).isSome = true := by kernel_rfl
@[simp] theorem Tb.el189 : elOK Tryz.prog 189 := elOK_of (by kernel_rfl)
@[simp] theorem Tb.bl189 : bldT Tryz.prog 189 = some ([.string ⟨#[]⟩, .string ⟨#[]⟩, .string ⟨#[]⟩, .string ⟨#[]⟩], [(0, 2), (2, 2)]) := by kernel_rfl
@[simp] theorem Tb.tk190 : tk Tryz.prog 190 = 2 := by kernel_rfl
@[simp] theorem Tb.sz190 : Program.cellsOf Tryz.prog 190 = 4 := by kernel_rfl
@[simp] theorem Tb.ff190_0 : foff Tryz.prog 190 0 = some (0, 132) := by kernel_rfl
@[simp] theorem Tb.ff190_1 : foff Tryz.prog 190 1 = some (2, 132) := by kernel_rfl
@[simp] theorem Tb.cm190 : cmpT Tryz.prog 190 = some [.string, .string, .string, .string] := by kernel_rfl
@[simp] theorem Tb.sl190 : slT Tryz.prog 190 = none := by kernel_rfl
@[simp] theorem Tb.st190 : isStr Tryz.prog 190 = false := by kernel_rfl
@[simp] theorem Tb.bo190 : isBool Tryz.prog 190 = false := by kernel_rfl
@[simp] theorem Tb.in190 : intT Tryz.prog 190 = none := by kernel_rfl
@[simp] theorem Tb.un190 : (Tryz.prog.underlying 190).isSome = true := by kernel_rfl
@[simp] theorem Tb.zr190 : zrT Tryz.prog 190 = [.string ⟨#[]⟩, .string ⟨#[]⟩, .string ⟨#[]⟩, .string ⟨#[]⟩] := by kernel_rfl
@[simp] theorem Tb.za190 : (Tryz.prog.info? 190).any (·.zero.isSome) = true := by kernel_rfl
@[simp] theorem Tb.zb190 : ((Tryz.prog.info? 190).bind (·.zero)).isSome = true := by kernel_rfl
@[simp] theorem Tb.el190 : elOK Tryz.prog 190 := elOK_of (by kernel_rfl)
@[simp] theorem Tb.bl190 : bldT Tryz.prog 190 = some ([.string ⟨#[]⟩, .string ⟨#[]⟩, .string ⟨#[]⟩, .string ⟨#[]⟩], [(0, 2), (2, 2)]) := by kernel_rfl
@[simp] theorem Tb.tk203 : tk Tryz.prog 203 = 2 := by kernel_rfl
@[simp] theorem Tb.sz203 : Program.cellsOf Tryz.prog 203 = 5 := by kernel_rfl
@[simp] theorem Tb.sl203 : slT Tryz.prog 203 = none := by kernel_rfl
@[simp] theorem Tb.ar203 : arT Tryz.prog 203 = some (5, 22) := by kernel_rfl
@[simp] theorem Tb.st203 : isStr Tryz.prog 203 = false := by kernel_rfl
@[simp] theorem Tb.bo203 : isBool Tryz.prog 203 = false := by kernel_rfl
@[simp] theorem Tb.in203 : intT Tryz.prog 203 = none := by kernel_rfl
@[simp] theorem Tb.un203 : (Tryz.prog.underlying 203).isSome = true := by kernel_rfl
@[simp] theorem Tb.zr203 : zrT Tryz.prog 203 = [.slice none 0 0, .slice none 0 0, .slice none 0 0, .slice none 0 0, .slice none 0 0] := by kernel_rfl
@[simp] theorem Tb.za203 : (Tryz.prog.info? 203).any (·.zero.isSome) = true := by kernel_rfl
@[simp] theorem Tb.zb203 : ((Tryz.prog.info? 203).bind (·.zero)).isSome = true := by kernel_rfl
@[simp] theorem Tb.el203 : elOK Tryz.prog 203 := elOK_of (by kernel_rfl)
@[simp] theorem Tb.bl203 : bldT Tryz.prog 203 = some ([.slice none 0 0, .slice none 0 0, .slice none 0 0, .slice none 0 0, .slice none 0 0], [(0, 1), (1, 1), (2, 1), (3, 1), (4, 1)]) := by kernel_rfl
@[simp] theorem Tb.tk204 : tk Tryz.prog 204 = 1 := by kernel_rfl
@[simp] theorem Tb.sz204 : Program.cellsOf Tryz.prog 204 = 1 := by kernel_rfl
@[simp] theorem Tb.sl204 : slT Tryz.prog 204 = none := by kernel_rfl
@[simp] theorem Tb.st204 : isStr Tryz.prog 204 = false := by kernel_rfl
@[simp] theorem Tb.bo204 : isBool Tryz.prog 204 = false := by kernel_rfl
@[simp] theorem Tb.in204 : intT Tryz.prog 204 = none := by kernel_rfl
@[simp] theorem Tb.un204 : (Tryz.prog.underlying 204).isSome = true := by kernel_rfl
@[simp] theorem Tb.zr204 : zrT Tryz.prog 204 = [.nilFunc] := by kernel_rfl
@[simp] theorem Tb.za204 : (Tryz.prog.info? 204).any (·.zero.isSome) = true := by kernel_rfl
@[simp] theorem Tb.zb204 : ((Tryz.prog.info? 204).bind (·.zero)).isSome = true := by kernel_rfl
@[simp] theorem Tb.el204 : elOK Tryz.prog 204 := elOK_of (by kernel_rfl)
@[simp] theorem Tb.tk205 : tk Tryz.prog 205 = 1 := by kernel_rfl
@[simp] theorem Tb.sz205 : Program.cellsOf Tryz.prog 205 = 1 := by kernel_rfl
@[simp] theorem Tb.sl205 : slT Tryz.prog 205 = none := by kernel_rfl
@[simp] theorem Tb.st205 : isStr Tryz.prog 205 = false := by kernel_rfl
@[simp] theorem Tb.bo205 : isBool Tryz.prog 205 = false := by kernel_rfl
@[simp] theorem Tb.in205 : intT Tryz.prog 205 = none := by kernel_rfl
@[simp] theorem Tb.un205 : (Tryz.prog.underlying 205).isSome = true := by kernel_rfl
@[simp] theorem Tb.zr205 : zrT Tryz.prog 205 = [.nilFunc] := by kernel_rfl
@[simp] theorem Tb.za205 : (Tryz.prog.info? 205).any (·.zero.isSome) = true := by kernel_rfl
@[simp] theorem Tb.zb205 : ((Tryz.prog.info? 205).bind (·.zero)).isSome = true := by kernel_rfl
@[simp] theorem Tb.el205 : elOK Tryz.prog 205 := elOK_of (by kernel_rfl)
@[simp] theorem Tb.tk206 : tk Tryz.prog 206 = 2 := by kernel_rfl
@[simp] theorem Tb.sz206 : Program.cellsOf Tryz.prog 206 = 12 := by kernel_rfl
@[simp] theorem Tb.ff206_0 : foff Tryz.prog 206 0 = some (0, 9) := by kernel_rfl
@[simp] theorem Tb.ff206_1 : foff Tryz.prog 206 1 = some (1, 9) := by kernel_rfl
@[simp] theorem Tb.ff206_2 : foff Tryz.prog 206 2 = some (2, 203) := by kernel_rfl
@[simp] theorem Tb.ff206_3 : foff Tryz.prog 206 3 = some (7, 9) := by kernel_rfl
@[simp] theorem Tb.ff206_4 : foff Tryz.prog 206 4 = some (8, 9) := by kernel_rfl
@[simp] theorem Tb.ff206_5 : foff Tryz.prog 206 5 = some (9, 3) := by kernel_rfl
@[simp] theorem Tb.ff206_6 : foff Tryz.prog 206 6 = some (10, 204) := by kernel_rfl
@[simp] theorem Tb.ff206_7 : foff Tryz.prog 206 7 = some (11, 205) := by kernel_rfl
@[simp] theorem Tb.cm206 : cmpT Tryz.prog 206 = none := by kernel_rfl
@[simp] theorem Tb.sl206 : slT Tryz.prog 206 = none := by kernel_rfl
@[simp] theorem Tb.st206 : isStr Tryz.prog 206 = false := by kernel_rfl
@[simp] theorem Tb.bo206 : isBool Tryz.prog 206 = false := by kernel_rfl
@[simp] theorem Tb.in206 : intT Tryz.prog 206 = none := by kernel_rfl
@[simp] theorem Tb.un206 : (Tryz.prog.underlying 206).isSome = true := by kernel_rfl
@[simp] theorem Tb.zr206 : zrT Tryz.prog 206 = [.string ⟨#[]⟩, .string ⟨#[]⟩, .slice none 0 0, .slice none 0 0, .slice none 0 0, .slice none 0 0, .slice none 0 0, .string ⟨#[]⟩, .string ⟨#[]⟩, .int .i64 0, .nilFunc, .nilFunc] := by kernel_rfl
@[simp] theorem Tb.za206 : (Tryz.prog.info? 206).any (·.zero.isSome) = true := by kernel_rfl
@[simp] theorem Tb.zb206 : ((Tryz.prog.info? 206).bind (·.zero)).isSome = true := by kernel_rfl
@[simp] theorem Tb.el206 : elOK Tryz.prog 206 := elOK_of (by kernel_rfl)
@[simp] theorem Tb.bl206 : bldT Tryz.prog 206 = some ([.string ⟨#[]⟩, .string ⟨#[]⟩, .slice none 0 0, .slice none 0 0, .slice none 0 0, .slice none 0 0, .slice none 0 0, .string ⟨#[]⟩, .string ⟨#[]⟩, .int .i64 0, .nilFunc, .nilFunc], [(0, 1), (1, 1), (2, 5), (7, 1), (8, 1), (9, 1), (10, 1), (11, 1)]) := by kernel_rfl
@[simp] theorem Tb.tk207 : tk Tryz.prog 207 = 2 := by kernel_rfl
@[simp] theorem Tb.sz207 : Program.cellsOf Tryz.prog 207 = 12 := by kernel_rfl
@[simp] theorem Tb.ff207_0 : foff Tryz.prog 207 0 = some (0, 9) := by kernel_rfl
@[simp] theorem Tb.ff207_1 : foff Tryz.prog 207 1 = some (1, 9) := by kernel_rfl
@[simp] theorem Tb.ff207_2 : foff Tryz.prog 207 2 = some (2, 203) := by kernel_rfl
@[simp] theorem Tb.ff207_3 : foff Tryz.prog 207 3 = some (7, 9) := by kernel_rfl
@[simp] theorem Tb.ff207_4 : foff Tryz.prog 207 4 = some (8, 9) := by kernel_rfl
@[simp] theorem Tb.ff207_5 : foff Tryz.prog 207 5 = some (9, 3) := by kernel_rfl
@[simp] theorem Tb.ff207_6 : foff Tryz.prog 207 6 = some (10, 204) := by kernel_rfl
@[simp] theorem Tb.ff207_7 : foff Tryz.prog 207 7 = some (11, 205) := by kernel_rfl
@[simp] theorem Tb.cm207 : cmpT Tryz.prog 207 = none := by kernel_rfl
@[simp] theorem Tb.sl207 : slT Tryz.prog 207 = none := by kernel_rfl
@[simp] theorem Tb.st207 : isStr Tryz.prog 207 = false := by kernel_rfl
@[simp] theorem Tb.bo207 : isBool Tryz.prog 207 = false := by kernel_rfl
@[simp] theorem Tb.in207 : intT Tryz.prog 207 = none := by kernel_rfl
@[simp] theorem Tb.un207 : (Tryz.prog.underlying 207).isSome = true := by kernel_rfl
@[simp] theorem Tb.zr207 : zrT Tryz.prog 207 = [.string ⟨#[]⟩, .string ⟨#[]⟩, .slice none 0 0, .slice none 0 0, .slice none 0 0, .slice none 0 0, .slice none 0 0, .string ⟨#[]⟩, .string ⟨#[]⟩, .int .i64 0, .nilFunc, .nilFunc] := by kernel_rfl
@[simp] theorem Tb.za207 : (Tryz.prog.info? 207).any (·.zero.isSome) = true := by kernel_rfl
@[simp] theorem Tb.zb207 : ((Tryz.prog.info? 207).bind (·.zero)).isSome = true := by kernel_rfl
@[simp] theorem Tb.el207 : elOK Tryz.prog 207 := elOK_of (by kernel_rfl)
@[simp] theorem Tb.bl207 : bldT Tryz.prog 207 = some ([.string ⟨#[]⟩, .string ⟨#[]⟩, .slice none 0 0, .slice none 0 0, .slice none 0 0, .slice none 0 0, .slice none 0 0, .string ⟨#[]⟩, .string ⟨#[]⟩, .int .i64 0, .nilFunc, .nilFunc], [(0, 1), (1, 1), (2, 5), (7, 1), (8, 1), (9, 1), (10, 1), (11, 1)]) := by kernel_rfl
@[simp] theorem Tb.tk217 : tk Tryz.prog 217 = 1 := by kernel_rfl
@[simp] theorem Tb.sz217 : Program.cellsOf Tryz.prog 217 = 1 := by kernel_rfl
@[simp] theorem Tb.sl217 : slT Tryz.prog 217 = none := by kernel_rfl
@[simp] theorem Tb.mp217 : mpT Tryz.prog 217 = none := by kernel_rfl
@[simp] theorem Tb.ms217 : msT Tryz.prog 217 = none := by kernel_rfl
@[simp] theorem Tb.st217 : isStr Tryz.prog 217 = false := by kernel_rfl
@[simp] theorem Tb.bo217 : isBool Tryz.prog 217 = false := by kernel_rfl
@[simp] theorem Tb.in217 : intT Tryz.prog 217 = none := by kernel_rfl
@[simp] theorem Tb.un217 : (Tryz.prog.underlying 217).isSome = true := by kernel_rfl
@[simp] theorem Tb.zr217 : zrT Tryz.prog 217 = [.map none] := by kernel_rfl
@[simp] theorem Tb.za217 : (Tryz.prog.info? 217).any (·.zero.isSome) = true := by kernel_rfl
@[simp] theorem Tb.zb217 : ((Tryz.prog.info? 217).bind (·.zero)).isSome = true := by kernel_rfl
@[simp] theorem Tb.el217 : elOK Tryz.prog 217 := elOK_of (by kernel_rfl)
@[simp] theorem Tb.tk220 : tk Tryz.prog 220 = 1 := by kernel_rfl
@[simp] theorem Tb.sz220 : Program.cellsOf Tryz.prog 220 = 1 := by kernel_rfl
@[simp] theorem Tb.sl220 : slT Tryz.prog 220 = none := by kernel_rfl
@[simp] theorem Tb.mp220 : mpT Tryz.prog 220 = none := by kernel_rfl
@[simp] theorem Tb.ms220 : msT Tryz.prog 220 = none := by kernel_rfl
@[simp] theorem Tb.st220 : isStr Tryz.prog 220 = false := by kernel_rfl
@[simp] theorem Tb.bo220 : isBool Tryz.prog 220 = false := by kernel_rfl
@[simp] theorem Tb.in220 : intT Tryz.prog 220 = none := by kernel_rfl
@[simp] theorem Tb.un220 : (Tryz.prog.underlying 220).isSome = true := by kernel_rfl
@[simp] theorem Tb.zr220 : zrT Tryz.prog 220 = [.map none] := by kernel_rfl
@[simp] theorem Tb.za220 : (Tryz.prog.info? 220).any (·.zero.isSome) = true := by kernel_rfl
@[simp] theorem Tb.zb220 : ((Tryz.prog.info? 220).bind (·.zero)).isSome = true := by kernel_rfl
@[simp] theorem Tb.el220 : elOK Tryz.prog 220 := elOK_of (by kernel_rfl)
@[simp] theorem Tb.tk223 : tk Tryz.prog 223 = 2 := by kernel_rfl
@[simp] theorem Tb.sz223 : Program.cellsOf Tryz.prog 223 = 4 := by kernel_rfl
@[simp] theorem Tb.ff223_0 : foff Tryz.prog 223 0 = some (0, 38) := by kernel_rfl
@[simp] theorem Tb.ff223_1 : foff Tryz.prog 223 1 = some (2, 3) := by kernel_rfl
@[simp] theorem Tb.ff223_2 : foff Tryz.prog 223 2 = some (3, 220) := by kernel_rfl
@[simp] theorem Tb.cm223 : cmpT Tryz.prog 223 = none := by kernel_rfl
@[simp] theorem Tb.sl223 : slT Tryz.prog 223 = none := by kernel_rfl
@[simp] theorem Tb.st223 : isStr Tryz.prog 223 = false := by kernel_rfl
@[simp] theorem Tb.bo223 : isBool Tryz.prog 223 = false := by kernel_rfl
@[simp] theorem Tb.in223 : intT Tryz.prog 223 = none := by kernel_rfl
@[simp] theorem Tb.un223 : (Tryz.prog.underlying 223).isSome = true := by kernel_rfl
@[simp] theorem Tb.zr223 : zrT Tryz.prog 223 = [.slice none 0 0, .slice none 0 0, .int .i64 0, .map none] := by kernel_rfl
@[simp] theorem Tb.za223 : (Tryz.prog.info? 223).any (·.zero.isSome) = true := by kernel_rfl
@[simp] theorem Tb.zb223 : ((Tryz.prog.info? 223).bind (·.zero)).isSome = true := by kernel_rfl
@[simp] theorem Tb.el223 : elOK Tryz.prog 223 := elOK_of (by kernel_rfl)
@[simp] theorem Tb.bl223 : bldT Tryz.prog 223 = some ([.slice none 0 0, .slice none 0 0, .int .i64 0, .map none], [(0, 2), (2, 1), (3, 1)]) := by kernel_rfl
@[simp] theorem Tb.tk224 : tk Tryz.prog 224 = 2 := by kernel_rfl
@[simp] theorem Tb.sz224 : Program.cellsOf Tryz.prog 224 = 4 := by kernel_rfl
@[simp] theorem Tb.ff224_0 : foff Tryz.prog 224 0 = some (0, 38) := by kernel_rfl
@[simp] theorem Tb.ff224_1 : foff Tryz.prog 224 1 = some (2, 3) := by kernel_rfl
@[simp] theorem Tb.ff224_2 : foff Tryz.prog 224 2 = some (3, 220) := by kernel_rfl
@[simp] theorem Tb.cm224 : cmpT Tryz.prog 224 = none := by kernel_rfl
@[simp] theorem Tb.sl224 : slT Tryz.prog 224 = none := by kernel_rfl
@[simp] theorem Tb.st224 : isStr Tryz.prog 224 = false := by kernel_rfl
@[simp] theorem Tb.bo224 : isBool Tryz.prog 224 = false := by kernel_rfl
@[simp] theorem Tb.in224 : intT Tryz.prog 224 = none := by kernel_rfl
@[simp] theorem Tb.un224 : (Tryz.prog.underlying 224).isSome = true := by kernel_rfl
@[simp] theorem Tb.zr224 : zrT Tryz.prog 224 = [.slice none 0 0, .slice none 0 0, .int .i64 0, .map none] := by kernel_rfl
@[simp] theorem Tb.za224 : (Tryz.prog.info? 224).any (·.zero.isSome) = true := by kernel_rfl
@[simp] theorem Tb.zb224 : ((Tryz.prog.info? 224).bind (·.zero)).isSome = true := by kernel_rfl
@[simp] theorem Tb.el224 : elOK Tryz.prog 224 := elOK_of (by kernel_rfl)
@[simp] theorem Tb.bl224 : bldT Tryz.prog 224 = some ([.slice none 0 0, .slice none 0 0, .int .i64 0, .map none], [(0, 2), (2, 1), (3, 1)]) := by kernel_rfl
@[simp] theorem Tb.tk225 : tk Tryz.prog 225 = 1 := by kernel_rfl
@[simp] theorem Tb.sz225 : Program.cellsOf Tryz.prog 225 = 1 := by kernel_rfl
@[simp] theorem Tb.sl225 : slT Tryz.prog 225 = some 230 := by kernel_rfl
@[simp] theorem Tb.st225 : isStr Tryz.prog 225 = false := by kernel_rfl
@[simp] theorem Tb.bo225 : isBool Tryz.prog 225 = false := by kernel_rfl
@[simp] theorem Tb.in225 : intT Tryz.prog 225 = none := by kernel_rfl
@[simp] theorem Tb.un225 : (Tryz.prog.underlying 225).isSome = true := by kernel_rfl
@[simp] theorem Tb.zr225 : zrT Tryz.prog 225 = [.slice none 0 0] := by kernel_rfl
@[simp] theorem Tb.za225 : (Tryz.prog.info? 225).any (·.zero.isSome) = true := by kernel_rfl
@[simp] theorem Tb.zb225 : ((Tryz.prog.info? 225).bind (·.zero)).isSome = true := by kernel_rfl
@[simp] theorem Tb.el225 : elOK Tryz.prog 225 := elOK_of (by kernel_rfl)
@[simp] theorem Tb.tk229 : tk Tryz.prog 229 = 2 := by kernel_rfl
@[simp] theorem Tb.sz229 : Program.cellsOf Tryz.prog 229 = 4 := by kernel_rfl
@[simp] theorem Tb.ff229_0 : foff Tryz.prog 229 0 = some (0, 3) := by kernel_rfl
@[simp] theorem Tb.ff229_1 : foff Tryz.prog 229 1 = some (1, 3) := by kernel_rfl
@[simp] theorem Tb.ff229_2 : foff Tryz.prog 229 2 = some (2, 24) := by kernel_rfl
@[simp] theorem Tb.ff229_3 : foff Tryz.prog 229 3 = some (3, 4) := by kernel_rfl
@[simp] theorem Tb.cm229 : cmpT Tryz.prog 229 = none := by kernel_rfl
@[simp] theorem Tb.sl229 : slT Tryz.prog 229 = none := by kernel_rfl
@[simp] theorem Tb.st229 : isStr Tryz.prog 229 = false := by kernel_rfl
@[simp] theorem Tb.bo229 : isBool Tryz.prog 229 = false := by kernel_rfl
@[simp] theorem Tb.in229 : intT Tryz.prog 229 = none := by kernel_rfl
@[simp] theorem Tb.un229 : (Tryz.prog.underlying 229).isSome = true := by kernel_rfl
@[simp] theorem Tb.zr229 : zrT Tryz.prog 229 = [.int .i64 0, .int .i64 0, .slice none 0 0, .bool false] := by kernel_rfl
@[simp] theorem Tb.za229 : (Tryz.prog.info? 229).any (·.zero.isSome) = true := by kernel_rfl
@[simp] theorem Tb.zb229 : ((Tryz.prog.info? 229).bind (·.zero)).isSome = true := by kernel_rfl
@[simp] theorem Tb.el229 : elOK Tryz.prog 229 := elOK_of (by kernel_rfl)
@[simp] theorem Tb.bl229 : bldT Tryz.prog 229 = some ([.int .i64 0, .int .i64 0, .slice none 0 0, .bool false], [(0, 1), (1, 1), (2, 1), (3, 1)]) := by kernel_rfl
@[simp] theorem Tb.tk230 : tk Tryz.prog 230 = 2 := by kernel_rfl
@[simp] theorem Tb.sz230 : Program.cellsOf Tryz.prog 230 = 4 := by kernel_rfl
@[simp] theorem Tb.ff230_0 : foff Tryz.prog 230 0 = some (0, 3) := by kernel_rfl
@[simp] theorem Tb.ff230_1 : foff Tryz.prog 230 1 = some (1, 3) := by kernel_rfl
@[simp] theorem Tb.ff230_2 : foff Tryz.prog 230 2 = some (2, 24) := by kernel_rfl
@[simp] theorem Tb.ff230_3 : foff Tryz.prog 230 3 = some (3, 4) := by kernel_rfl
@[simp] theorem Tb.cm230 : cmpT Tryz.prog 230 = none := by kernel_rfl
@[simp] theorem Tb.sl230 : slT Tryz.prog 230 = none := by kernel_rfl
@[simp] theorem Tb.st230 : isStr Tryz.prog 230 = false := by kernel_rfl
@[simp] theorem Tb.bo230 : isBool Tryz.prog 230 = false := by kernel_rfl
@[simp] theorem Tb.in230 : intT Tryz.prog 230 = none := by kernel_rfl
@[simp] theorem Tb.un230 : (Tryz.prog.underlying 230).isSome = true := by kernel_rfl
@[simp] theorem Tb.zr230 : zrT Tryz.prog 230 = [.int .i64 0, .int .i64 0, .slice none 0 0, .bool false] := by kernel_rfl
@[simp] theorem Tb.za230 : (Tryz.prog.info? 230).any (·.zero.isSome) = true := by kernel_rfl
@[simp] theorem Tb.zb230 : ((Tryz.prog.info? 230).bind (·.zero)).isSome = true := by kernel_rfl
@[simp] theorem Tb.el230 : elOK Tryz.prog 230 := elOK_of (by kernel_rfl)
@[simp] theorem Tb.bl230 : bldT Tryz.prog 230 = some ([.int .i64 0, .int .i64 0, .slice none 0 0, .bool false], [(0, 1), (1, 1), (2, 1), (3, 1)]) := by kernel_rfl
@[simp] theorem Tb.tk239 : tk Tryz.prog 239 = 1 := by kernel_rfl
@[simp] theorem Tb.sz239 : Program.cellsOf Tryz.prog 239 = 1 := by kernel_rfl
@[simp] theorem Tb.sl239 : slT Tryz.prog 239 = some 26 := by kernel_rfl
@[simp] theorem Tb.st239 : isStr Tryz.prog 239 = false := by kernel_rfl
@[simp] theorem Tb.bo239 : isBool Tryz.prog 239 = false := by kernel_rfl
@[simp] theorem Tb.in239 : intT Tryz.prog 239 = none := by kernel_rfl
@[simp] theorem Tb.un239 : (Tryz.prog.underlying 239).isSome = true := by kernel_rfl
@[simp] theorem Tb.zr239 : zrT Tryz.prog 239 = [.slice none 0 0] := by kernel_rfl
@[simp] theorem Tb.za239 : (Tryz.prog.info? 239).any (·.zero.isSome) = true := by kernel_rfl
@[simp] theorem Tb.zb239 : ((Tryz.prog.info? 239).bind (·.zero)).isSome = true := by kernel_rfl
@[simp] theorem Tb.el239 : elOK Tryz.prog 239 := elOK_of (by kernel_rfl)
@[simp] theorem Tb.tk243 : tk Tryz.prog 243 = 1 := by kernel_rfl
@[simp] theorem Tb.sz243 : Program.cellsOf Tryz.prog 243 = 1 := by kernel_rfl
@[simp] theorem Tb.sl243 : slT Tryz.prog 243 = none := by kernel_rfl
@[simp] theorem Tb.st243 : isStr Tryz.prog 243 = false := by kernel_rfl
@[simp] theorem Tb.bo243 : isBool Tryz.prog 243 = false := by kernel_rfl
@[simp] theorem Tb.in243 : intT Tryz.prog 243 = some .i64 := by kernel_rfl
@[simp] theorem Tb.un243 : (Tryz.prog.underlying 243).isSome = true := by kernel_rfl
@[simp] theorem Tb.zr243 : zrT Tryz.prog 243 = [.int .i64 0] := by kernel_rfl
@[simp] theorem Tb.za243 : (Tryz.prog.info? 243).any (·.zero.isSome) = true := by kernel_rfl
@[simp] theorem Tb.zb243 : ((Tryz.prog.info? 243).bind (·.zero)).isSome = true := by kernel_rfl
@[simp] theorem Tb.el243 : elOK Tryz.prog 243 := elOK_of (by kernel_rfl)
@[simp] theorem Tb.tk250 : tk Tryz.prog 250 = 1 := by kernel_rfl
@[simp] theorem Tb.sz250 : Program.cellsOf Tryz.prog 250 = 1 := by kernel_rfl
@[simp] theorem Tb.sl250 : slT Tryz.prog 250 = none := by kernel_rfl
@[simp] theorem Tb.st250 : isStr Tryz.prog 250 = false := by kernel_rfl
@[simp] theorem Tb.bo250 : isBool Tryz.prog 250 = false := by kernel_rfl
@[simp] theorem Tb.in250 : intT Tryz.prog 250 = some .u32 := by kernel_rfl
@[simp] theorem Tb.un250 : (Tryz.prog.underlying 250).isSome = true := by kernel_rfl
@[simp] theorem Tb.zr250 : zrT Tryz.prog 250 = [.int .u32 0] := by kernel_rfl
@[simp] theorem Tb.za250 : (Tryz.prog.info? 250).any (·.zero.isSome) = true := by kernel_rfl
@[simp] theorem Tb.zb250 : ((Tryz.prog.info? 250).bind (·.zero)).isSome = true := by kernel_rfl
@[simp] theorem Tb.el250 : elOK Tryz.prog 250 := elOK_of (by kernel_rfl)
@[simp] theorem Tb.tk252 : tk Tryz.prog 252 = 1 := by kernel_rfl
@[simp] theorem Tb.sz252 : Program.cellsOf Tryz.prog 252 = 1 := by kernel_rfl
@[simp] theorem Tb.sl252 : slT Tryz.prog 252 = none := by kernel_rfl
@[simp] theorem Tb.st252 : isStr Tryz.prog 252 = false := by kernel_rfl
@[simp] theorem Tb.bo252 : isBool Tryz.prog 252 = false := by kernel_rfl
@[simp] theorem Tb.in252 : intT Tryz.prog 252 = some .u64 := by kernel_rfl
@[simp] theorem Tb.un252 : (Tryz.prog.underlying 252).isSome = true := by kernel_rfl
@[simp] theorem Tb.zr252 : zrT Tryz.prog 252 = [.int .u64 0] := by kernel_rfl
@[simp] theorem Tb.za252 : (Tryz.prog.info? 252).any (·.zero.isSome) = true := by kernel_rfl
@[simp] theorem Tb.zb252 : ((Tryz.prog.info? 252).bind (·.zero)).isSome = true := by kernel_rfl
@[simp] theorem Tb.el252 : elOK Tryz.prog 252 := elOK_of (by kernel_rfl)
@[simp] theorem Tb.tk253 : tk Tryz.prog 253 = 1 := by kernel_rfl
@[simp] theorem Tb.sz253 : Program.cellsOf Tryz.prog 253 = 1 := by kernel_rfl
@[simp] theorem Tb.sl253 : slT Tryz.prog 253 = none := by kernel_rfl
@[simp] theorem Tb.st253 : isStr Tryz.prog 253 = false := by kernel_rfl
@[simp] theorem Tb.bo253 : isBool Tryz.prog 253 = false := by kernel_rfl
@[simp] theorem Tb.in253 : intT Tryz.prog 253 = none := by kernel_rfl
@[simp] theorem Tb.un253 : (Tryz.prog.underlying 253).isSome = true := by kernel_rfl
@[simp] theorem Tb.zr253 : zrT Tryz.prog 253 = [.pointer none] := by kernel_rfl
@[simp] theorem Tb.za253 : (Tryz.prog.info? 253).any (·.zero.isSome) = true := by kernel_rfl
@[simp] theorem Tb.zb253 : ((Tryz.prog.info? 253).bind (·.zero)).isSome = true := by kernel_rfl
@[simp] theorem Tb.el253 : elOK Tryz.prog 253 := elOK_of (by kernel_rfl)
@[simp] theorem Tb.tk254 : tk Tryz.prog 254 = 1 := by kernel_rfl
@[simp] theorem Tb.sz254 : Program.cellsOf Tryz.prog 254 = 1 := by kernel_rfl
@[simp] theorem Tb.sl254 : slT Tryz.prog 254 = none := by kernel_rfl
@[simp] theorem Tb.st254 : isStr Tryz.prog 254 = false := by kernel_rfl
@[simp] theorem Tb.bo254 : isBool Tryz.prog 254 = false := by kernel_rfl
@[simp] theorem Tb.in254 : intT Tryz.prog 254 = none := by kernel_rfl
@[simp] theorem Tb.un254 : (Tryz.prog.underlying 254).isSome = true := by kernel_rfl
@[simp] theorem Tb.zr254 : zrT Tryz.prog 254 = [.nilFunc] := by kernel_rfl
@[simp] theorem Tb.za254 : (Tryz.prog.info? 254).any (·.zero.isSome) = true := by kernel_rfl
@[simp] theorem Tb.zb254 : ((Tryz.prog.info? 254).bind (·.zero)).isSome = true := by kernel_rfl
@[simp] theorem Tb.el254 : elOK Tryz.prog 254 := elOK_of (by kernel_rfl)
@[simp] theorem Tb.tk255 : tk Tryz.prog 255 = 2 := by kernel_rfl
@[simp] theorem Tb.sz255 : Program.cellsOf Tryz.prog 255 = 3 := by kernel_rfl
@[simp] theorem Tb.sl255 : slT Tryz.prog 255 = none := by kernel_rfl
@[simp] theorem Tb.ar255 : arT Tryz.prog 255 = some (3, 254) := by kernel_rfl
@[simp] theorem Tb.st255 : isStr Tryz.prog 255 = false := by kernel_rfl
@[simp] theorem Tb.bo255 : isBool Tryz.prog 255 = false := by kernel_rfl
@[simp] theorem Tb.in255 : intT Tryz.prog 255 = none := by kernel_rfl
@[simp] theorem Tb.un255 : (Tryz.prog.underlying 255).isSome = true := by kernel_rfl
@[simp] theorem Tb.zr255 : zrT Tryz.prog 255 = [.nilFunc, .nilFunc, .nilFunc] := by kernel_rfl
@[simp] theorem Tb.za255 : (Tryz.prog.info? 255).any (·.zero.isSome) = true := by kernel_rfl
@[simp] theorem Tb.zb255 : ((Tryz.prog.info? 255).bind (·.zero)).isSome = true := by kernel_rfl
@[simp] theorem Tb.el255 : elOK Tryz.prog 255 := elOK_of (by kernel_rfl)
@[simp] theorem Tb.bl255 : bldT Tryz.prog 255 = some ([.nilFunc, .nilFunc, .nilFunc], [(0, 1), (1, 1), (2, 1)]) := by kernel_rfl
@[simp] theorem Tb.tk256 : tk Tryz.prog 256 = 2 := by kernel_rfl
@[simp] theorem Tb.sz256 : Program.cellsOf Tryz.prog 256 = 9 := by kernel_rfl
@[simp] theorem Tb.ff256_0 : foff Tryz.prog 256 0 = some (0, 26) := by kernel_rfl
@[simp] theorem Tb.ff256_1 : foff Tryz.prog 256 1 = some (5, 176) := by kernel_rfl
@[simp] theorem Tb.ff256_2 : foff Tryz.prog 256 2 = some (6, 255) := by kernel_rfl
@[simp] theorem Tb.cm256 : cmpT Tryz.prog 256 = none := by kernel_rfl
@[simp] theorem Tb.sl256 : slT Tryz.prog 256 = none := by kernel_rfl
@[simp] theorem Tb.st256 : isStr Tryz.prog 256 = false := by kernel_rfl
@[simp] theorem Tb.bo256 : isBool Tryz.prog 256 = false := by kernel_rfl
@[simp] theorem Tb.in256 : intT Tryz.prog 256 = none := by kernel_rfl
@[simp] theorem Tb.un256 : (Tryz.prog.underlying 256).isSome = true := by kernel_rfl
@[simp] theorem Tb.zr256 : zrT Tryz.prog 256 = [.int .i64 0, .slice none 0 0, .slice none 0 0, .slice none 0 0, .slice none 0 0, .map none, .nilFunc, .nilFunc, .nilFunc] := by kernel_rfl
@[simp] theorem Tb.za256 : (Tryz.prog.info? 256).any (·.zero.isSome) = true := by kernel_rfl
@[simp] theorem Tb.zb256 : ((Tryz.prog.info? 256).bind (·.zero)).isSome = true := by kernel_rfl
@[simp] theorem Tb.el256 : elOK Tryz.prog 256 := elOK_of (by kernel_rfl)
@[simp] theorem Tb.bl256 : bldT Tryz.prog 256 = some ([.int .i64 0, .slice none 0 0, .slice none 0 0, .slice none 0 0, .slice none 0 0, .map none, .nilFunc, .nilFunc, .nilFunc], [(0, 5), (5, 1), (6, 3)]) := by kernel_rfl
@[simp] theorem Tb.tk257 : tk Tryz.prog 257 = 2 := by kernel_rfl
@[simp] theorem Tb.sz257 : Program.cellsOf Tryz.prog 257 = 9 := by kernel_rfl
@[simp] theorem Tb.ff257_0 : foff Tryz.prog 257 0 = some (0, 26) := by kernel_rfl
@[simp] theorem Tb.ff257_1 : foff Tryz.prog 257 1 = some (5, 176) := by kernel_rfl
@[simp] theorem Tb.ff257_2 : foff Tryz.prog 257 2 = some (6, 255) := by kernel_rfl
@[simp] theorem Tb.cm257 : cmpT Tryz.prog 257 = none := by kernel_rfl
@[simp] theorem Tb.sl257 : slT Tryz.prog 257 = none := by kernel_rfl
@[simp] theorem Tb.st257 : isStr Tryz.prog 257 = false := by kernel_rfl
@[simp] theorem Tb.bo257 : isBool Tryz.prog 257 = false := by kernel_rfl
@[simp] theorem Tb.in257 : intT Tryz.prog 257 = none := by kernel_rfl
@[simp] theorem Tb.un257 : (Tryz.prog.underlying 257).isSome = true := by kernel_rfl
@[simp] theorem Tb.zr257 : zrT Tryz.prog 257 = [.int .i64 0, .slice none 0 0, .slice none 0 0, .slice none 0 0, .slice none 0 0, .map none, .nilFunc, .nilFunc, .nilFunc] := by kernel_rfl
@[simp] theorem Tb.za257 : (Tryz.prog.info? 257).any (·.zero.isSome) = true := by kernel_rfl
@[simp] theorem Tb.zb257 : ((Tryz.prog.info? 257).bind (·.zero)).isSome = true := by kernel_rfl
@[simp] theorem Tb.el257 : elOK Tryz.prog 257 := elOK_of (by kernel_rfl)
@[simp] theorem Tb.bl257 : bldT Tryz.prog 257 = some ([.int .i64 0, .slice none 0 0, .slice none 0 0, .slice none 0 0, .slice none 0 0, .map none, .nilFunc, .nilFunc, .nilFunc], [(0, 5), (5, 1), (6, 3)]) := by kernel_rfl
@[simp] theorem Tb.tk259 : tk Tryz.prog 259 = 1 := by kernel_rfl
@[simp] theorem Tb.sz259 : Program.cellsOf Tryz.prog 259 = 1 := by kernel_rfl
@[simp] theorem Tb.sl259 : slT Tryz.prog 259 = none := by kernel_rfl
@[simp] theorem Tb.mp259 : mpT Tryz.prog 259 = none := by kernel_rfl
@[simp] theorem Tb.ms259 : msT Tryz.prog 259 = none := by kernel_rfl
@[simp] theorem Tb.st259 : isStr Tryz.prog 259 = false := by kernel_rfl
@[simp] theorem Tb.bo259 : isBool Tryz.prog 259 = false := by kernel_rfl
@[simp] theorem Tb.in259 : intT Tryz.prog 259 = none := by kernel_rfl
@[simp] theorem Tb.un259 : (Tryz.prog.underlying 259).isSome = true := by kernel_rfl
@[simp] theorem Tb.zr259 : zrT Tryz.prog 259 = [.map none] := by kernel_rfl
@[simp] theorem Tb.za259 : (Tryz.prog.info? 259).any (·.zero.isSome) = true := by kernel_rfl
@[simp] theorem Tb.zb259 : ((Tryz.prog.info? 259).bind (·.zero)).isSome = true := by kernel_rfl
@[simp] theorem Tb.el259 : elOK Tryz.prog 259 := elOK_of (by kernel_rfl)
@[simp] theorem Tb.tk260 : tk Tryz.prog 260 = 2 := by kernel_rfl
@[simp] theorem Tb.sz260 : Program.cellsOf Tryz.prog 260 = 4 := by kernel_rfl
@[simp] theorem Tb.ff260_0 : foff Tryz.prog 260 0 = some (0, 3) := by kernel_rfl
@[simp] theorem Tb.ff260_1 : foff Tryz.prog 260 1 = some (1, 3) := by kernel_rfl
@[simp] theorem Tb.ff260_2 : foff Tryz.prog 260 2 = some (2, 4) := by kernel_rfl
@[simp] theorem Tb.ff260_3 : foff Tryz.prog 260 3 = some (3, 3) := by kernel_rfl
@[simp] theorem Tb.cm260 : cmpT Tryz.prog 260 = some [.int .i64, .int .i64, .bool, .int .i64] := by kernel_rfl
@[simp] theorem Tb.sl260 : slT Tryz.prog 260 = none := by kernel_rfl
@[simp] theorem Tb.st260 : isStr Tryz.prog 260 = false := by kernel_rfl
@[simp] theorem Tb.bo260 : isBool Tryz.prog 260 = false := by kernel_rfl
@[simp] theorem Tb.in260 : intT Tryz.prog 260 = none := by kernel_rfl
@[simp] theorem Tb.un260 : (Tryz.prog.underlying 260).isSome = true := by kernel_rfl
@[simp] theorem Tb.zr260 : zrT Tryz.prog 260 = [.int .i64 0, .int .i64 0, .bool false, .int .i64 0] := by kernel_rfl
@[simp] theorem Tb.za260 : (Tryz.prog.info? 260).any (·.zero.isSome) = true := by kernel_rfl
@[simp] theorem Tb.zb260 : ((Tryz.prog.info? 260).bind (·.zero)).isSome = true := by kernel_rfl
@[simp] theorem Tb.el260 : elOK Tryz.prog 260 := elOK_of (by kernel_rfl)
@[simp] theorem Tb.bl260 : bldT Tryz.prog 260 = some ([.int .i64 0, .int .i64 0, .bool false, .int .i64 0], [(0, 1), (1, 1), (2, 1), (3, 1)]) := by kernel_rfl
@[simp] theorem Tb.tk261 : tk Tryz.prog 261 = 2 := by kernel_rfl
@[simp] theorem Tb.sz261 : Program.cellsOf Tryz.prog 261 = 4 := by kernel_rfl
@[simp] theorem Tb.ff261_0 : foff Tryz.prog 261 0 = some (0, 3) := by kernel_rfl
@[simp] theorem Tb.ff261_1 : foff Tryz.prog 261 1 = some (1, 3) := by kernel_rfl
@[simp] theorem Tb.ff261_2 : foff Tryz.prog 261 2 = some (2, 4) := by kernel_rfl
@[simp] theorem Tb.ff261_3 : foff Tryz.prog 261 3 = some (3, 3) := by kernel_rfl
@[simp] theorem Tb.cm261 : cmpT Tryz.prog 261 = some [.int .i64, .int .i64, .bool, .int .i64] := by kernel_rfl
@[simp] theorem Tb.sl261 : slT Tryz.prog 261 = none := by kernel_rfl
@[simp] theorem Tb.st261 : isStr Tryz.prog 261 = false := by kernel_rfl
@[simp] theorem Tb.bo261 : isBool Tryz.prog 261 = false := by kernel_rfl
@[simp] theorem Tb.in261 : intT Tryz.prog 261 = none := by kernel_rfl
@[simp] theorem Tb.un261 : (Tryz.prog.underlying 261).isSome = true := by kernel_rfl
@[simp] theorem Tb.zr261 : zrT Tryz.prog 261 = [.int .i64 0, .int .i64 0, .bool false, .int .i64 0] := by kernel_rfl
@[simp] theorem Tb.za261 : (Tryz.prog.info? 261).any (·.zero.isSome) = true := by kernel_rfl
@[simp] theorem Tb.zb261 : ((Tryz.prog.info? 261).bind (·.zero)).isSome = true := by kernel_rfl
@[simp] theorem Tb.el261 : elOK Tryz.prog 261 := elOK_of (by kernel_rfl)
@[simp] theorem Tb.bl261 : bldT Tryz.prog 261 = some ([.int .i64 0, .int .i64 0, .bool false, .int .i64 0], [(0, 1), (1, 1), (2, 1), (3, 1)]) := by kernel_rfl
@[simp] theorem Tb.tk268 : tk Tryz.prog 268 = 1 := by kernel_rfl
@[simp] theorem Tb.sz268 : Program.cellsOf Tryz.prog 268 = 1 := by kernel_rfl
@[simp] theorem Tb.sl268 : slT Tryz.prog 268 = some 128 := by kernel_rfl
@[simp] theorem Tb.st268 : isStr Tryz.prog 268 = false := by kernel_rfl
@[simp] theorem Tb.bo268 : isBool Tryz.prog 268 = false := by kernel_rfl
@[simp] theorem Tb.in268 : intT Tryz.prog 268 = none := by kernel_rfl
@[simp] theorem Tb.un268 : (Tryz.prog.underlying 268).isSome = true := by kernel_rfl
@[simp] theorem Tb.zr268 : zrT Tryz.prog 268 = [.slice none 0 0] := by kernel_rfl
@[simp] theorem Tb.za268 : (Tryz.prog.info? 268).any (·.zero.isSome) = true := by kernel_rfl
@[simp] theorem Tb.zb268 : ((Tryz.prog.info? 268).bind (·.zero)).isSome = true := by kernel_rfl
@[simp] theorem Tb.el268 : elOK Tryz.prog 268 := elOK_of (by kernel_rfl)
@[simp] theorem Tb.tk269 : tk Tryz.prog 269 = 1 := by kernel_rfl
@[simp] theorem Tb.sz269 : Program.cellsOf Tryz.prog 269 = 1 := by kernel_rfl
@[simp] theorem Tb.sl269 : slT Tryz.prog 269 = none := by kernel_rfl
@[simp] theorem Tb.st269 : isStr Tryz.prog 269 = false := by kernel_rfl
@[simp] theorem Tb.bo269 : isBool Tryz.prog 269 = false := by kernel_rfl
@[simp] theorem Tb.in269 : intT Tryz.prog 269 = none := by kernel_rfl
@[simp] theorem Tb.un269 : (Tryz.prog.underlying 269).isSome = true := by kernel_rfl
@[simp] theorem Tb.zr269 : zrT Tryz.prog 269 = [.pointer none] := by kernel_rfl
@[simp] theorem Tb.za269 : (Tryz.prog.info? 269).any (·.zero.isSome) = true := by kernel_rfl
@[simp] theorem Tb.zb269 : ((Tryz.prog.info? 269).bind (·.zero)).isSome = true := by kernel_rfl
@[simp] theorem Tb.el269 : elOK Tryz.prog 269 := elOK_of (by kernel_rfl)
@[simp] theorem Tb.tk271 : tk Tryz.prog 271 = 2 := by kernel_rfl
@[simp] theorem Tb.sz271 : Program.cellsOf Tryz.prog 271 = 2 := by kernel_rfl
@[simp] theorem Tb.sl271 : slT Tryz.prog 271 = none := by kernel_rfl
@[simp] theorem Tb.ar271 : arT Tryz.prog 271 = some (2, 9) := by kernel_rfl
@[simp] theorem Tb.st271 : isStr Tryz.prog 271 = false := by kernel_rfl
@[simp] theorem Tb.bo271 : isBool Tryz.prog 271 = false := by kernel_rfl
@[simp] theorem Tb.in271 : intT Tryz.prog 271 = none := by kernel_rfl
@[simp] theorem Tb.un271 : (Tryz.prog.underlying 271).isSome = true := by kernel_rfl
@[simp] theorem Tb.zr271 : zrT Tryz.prog 271 = [.string ⟨#[]⟩, .string ⟨#[]⟩] := by kernel_rfl
@[simp] theorem Tb.za271 : (Tryz.prog.info? 271).any (·.zero.isSome) = true := by kernel_rfl
@[simp] theorem Tb.zb271 : ((Tryz.prog.info? 271).bind (·.zero)).isSome = true := by kernel_rfl
@[simp] theorem Tb.el271 : elOK Tryz.prog 271 := elOK_of (by kernel_rfl)
@[simp] theorem Tb.bl271 : bldT Tryz.prog 271 = some ([.string ⟨#[]⟩, .string ⟨#[]⟩], [(0, 1), (1, 1)]) := by kernel_rfl
@[simp] theorem Tb.tk278 : tk Tryz.prog 278 = 2 := by kernel_rfl
@[simp] theorem Tb.sz278 : Program.cellsOf Tryz.prog 278 = 168 := by kernel_rfl
@[simp] theorem Tb.sl278 : slT Tryz.prog 278 = none := by kernel_rfl
@[simp] theorem Tb.ar278 : arT Tryz.prog 278 = some (14, 207) := by kernel_rfl
@[simp] theorem Tb.st278 : isStr Tryz.prog 278 = false := by kernel_rfl
@[simp] theorem Tb.bo278 : isBool Tryz.prog 278 = false := by kernel_rfl
@[simp] theorem Tb.in278 : intT Tryz.prog 278 = none := by kernel_rfl
@[simp] theorem Tb.un278 : (Tryz.prog.underlying 278).isSome = true := by kernel_rfl
@[simp] theorem Tb.zr278 : zrT Tryz.prog 278 = [.string ⟨#[]⟩, .string ⟨#[]⟩, .slice none 0 0, .slice none 0 0, .slice none 0 0, .slice none 0 0, .slice none 0 0, .string ⟨#[]⟩, .string ⟨#[]⟩, .int .i64 0, .nilFunc, .nilFunc, .string ⟨#[]⟩, .string ⟨#[]⟩, .slice none 0 0, .slice none 0 0, .slice none 0 0, .slice none 0 0, .slice none 0 0, .string ⟨#[]⟩, .string ⟨#[]⟩, .int .i64 0, .nilFunc, .nilFunc, .string ⟨#[]⟩, .string ⟨#[]⟩, .slice none 0 0, .slice none 0 0, .slice none 0 0, .slice none 0 0, .slice none 0 0, .string ⟨#[]⟩, .string ⟨#[]⟩, .int .i64 0, .nilFunc, .nilFunc, .string ⟨#[]⟩, .string ⟨#[]⟩, .slice none 0 0, .slice none 0 0, .slice none 0 0, .slice none 0 0, .slice none 0 0, .string ⟨#[]⟩, .string ⟨#[]⟩, .int .i64 0, .nilFunc, .nilFunc, .string ⟨#[]⟩, .string ⟨#[]⟩, .slice none 0 0, .slice none 0 0, .slice none 0 0, .slice none 0 0, .slice none 0 0, .string ⟨#[]⟩, .string ⟨#[]⟩, .int .i64 0, .nilFunc, .nilFunc, .string ⟨#[]⟩, .string ⟨#[]⟩, .slice none 0 0, .slice none 0 0, .slice none 0 0, .slice none 0 0, .slice none 0 0, .string ⟨#[]⟩, .string ⟨#[]⟩, .int .i64 0, .nilFunc, .nilFunc, .string ⟨#[]⟩, .string ⟨#[]⟩, .slice none 0 0, .slice none 0 0, .slice none 0 0, .slice none 0 0, .slice none 0 0, .string ⟨#[]⟩, .string ⟨#[]⟩, .int .i64 0, .nilFunc, .nilFunc, .string ⟨#[]⟩, .string ⟨#[]⟩, .slice none 0 0, .slice none 0 0, .slice none 0 0, .slice none 0 0, .slice none 0 0, .string ⟨#[]⟩, .string ⟨#[]⟩, .int .i64 0, .nilFunc, .nilFunc, .string ⟨#[]⟩, .string ⟨#[]⟩, .slice none 0 0, .slice none 0 0, .slice none 0 0, .slice none 0 0, .slice none 0 0, .string ⟨#[]⟩, .string ⟨#[]⟩, .int .i64 0, .nilFunc, .nilFunc, .string ⟨#[]⟩, .string ⟨#[]⟩, .slice none 0 0, .slice none 0 0, .slice none 0 0, .slice none 0 0, .slice none 0 0, .string ⟨#[]⟩, .string ⟨#[]⟩, .int .i64 0, .nilFunc, .nilFunc, .string ⟨#[]⟩, .string ⟨#[]⟩, .slice none 0 0, .slice none 0 0, .slice none 0 0, .slice none 0 0, .slice none 0 0, .string ⟨#[]⟩, .string ⟨#[]⟩, .int .i64 0, .nilFunc, .nilFunc, .string ⟨#[]⟩, .string ⟨#[]⟩, .slice none 0 0, .slice none 0 0, .slice none 0 0, .slice none 0 0, .slice none 0 0, .string ⟨#[]⟩, .string ⟨#[]⟩, .int .i64 0, .nilFunc, .nilFunc, .string ⟨#[]⟩, .string ⟨#[]⟩, .slice none 0 0, .slice none 0 0, .slice none 0 0, .slice none 0 0, .slice none 0 0, .string ⟨#[]⟩, .string ⟨#[]⟩, .int .i64 0, .nilFunc, .nilFunc, .string ⟨#[]⟩, .string ⟨#[]⟩, .slice none 0 0, .slice none 0 0, .slice none 0 0, .slice none 0 0, .slice none 0 0, .string ⟨#[]⟩, .string ⟨#[]⟩, .int .i64 0, .nilFunc, .nilFunc] := by kernel_rfl
@[simp] theorem Tb.za278 : (Tryz.prog.info? 278).any (·.zero.isSome) = true := by kernel_rfl
@[simp] theorem Tb.zb278 : ((Tryz.prog.info? 278).bind (·.zero)).isSome = true := by kernel_rfl
@[simp] theorem Tb.el278 : elOK Tryz.prog 278 := elOK_of (by kernel_rfl)
@[simp] theorem Tb.bl278 : bldT Tryz.prog 278 = some ([.string ⟨#[]⟩, .string ⟨#[]⟩, .slice none 0 0, .slice none 0 0, .slice none 0 0, .slice none 0 0, .slice none 0 0, .string ⟨#[]⟩, .string ⟨#[]⟩, .int .i64 0, .nilFunc, .nilFunc, .string ⟨#[]⟩, .string ⟨#[]⟩, .slice none 0 0, .slice none 0 0, .slice none 0 0, .slice none 0 0, .slice none 0 0, .string ⟨#[]⟩, .string ⟨#[]⟩, .int .i64 0, .nilFunc, .nilFunc, .string ⟨#[]⟩, .string ⟨#[]⟩, .slice none 0 0, .slice none 0 0, .slice none 0 0, .slice none 0 0, .slice none 0 0, .string ⟨#[]⟩, .string ⟨#[]⟩, .int .i64 0, .nilFunc, .nilFunc, .string ⟨#[]⟩, .string ⟨#[]⟩, .slice none 0 0, .slice none 0 0, .slice none 0 0, .slice none 0 0, .slice none 0 0, .string ⟨#[]⟩, .string ⟨#[]⟩, .int .i64 0, .nilFunc, .nilFunc, .string ⟨#[]⟩, .string ⟨#[]⟩, .slice none 0 0, .slice none 0 0, .slice none 0 0, .slice none 0 0, .slice none 0 0, .string ⟨#[]⟩, .string ⟨#[]⟩, .int .i64 0, .nilFunc, .nilFunc, .string ⟨#[]⟩, .string ⟨#[]⟩, .slice none 0 0, .slice none 0 0, .slice none 0 0, .slice none 0 0, .slice none 0 0, .string ⟨#[]⟩, .string ⟨#[]⟩, .int .i64 0, .nilFunc, .nilFunc, .string ⟨#[]⟩, .string ⟨#[]⟩, .slice none 0 0, .slice none 0 0, .slice none 0 0, .slice none 0 0, .slice none 0 0, .string ⟨#[]⟩, .string ⟨#[]⟩, .int .i64 0, .nilFunc, .nilFunc, .string ⟨#[]⟩, .string ⟨#[]⟩, .slice none 0 0, .slice none 0 0, .slice none 0 0, .slice none 0 0, .slice none 0 0, .string ⟨#[]⟩, .string ⟨#[]⟩, .int .i64 0, .nilFunc, .nilFunc, .string ⟨#[]⟩, .string ⟨#[]⟩, .slice none 0 0, .slice none 0 0, .slice none 0 0, .slice none 0 0, .slice none 0 0, .string ⟨#[]⟩, .string ⟨#[]⟩, .int .i64 0, .nilFunc, .nilFunc, .string ⟨#[]⟩, .string ⟨#[]⟩, .slice none 0 0, .slice none 0 0, .slice none 0 0, .slice none 0 0, .slice none 0 0, .string ⟨#[]⟩, .string ⟨#[]⟩, .int .i64 0, .nilFunc, .nilFunc, .string ⟨#[]⟩, .string ⟨#[]⟩, .slice none 0 0, .slice none 0 0, .slice none 0 0, .slice none 0 0, .slice none 0 0, .string ⟨#[]⟩, .string ⟨#[]⟩, .int .i64 0, .nilFunc, .nilFunc, .string ⟨#[]⟩, .string ⟨#[]⟩, .slice none 0 0, .slice none 0 0, .slice none 0 0, .slice none 0 0, .slice none 0 0, .string ⟨#[]⟩, .string ⟨#[]⟩, .int .i64 0, .nilFunc, .nilFunc, .string ⟨#[]⟩, .string ⟨#[]⟩, .slice none 0 0, .slice none 0 0, .slice none 0 0, .slice none 0 0, .slice none 0 0, .string ⟨#[]⟩, .string ⟨#[]⟩, .int .i64 0, .nilFunc, .nilFunc, .string ⟨#[]⟩, .string ⟨#[]⟩, .slice none 0 0, .slice none 0 0, .slice none 0 0, .slice none 0 0, .slice none 0 0, .string ⟨#[]⟩, .string ⟨#[]⟩, .int .i64 0, .nilFunc, .nilFunc], [(0, 12), (12, 12), (24, 12), (36, 12), (48, 12), (60, 12), (72, 12), (84, 12), (96, 12), (108, 12), (120, 12), (132, 12), (144, 12), (156, 12)]) := by kernel_rfl
@[simp] theorem Tb.tk288 : tk Tryz.prog 288 = 1 := by kernel_rfl
@[simp] theorem Tb.sz288 : Program.cellsOf Tryz.prog 288 = 1 := by kernel_rfl
@[simp] theorem Tb.sl288 : slT Tryz.prog 288 = none := by kernel_rfl
@[simp] theorem Tb.st288 : isStr Tryz.prog 288 = false := by kernel_rfl
@[simp] theorem Tb.bo288 : isBool Tryz.prog 288 = false := by kernel_rfl
@[simp] theorem Tb.in288 : intT Tryz.prog 288 = none := by kernel_rfl
@[simp] theorem Tb.un288 : (Tryz.prog.underlying 288).isSome = true := by kernel_rfl
@[simp] theorem Tb.zr288 : zrT Tryz.prog 288 = [.nilFunc] := by kernel_rfl
@[simp] theorem Tb.za288 : (Tryz.prog.info? 288).any (·.zero.isSome) = true := by kernel_rfl
@[simp] theorem Tb.zb288 : ((Tryz.prog.info? 288).bind (·.zero)).isSome = true := by kernel_rfl
@[simp] theorem Tb.el288 : elOK Tryz.prog 288 := elOK_of (by kernel_rfl)
@[simp] theorem Tb.tk289 : tk Tryz.prog 289 = 1 := by kernel_rfl
@[simp] theorem Tb.sz289 : Program.cellsOf Tryz.prog 289 = 1 := by kernel_rfl
@[simp] theorem Tb.sl289 : slT Tryz.prog 289 = none := by kernel_rfl
@[simp] theorem Tb.st289 : isStr Tryz.prog 289 = false := by kernel_rfl
@[simp] theorem Tb.bo289 : isBool Tryz.prog 289 = false := by kernel_rfl
@[simp] theorem Tb.in289 : intT Tryz.prog 289 = none := by kernel_rfl
@[simp] theorem Tb.un289 : (Tryz.prog.underlying 289).isSome = true := by kernel_rfl
@[simp] theorem Tb.zr289 : zrT Tryz.prog 289 = [.nilFunc] := by kernel_rfl
@[simp] theorem Tb.za289 : (Tryz.prog.info? 289).any (·.zero.isSome) = true := by kernel_rfl
@[simp] theorem Tb.zb289 : ((Tryz.prog.info? 289).bind (·.zero)).isSome = true := by kernel_rfl
@[simp] theorem Tb.el289 : elOK Tryz.prog 289 := elOK_of (by kernel_rfl)
@[simp] theorem Tb.tk293 : tk Tryz.prog 293 = 1 := by kernel_rfl
@[simp] theorem Tb.sz293 : Program.cellsOf Tryz.prog 293 = 1 := by kernel_rfl
@[simp] theorem Tb.sl293 : slT Tryz.prog 293 = some 297 := by kernel_rfl
@[simp] theorem Tb.st293 : isStr Tryz.prog 293 = false := by kernel_rfl
@[simp] theorem Tb.bo293 : isBool Tryz.prog 293 = false := by kernel_rfl
@[simp] theorem Tb.in293 : intT Tryz.prog 293 = none := by kernel_rfl
@[simp] theorem Tb.un293 : (Tryz.prog.underlying 293).isSome = true := by kernel_rfl
@[simp] theorem Tb.zr293 : zrT Tryz.prog 293 = [.slice none 0 0] := by kernel_rfl
@[simp] theorem Tb.za293 : (Tryz.prog.info? 293).any (·.zero.isSome) = true := by kernel_rfl
@[simp] theorem Tb.zb293 : ((Tryz.prog.info? 293).bind (·.zero)).isSome = true := by kernel_rfl
@[simp] theorem Tb.el293 : elOK Tryz.prog 293 := elOK_of (by kernel_rfl)
@[simp] theorem Tb.tk296 : tk Tryz.prog 296 = 2 := by kernel_rfl
@[simp] theorem Tb.sz296 : Program.cellsOf Tryz.prog 296 = 3 := by kernel_rfl
@[simp] theorem Tb.ff296_0 : foff Tryz.prog 296 0 = some (0, 9) := by kernel_rfl
@[simp] theorem Tb.ff296_1 : foff Tryz.prog 296 1 = some (1, 22) := by kernel_rfl
@[simp] theorem Tb.ff296_2 : foff Tryz.prog 296 2 = some (2, 4) := by kernel_rfl
@[simp] theorem Tb.cm296 : cmpT Tryz.prog 296 = none := by kernel_rfl
@[simp] theorem Tb.sl296 : slT Tryz.prog 296 = none := by kernel_rfl
@[simp] theorem Tb.st296 : isStr Tryz.prog 296 = false := by kernel_rfl
@[simp] theorem Tb.bo296 : isBool Tryz.prog 296 = false := by kernel_rfl
@[simp] theorem Tb.in296 : intT Tryz.prog 296 = none := by kernel_rfl
@[simp] theorem Tb.un296 : (Tryz.prog.underlying 296).isSome = true := by kernel_rfl
@[simp] theorem Tb.zr296 : zrT Tryz.prog 296 = [.string ⟨#[]⟩, .slice none 0 0, .bool false] := by kernel_rfl
@[simp] theorem Tb.za296 : (Tryz.prog.info? 296).any (·.zero.isSome) = true := by kernel_rfl
@[simp] theorem Tb.zb296 : ((Tryz.prog.info? 296).bind (·.zero)).isSome = true := by kernel_rfl
@[simp] theorem Tb.el296 : elOK Tryz.prog 296 := elOK_of (by kernel_rfl)
@[simp] theorem Tb.bl296 : bldT Tryz.prog 296 = some ([.string ⟨#[]⟩, .slice none 0 0, .bool false], [(0, 1), (1, 1), (2, 1)]) := by kernel_rfl
@[simp] theorem Tb.tk297 : tk Tryz.prog 297 = 2 := by kernel_rfl
@[simp] theorem Tb.sz297 : Program.cellsOf Tryz.prog 297 = 3 := by kernel_rfl
@[simp] theorem Tb.ff297_0 : foff Tryz.prog 297 0 = some (0, 9) := by kernel_rfl
@[simp] theorem Tb.ff297_1 : foff Tryz.prog 297 1 = some (1, 22) := by kernel_rfl
@[simp] theorem Tb.ff297_2 : foff Tryz.prog 297 2 = some (2, 4) := by kernel_rfl
@[simp] theorem Tb.cm297 : cmpT Tryz.prog 297 = none := by kernel_rfl
@[simp] theorem Tb.sl297 : slT Tryz.prog 297 = none := by kernel_rfl
@[simp] theorem Tb.st297 : isStr Tryz.prog 297 = false := by kernel_rfl
@[simp] theorem Tb.bo297 : isBool Tryz.prog 297 = false := by kernel_rfl
@[simp] theorem Tb.in297 : intT Tryz.prog 297 = none := by kernel_rfl
@[simp] theorem Tb.un297 : (Tryz.prog.underlying 297).isSome = true := by kernel_rfl
@[simp] theorem Tb.zr297 : zrT Tryz.prog 297 = [.string ⟨#[]⟩, .slice none 0 0, .bool false] := by kernel_rfl
@[simp] theorem Tb.za297 : (Tryz.prog.info? 297).any (·.zero.isSome) = true := by kernel_rfl
@[simp] theorem Tb.zb297 : ((Tryz.prog.info? 297).bind (·.zero)).isSome = true := by kernel_rfl
@[simp] theorem Tb.el297 : elOK Tryz.prog 297 := elOK_of (by kernel_rfl)
@[simp] theorem Tb.bl297 : bldT Tryz.prog 297 = some ([.string ⟨#[]⟩, .slice none 0 0, .bool false], [(0, 1), (1, 1), (2, 1)]) := by kernel_rfl
@[simp] theorem Tb.tk303 : tk Tryz.prog 303 = 1 := by kernel_rfl
@[simp] theorem Tb.sz303 : Program.cellsOf Tryz.prog 303 = 1 := by kernel_rfl
@[simp] theorem Tb.sl303 : slT Tryz.prog 303 = none := by kernel_rfl
@[simp] theorem Tb.st303 : isStr Tryz.prog 303 = false := by kernel_rfl
@[simp] theorem Tb.bo303 : isBool Tryz.prog 303 = false := by kernel_rfl
@[simp] theorem Tb.in303 : intT Tryz.prog 303 = some .u64 := by kernel_rfl
@[simp] theorem Tb.un303 : (Tryz.prog.underlying 303).isSome = true := by kernel_rfl
@[simp] theorem Tb.zr303 : zrT Tryz.prog 303 = [.int .u64 0] := by kernel_rfl
@[simp] theorem Tb.za303 : (Tryz.prog.info? 303).any (·.zero.isSome) = true := by kernel_rfl
@[simp] theorem Tb.zb303 : ((Tryz.prog.info? 303).bind (·.zero)).isSome = true := by kernel_rfl
@[simp] theorem Tb.el303 : elOK Tryz.prog 303 := elOK_of (by kernel_rfl)
@[simp] theorem Tb.tk307 : tk Tryz.prog 307 = 1 := by kernel_rfl
@[simp] theorem Tb.sz307 : Program.cellsOf Tryz.prog 307 = 1 := by kernel_rfl
@[simp] theorem Tb.sl307 : slT Tryz.prog 307 = none := by kernel_rfl
@[simp] theorem Tb.st307 : isStr Tryz.prog 307 = false := by kernel_rfl
@[simp] theorem Tb.bo307 : isBool Tryz.prog 307 = false := by kernel_rfl
@[simp] theorem Tb.in307 : intT Tryz.prog 307 = none := by kernel_rfl
@[simp] theorem Tb.un307 : (Tryz.prog.underlying 307).isSome = true := by kernel_rfl
@[simp] theorem Tb.zr307 : zrT Tryz.prog 307 = [.pointer none] := by kernel_rfl
@[simp] theorem Tb.za307 : (Tryz.prog.info? 307).any (·.zero.isSome) = true := by kernel_rfl
@[simp] theorem Tb.zb307 : ((Tryz.prog.info? 307).bind (·.zero)).isSome = true := by kernel_rfl
@[simp] theorem Tb.el307 : elOK Tryz.prog 307 := elOK_of (by kernel_rfl)
@[simp] theorem Tb.tk315 : tk Tryz.prog 315 = 1 := by kernel_rfl
@[simp] theorem Tb.sz315 : Program.cellsOf Tryz.prog 315 = 1 := by kernel_rfl
@[simp] theorem Tb.sl315 : slT Tryz.prog 315 = none := by kernel_rfl
@[simp] theorem Tb.st315 : isStr Tryz.prog 315 = false := by kernel_rfl
@[simp] theorem Tb.bo315 : isBool Tryz.prog 315 = false := by kernel_rfl
@[simp] theorem Tb.in315 : intT Tryz.prog 315 = none := by kernel_rfl
@[simp] theorem Tb.un315 : (Tryz.prog.underlying 315).isSome = true := by kernel_rfl
@[simp] theorem Tb.zr315 : zrT Tryz.prog 315 = [.nilFunc] := by kernel_rfl
@[simp] theorem Tb.za315 : (Tryz.prog.info? 315).any (·.zero.isSome) = true := by kernel_rfl
@[simp] theorem Tb.zb315 : ((Tryz.prog.info? 315).bind (·.zero)).isSome = true := by kernel_rfl
@[simp] theorem Tb.el315 : elOK Tryz.prog 315 := elOK_of (by kernel_rfl)
@[simp] theorem Tb.tk327 : tk Tryz.prog 327 = 1 := by kernel_rfl
@[simp] theorem Tb.sz327 : Program.cellsOf Tryz.prog 327 = 1 := by kernel_rfl
@[simp] theorem Tb.sl327 : slT Tryz.prog 327 = none := by kernel_rfl
@[simp] theorem Tb.st327 : isStr Tryz.prog 327 = false := by kernel_rfl
@[simp] theorem Tb.bo327 : isBool Tryz.prog 327 = false := by kernel_rfl
@[simp] theorem Tb.in327 : intT Tryz.prog 327 = none := by kernel_rfl
@[simp] theorem Tb.un327 : (Tryz.prog.underlying 327).isSome = true := by kernel_rfl
@[simp] theorem Tb.zr327 : zrT Tryz.prog 327 = [.nilFunc] := by kernel_rfl
@[simp] theorem Tb.za327 : (Tryz.prog.info? 327).any (·.zero.isSome) = true := by kernel_rfl
@[simp] theorem Tb.zb327 : ((Tryz.prog.info? 327).bind (·.zero)).isSome = true := by kernel_rfl
@[simp] theorem Tb.el327 : elOK Tryz.prog 327 := elOK_of (by kernel_rfl)
@[simp] theorem Tb.tk328 : tk Tryz.prog 328 = 1 := by kernel_rfl
@[simp] theorem Tb.sz328 : Program.cellsOf Tryz.prog 328 = 1 := by kernel_rfl
@[simp] theorem Tb.sl328 : slT Tryz.prog 328 = none := by kernel_rfl
@[simp] theorem Tb.st328 : isStr Tryz.prog 328 = false := by kernel_rfl
@[simp] theorem Tb.bo328 : isBool Tryz.prog 328 = false := by kernel_rfl
@[simp] theorem Tb.in328 : intT Tryz.prog 328 = none := by kernel_rfl
@[simp] theorem Tb.un328 : (Tryz.prog.underlying 328).isSome = true := by kernel_rfl
@[simp] theorem Tb.zr328 : zrT Tryz.prog 328 = [.nilFunc] := by kernel_rfl
@[simp] theorem Tb.za328 : (Tryz.prog.info? 328).any (·.zero.isSome) = true := by kernel_rfl
@[simp] theorem Tb.zb328 : ((Tryz.prog.info? 328).bind (·.zero)).isSome = true := by kernel_rfl
@[simp] theorem Tb.el328 : elOK Tryz.prog 328 := elOK_of (by kernel_rfl)
@[simp] theorem Tb.tk330 : tk Tryz.prog 330 = 1 := by kernel_rfl
@[simp] theorem Tb.sz330 : Program.cellsOf Tryz.prog 330 = 1 := by kernel_rfl
@[simp] theorem Tb.sl330 : slT Tryz.prog 330 = none := by kernel_rfl
@[simp] theorem Tb.st330 : isStr Tryz.prog 330 = false := by kernel_rfl
@[simp] theorem Tb.bo330 : isBool Tryz.prog 330 = false := by kernel_rfl
@[simp] theorem Tb.in330 : intT Tryz.prog 330 = none := by kernel_rfl
@[simp] theorem Tb.un330 : (Tryz.prog.underlying 330).isSome = true := by kernel_rfl
@[simp] theorem Tb.zr330 : zrT Tryz.prog 330 = [.nilFunc] := by kernel_rfl
@[simp] theorem Tb.za330 : (Tryz.prog.info? 330).any (·.zero.isSome) = true := by kernel_rfl
@[simp] theorem Tb.zb330 : ((Tryz.prog.info? 330).bind (·.zero)).isSome = true := by kernel_rfl
@[simp] theorem Tb.el330 : elOK Tryz.prog 330 := elOK_of (by kernel_rfl)
@[simp] theorem Tb.tk331 : tk Tryz.prog 331 = 2 := by kernel_rfl
@[simp] theorem Tb.sz331 : Program.cellsOf Tryz.prog 331 = 3 := by kernel_rfl
@[simp] theorem Tb.ff331_0 : foff Tryz.prog 331 0 = some (0, 3) := by kernel_rfl
@[simp] theorem Tb.ff331_1 : foff Tryz.prog 331 1 = some (1, 3) := by kernel_rfl
@[simp] theorem Tb.ff331_2 : foff Tryz.prog 331 2 = some (2, 330) := by kernel_rfl
@[simp] theorem Tb.cm331 : cmpT Tryz.prog 331 = none := by kernel_rfl
@[simp] theorem Tb.sl331 : slT Tryz.prog 331 = none := by kernel_rfl
@[simp] theorem Tb.st331 : isStr Tryz.prog 331 = false := by kernel_rfl
@[simp] theorem Tb.bo331 : isBool Tryz.prog 331 = false := by kernel_rfl
@[simp] theorem Tb.in331 : intT Tryz.prog 331 = none := by kernel_rfl
@[simp] theorem Tb.un331 : (Tryz.prog.underlying 331).isSome = true := by kernel_rfl
@[simp] theorem Tb.zr331 : zrT Tryz.prog 331 = [.int .i64 0, .int .i64 0, .nilFunc] := by kernel_rfl
@[simp] theorem Tb.za331 : (Tryz.prog.info? 331).any (·.zero.isSome) = true := by kernel_rfl
@[simp] theorem Tb.zb331 : ((Tryz.prog.info? 331).bind (·.zero)).isSome = true := by kernel_rfl
@[simp] theorem Tb.el331 : elOK Tryz.prog 331 := elOK_of (by kernel_rfl)
@[simp] theorem Tb.bl331 : bldT Tryz.prog 331 = some ([.int .i64 0, .int .i64 0, .nilFunc], [(0, 1), (1, 1), (2, 1)]) := by kernel_rfl
@[simp] theorem Tb.tk332 : tk Tryz.prog 332 = 2 := by kernel_rfl
@[simp] theorem Tb.sz332 : Program.cellsOf Tryz.prog 332 = 3 := by kernel_rfl
@[simp] theorem Tb.ff332_0 : foff Tryz.prog 332 0 = some (0, 3) := by kernel_rfl
@[simp] theorem Tb.ff332_1 : foff Tryz.prog 332 1 = some (1, 3) := by kernel_rfl
@[simp] theorem Tb.ff332_2 : foff Tryz.prog 332 2 = some (2, 330) := by kernel_rfl
@[simp] theorem Tb.cm332 : cmpT Tryz.prog 332 = none := by kernel_rfl
@[simp] theorem Tb.sl332 : slT Tryz.prog 332 = none := by kernel_rfl
@[simp] theorem Tb.st332 : isStr Tryz.prog 332 = false := by kernel_rfl
@[simp] theorem Tb.bo332 : isBool Tryz.prog 332 = false := by kernel_rfl
@[simp] theorem Tb.in332 : intT Tryz.prog 332 = none := by kernel_rfl
@[simp] theorem Tb.un332 : (Tryz.prog.underlying 332).isSome = true := by kernel_rfl
@[simp] theorem Tb.zr332 : zrT Tryz.prog 332 = [.int .i64 0, .int .i64 0, .nilFunc] := by kernel_rfl
@[simp] theorem Tb.za332 : (Tryz.prog.info? 332).any (·.zero.isSome) = true := by kernel_rfl
@[simp] theorem Tb.zb332 : ((Tryz.prog.info? 332).bind (·.zero)).isSome = true := by kernel_rfl
@[simp] theorem Tb.el332 : elOK Tryz.prog 332 := elOK_of (by kernel_rfl)
@[simp] theorem Tb.bl332 : bldT Tryz.prog 332 = some ([.int .i64 0, .int .i64 0, .nilFunc], [(0, 1), (1, 1), (2, 1)]) := by kernel_rfl
@[simp] theorem Tb.tk333 : tk Tryz.prog 333 = 2 := by kernel_rfl
@[simp] theorem Tb.sz333 : Program.cellsOf Tryz.prog 333 = 15 := by kernel_rfl
@[simp] theorem Tb.sl333 : slT Tryz.prog 333 = none := by kernel_rfl
@[simp] theorem Tb.ar333 : arT Tryz.prog 333 = some (5, 332) := by kernel_rfl
@[simp] theorem Tb.st333 : isStr Tryz.prog 333 = false := by kernel_rfl
@[simp] theorem Tb.bo333 : isBool Tryz.prog 333 = false := by kernel_rfl
@[simp] theorem Tb.in333 : intT Tryz.prog 333 = none := by kernel_rfl
@[simp] theorem Tb.un333 : (Tryz.prog.underlying 333).isSome = true := by kernel_rfl
@[simp] theorem Tb.zr333 : zrT Tryz.prog 333 = [.int .i64 0, .int .i64 0, .nilFunc, .int .i64 0, .int .i64 0, .nilFunc, .int .i64 0, .int .i64 0, .nilFunc, .int .i64 0, .int .i64 0, .nilFunc, .int .i64 0, .int .i64 0, .nilFunc] := by kernel_rfl
@[simp] theorem Tb.za333 : (Tryz.prog.info? 333).any (·.zero.isSome) = true := by kernel_rfl
@[simp] theorem Tb.zb333 : ((Tryz.prog.info? 333).bind (·.zero)).isSome = true := by kernel_rfl
@[simp] theorem Tb.el333 : elOK Tryz.prog 333 := elOK_of (by kernel_rfl)
@[simp] theorem Tb.bl333 : bldT Tryz.prog 333 = some ([.int .i64 0, .int .i64 0, .nilFunc, .int .i64 0, .int .i64 0, .nilFunc, .int .i64 0, .int .i64 0, .nilFunc, .int .i64 0, .int .i64 0, .nilFunc, .int .i64 0, .int .i64 0, .nilFunc], [(0, 3), (3, 3), (6, 3), (9, 3), (12, 3)]) := by kernel_rfl
@[simp] theorem Tb.tk336 : tk Tryz.prog 336 = 1 := by kernel_rfl
@[simp] theorem Tb.sz336 : Program.cellsOf Tryz.prog 336 = 1 := by kernel_rfl
@[simp] theorem Tb.sl336 : slT Tryz.prog 336 = none := by kernel_rfl
@[simp] theorem Tb.st336 : isStr Tryz.prog 336 = false := by kernel_rfl
@[simp] theorem Tb.bo336 : isBool Tryz.prog 336 = false := by kernel_rfl
@[simp] theorem Tb.in336 : intT Tryz.prog 336 = none := by kernel_rfl
@[simp] theorem Tb.un336 : (Tryz.prog.underlying 336).isSome = true := by kernel_rfl
@[simp] theorem Tb.zr336 : zrT Tryz.prog 336 = [.nilFunc] := by kernel_rfl
@[simp] theorem Tb.za336 : (Tryz.prog.info? 336).any (·.zero.isSome) = true := by kernel_rfl
@[simp] theorem Tb.zb336 : ((Tryz.prog.info? 336).bind (·.zero)).isSome = true := by kernel_rfl
@[simp] theorem Tb.el336 : elOK Tryz.prog 336 := elOK_of (by kernel_rfl)
@[simp] theorem Tb.tk340 : tk Tryz.prog 340 = 2 := by kernel_rfl
@[simp] theorem Tb.sz340 : Program.cellsOf Tryz.prog 340 = 3 := by kernel_rfl
@[simp] theorem Tb.sl340 : slT Tryz.prog 340 = none := by kernel_rfl
@[simp] theorem Tb.ar340 : arT Tryz.prog 340 = some (3, 5) := by kernel_rfl
@[simp] theorem Tb.st340 : isStr Tryz.prog 340 = false := by kernel_rfl
@[simp] theorem Tb.bo340 : isBool Tryz.prog 340 = false := by kernel_rfl
@[simp] theorem Tb.in340 : intT Tryz.prog 340 = none := by kernel_rfl
@[simp] theorem Tb.un340 : (Tryz.prog.underlying 340).isSome = true := by kernel_rfl
@[simp] theorem Tb.zr340 : zrT Tryz.prog 340 = [.int .u8 0, .int .u8 0, .int .u8 0] := by kernel_rfl
@[simp] theorem Tb.za340 : (Tryz.prog.info? 340).any (·.zero.isSome) = true := by kernel_rfl
@[simp] theorem Tb.zb340 : ((Tryz.prog.info? 340).bind (·.zero)).isSome = true := by kernel_rfl
@[simp] theorem Tb.el340 : elOK Tryz.prog 340 := elOK_of (by kernel_rfl)
@[simp] theorem Tb.bl340 : bldT Tryz.prog 340 = some ([.int .u8 0, .int .u8 0, .int .u8 0], [(0, 1), (1, 1), (2, 1)]) := by kernel_rfl
@[simp] theorem Tb.tk341 : tk Tryz.prog 341 = 2 := by kernel_rfl
@[simp] theorem Tb.sz341 : Program.cellsOf Tryz.prog 341 = 18 := by kernel_rfl
@[simp] theorem Tb.sl341 : slT Tryz.prog 341 = none := by kernel_rfl
@[simp] theorem Tb.ar341 : arT Tryz.prog 341 = some (6, 340) := by kernel_rfl
@[simp] theorem Tb.st341 : isStr Tryz.prog 341 = false := by kernel_rfl
@[simp] theorem Tb.bo341 : isBool Tryz.prog 341 = false := by kernel_rfl
@[simp] theorem Tb.in341 : intT Tryz.prog 341 = none := by kernel_rfl
@[simp] theorem Tb.un341 : (Tryz.prog.underlying 341).isSome = true := by kernel_rfl
@[simp] theorem Tb.zr341 : zrT Tryz.prog 341 = [.int .u8 0, .int .u8 0, .int .u8 0, .int .u8 0, .int .u8 0, .int .u8 0, .int .u8 0, .int .u8 0, .int .u8 0, .int .u8 0, .int .u8 0, .int .u8 0, .int .u8 0, .int .u8 0, .int .u8 0, .int .u8 0, .int .u8 0, .int .u8 0] := by kernel_rfl
@[simp] theorem Tb.za341 : (Tryz.prog.info? 341).any (·.zero.isSome) = true := by kernel_rfl
@[simp] theorem Tb.zb341 : ((Tryz.prog.info? 341).bind (·.zero)).isSome = true := by kernel_rfl
@[simp] theorem Tb.el341 : elOK Tryz.prog 341 := elOK_of (by kernel_rfl)
@[simp] theorem Tb.bl341 : bldT Tryz.prog 341 = some ([.int .u8 0, .int .u8 0, .int .u8 0, .int .u8 0, .int .u8 0, .int .u8 0, .int .u8 0, .int .u8 0, .int .u8 0, .int .u8 0, .int .u8 0, .int .u8 0, .int .u8 0, .int .u8 0, .int .u8 0, .int .u8 0, .int .u8 0, .int .u8 0], [(0, 3), (3, 3), (6, 3), (9, 3), (12, 3), (15, 3)]) := by kernel_rfl
@[simp] theorem Tb.tk345 : tk Tryz.prog 345 = 1 := by kernel_rfl
@[simp] theorem Tb.sz345 : Program.cellsOf Tryz.prog 345 = 1 := by kernel_rfl
@[simp] theorem Tb.sl345 : slT Tryz.prog 345 = some 22 := by kernel_rfl
@[simp] theorem Tb.st345 : isStr Tryz.prog 345 = false := by kernel_rfl
@[simp] theorem Tb.bo345 : isBool Tryz.prog 345 = false := by kernel_rfl
@[simp] theorem Tb.in345 : intT Tryz.prog 345 = none := by kernel_rfl
@[simp] theorem Tb.un345 : (Tryz.prog.underlying 345).isSome = true := by kernel_rfl
@[simp] theorem Tb.zr345 : zrT Tryz.prog 345 = [.slice none 0 0] := by kernel_rfl
@[simp] theorem Tb.za345 : (Tryz.prog.info? 345).any (·.zero.isSome) = true := by kernel_rfl
@[simp] theorem Tb.zb345 : ((Tryz.prog.info? 345).bind (·.zero)).isSome = true := by kernel_rfl
@[simp] theorem Tb.el345 : elOK Tryz.prog 345 := elOK_of (by kernel_rfl)
@[simp] theorem Tb.tk347 : tk Tryz.prog 347 = 1 := by kernel_rfl
@[simp] theorem Tb.sz347 : Program.cellsOf Tryz.prog 347 = 1 := by kernel_rfl
@[simp] theorem Tb.sl347 : slT Tryz.prog 347 = none := by kernel_rfl
@[simp] theorem Tb.st347 : isStr Tryz.prog 347 = false := by kernel_rfl
@[simp] theorem Tb.bo347 : isBool Tryz.prog 347 = false := by kernel_rfl
@[simp] theorem Tb.in347 : intT Tryz.prog 347 = none := by kernel_rfl
@[simp] theorem Tb.un347 : (Tryz.prog.underlying 347).isSome = true := by kernel_rfl
@[simp] theorem Tb.zr347 : zrT Tryz.prog 347 = [.pointer none] := by kernel_rfl
@[simp] theorem Tb.za347 : (Tryz.prog.info? 347).any (·.zero.isSome) = true := by kernel_rfl
@[simp] theorem Tb.zb347 : ((Tryz.prog.info? 347).bind (·.zero)).isSome = true := by kernel_rfl
@[simp] theorem Tb.el347 : elOK Tryz.prog 347 := elOK_of (by kernel_rfl)
@[simp] theorem Tb.tk355 : tk Tryz.prog 355 = 2 := by kernel_rfl
@[simp] theorem Tb.sz355 : Program.cellsOf Tryz.prog 355 = 24 := by kernel_rfl
@[simp] theorem Tb.sl355 : slT Tryz.prog 355 = none := by kernel_rfl
@[simp] theorem Tb.ar355 : arT Tryz.prog 355 = some (24, 5) := by kernel_rfl
@[simp] theorem Tb.st355 : isStr Tryz.prog 355 = false := by kernel_rfl
@[simp] theorem Tb.bo355 : isBool Tryz.prog 355 = false := by kernel_rfl
@[simp] theorem Tb.in355 : intT Tryz.prog 355 = none := by kernel_rfl
@[simp] theorem Tb.un355 : (Tryz.prog.underlying 355).isSome = true := by kernel_rfl
@[simp] theorem Tb.zr355 : zrT Tryz.prog 355 = [.int .u8 0, .int .u8 0, .int .u8 0, .int .u8 0, .int .u8 0, .int .u8 0, .int .u8 0, .int .u8 0, .int .u8 0, .int .u8 0, .int .u8 0, .int .u8 0, .int .u8 0, .int .u8 0, .int .u8 0, .int .u8 0, .int .u8 0, .int .u8 0, .int .u8 0, .int .u8 0, .int .u8 0, .int .u8 0, .int .u8 0, .int .u8 0] := by kernel_rfl
@[simp] theorem Tb.za355 : (Tryz.prog.info? 355).any (·.zero.isSome) = true := by kernel_rfl
@[simp] theorem Tb.zb355 : ((Tryz.prog.info? 355).bind (·.zero)).isSome = true := by kernel_rfl
@[simp] theorem Tb.el355 : elOK Tryz.prog 355 := elOK_of (by kernel_rfl)
@[simp] theorem Tb.bl355 : bldT Tryz.prog 355 = some ([.int .u8 0, .int .u8 0, .int .u8 0, .int .u8 0, .int .u8 0, .int .u8 0, .int .u8 0, .int .u8 0, .int .u8 0, .int .u8 0, .int .u8 0, .int .u8 0, .int .u8 0, .int .u8 0, .int .u8 0, .int .u8 0, .int .u8 0, .int .u8 0, .int .u8 0, .int .u8 0, .int .u8 0, .int .u8 0, .int .u8 0, .int .u8 0], [(0, 1), (1, 1), (2, 1), (3, 1), (4, 1), (5, 1), (6, 1), (7, 1), (8, 1), (9, 1), (10, 1), (11, 1), (12, 1), (13, 1), (14, 1), (15, 1), (16, 1), (17, 1), (18, 1), (19, 1), (20, 1), (21, 1), (22, 1), (23, 1)]) := by kernel_rfl
@[simp] theorem Tb.tk357 : tk Tryz.prog 357 = 1 := by kernel_rfl
@[simp] theorem Tb.sz357 : Program.cellsOf Tryz.prog 357 = 1 := by kernel_rfl
@[simp] theorem Tb.sl357 : slT Tryz.prog 357 = some 5 := by kernel_rfl
@[simp] theorem Tb.st357 : isStr Tryz.prog 357 = false := by kernel_rfl
@[simp] theorem Tb.bo357 : isBool Tryz.prog 357 = false := by kernel_rfl
@[simp] theorem Tb.in357 : intT Tryz.prog 357 = none := by kernel_rfl
@[simp] theorem Tb.un357 : (Tryz.prog.underlying 357).isSome = true := by kernel_rfl
@[simp] theorem Tb.zr357 : zrT Tryz.prog 357 = [.slice none 0 0] := by kernel_rfl
@[simp] theorem Tb.za357 : (Tryz.prog.info? 357).any (·.zero.isSome) = true := by kernel_rfl
@[simp] theorem Tb.zb357 : ((Tryz.prog.info? 357).bind (·.zero)).isSome = true := by kernel_rfl
@[simp] theorem Tb.el357 : elOK Tryz.prog 357 := elOK_of (by kernel_rfl)
@[simp] theorem Tb.tk360 : tk Tryz.prog 360 = 1 := by kernel_rfl
@[simp] theorem Tb.sz360 : Program.cellsOf Tryz.prog 360 = 1 := by kernel_rfl
@[simp] theorem Tb.sl360 : slT Tryz.prog 360 = none := by kernel_rfl
@[simp] theorem Tb.st360 : isStr Tryz.prog 360 = false := by kernel_rfl
@[simp] theorem Tb.bo360 : isBool Tryz.prog 360 = false := by kernel_rfl
@[simp] theorem Tb.in360 : intT Tryz.prog 360 = none := by kernel_rfl
@[simp] theorem Tb.un360 : (Tryz.prog.underlying 360).isSome = true := by kernel_rfl
@[simp] theorem Tb.zr360 : zrT Tryz.prog 360 = [.nilFunc] := by kernel_rfl
@[simp] theorem Tb.za360 : (Tryz.prog.info? 360).any (·.zero.isSome) = true := by kernel_rfl
@[simp] theorem Tb.zb360 : ((Tryz.prog.info? 360).bind (·.zero)).isSome = true := by kernel_rfl
@[simp] theorem Tb.el360 : elOK Tryz.prog 360 := elOK_of (by kernel_rfl)
@[simp] theorem Tb.tk362 : tk Tryz.prog 362 = 1 := by kernel_rfl
@[simp] theorem Tb.sz362 : Program.cellsOf Tryz.prog 362 = 1 := by kernel_rfl
@[simp] theorem Tb.sl362 : slT Tryz.prog 362 = none := by kernel_rfl
@[simp] theorem Tb.st362 : isStr Tryz.prog 362 = false := by kernel_rfl
@[simp] theorem Tb.bo362 : isBool Tryz.prog 362 = false := by kernel_rfl
@[simp] theorem Tb.in362 : intT Tryz.prog 362 = none := by kernel_rfl
@[simp] theorem Tb.un362 : (Tryz.prog.underlying 362).isSome = true := by kernel_rfl
@[simp] theorem Tb.zr362 : zrT Tryz.prog 362 = [.nilFunc] := by kernel_rfl
@[simp] theorem Tb.za362 : (Tryz.prog.info? 362).any (·.zero.isSome) = true := by kernel_rfl
@[simp] theorem Tb.zb362 : ((Tryz.prog.info? 362).bind (·.zero)).isSome = true := by kernel_rfl
@[simp] theorem Tb.el362 : elOK Tryz.prog 362 := elOK_of (by kernel_rfl)
@[simp] theorem Tb.tk372 : tk Tryz.prog 372 = 2 := by kernel_rfl
@[simp] theorem Tb.sz372 : Program.cellsOf Tryz.prog 372 = 20 := by kernel_rfl
@[simp] theorem Tb.sl372 : slT Tryz.prog 372 = none := by kernel_rfl
@[simp] theorem Tb.ar372 : arT Tryz.prog 372 = some (20, 252) := by kernel_rfl
@[simp] theorem Tb.st372 : isStr Tryz.prog 372 = false := by kernel_rfl
@[simp] theorem Tb.bo372 : isBool Tryz.prog 372 = false := by kernel_rfl
@[simp] theorem Tb.in372 : intT Tryz.prog 372 = none := by kernel_rfl
@[simp] theorem Tb.un372 : (Tryz.prog.underlying 372).isSome = true := by kernel_rfl
@[simp] theorem Tb.zr372 : zrT Tryz.prog 372 = [.int .u64 0, .int .u64 0, .int .u64 0, .int .u64 0, .int .u64 0, .int .u64 0, .int .u64 0, .int .u64 0, .int .u64 0, .int .u64 0, .int .u64 0, .int .u64 0, .int .u64 0, .int .u64 0, .int .u64 0, .int .u64 0, .int .u64 0, .int .u64 0, .int .u64 0, .int .u64 0] := by kernel_rfl
@[simp] theorem Tb.za372 : (Tryz.prog.info? 372).any (·.zero.isSome) = true := by kernel_rfl
@[simp] theorem Tb.zb372 : ((Tryz.prog.info? 372).bind (·.zero)).isSome = true := by kernel_rfl
@[simp] theorem Tb.el372 : elOK Tryz.prog 372 := elOK_of (by kernel_rfl)
@[simp] theorem Tb.bl372 : bldT Tryz.prog 372 = some ([.int .u64 0, .int .u64 0, .int .u64 0, .int .u64 0, .int .u64 0, .int .u64 0, .int .u64 0, .int .u64 0, .int .u64 0, .int .u64 0, .int .u64 0, .int .u64 0, .int .u64 0, .int .u64 0, .int .u64 0, .int .u64 0, .int .u64 0, .int .u64 0, .int .u64 0, .int .u64 0], [(0, 1), (1, 1), (2, 1), (3, 1), (4, 1), (5, 1), (6, 1), (7, 1), (8, 1), (9, 1), (10, 1), (11, 1), (12, 1), (13, 1), (14, 1), (15, 1), (16, 1), (17, 1), (18, 1), (19, 1)]) := by kernel_rfl
@[simp] theorem Tb.tk373 : tk Tryz.prog 373 = 2 := by kernel_rfl
@[simp] theorem Tb.sz373 : Program.cellsOf Tryz.prog 373 = 65 := by kernel_rfl
@[simp] theorem Tb.sl373 : slT Tryz.prog 373 = none := by kernel_rfl
@[simp] theorem Tb.ar373 : arT Tryz.prog 373 = some (65, 5) := by kernel_rfl
@[simp] theorem Tb.st373 : isStr Tryz.prog 373 = false := by kernel_rfl
@[simp] theorem Tb.bo373 : isBool Tryz.prog 373 = false := by kernel_rfl
@[simp] theorem Tb.in373 : intT Tryz.prog 373 = none := by kernel_rfl
@[simp] theorem Tb.un373 : (Tryz.prog.underlying 373).isSome = true := by kernel_rfl
@[simp] theorem Tb.zr373 : zrT Tryz.prog 373 = [.int .u8 0, .int .u8 0, .int .u8 0, .int .u8 0, .int .u8 0, .int .u8 0, .int .u8 0, .int .u8 0, .int .u8 0, .int .u8 0, .int .u8 0, .int .u8 0, .int .u8 0, .int .u8 0, .int .u8 0, .int .u8 0, .int .u8 0, .int .u8 0, .int .u8 0, .int .u8 0, .int .u8 0, .int .u8 0, .int .u8 0, .int .u8 0, .int .u8 0, .int .u8 0, .int .u8 0, .int .u8 0, .int .u8 0, .int .u8 0, .int .u8 0, .int .u8 0, .int .u8 0, .int .u8 0, .int .u8 0, .int .u8 0, .int .u8 0, .int .u8 0, .int .u8 0, .int .u8 0, .int .u8 0, .int .u8 0, .int .u8 0, .int .u8 0, .int .u8 0, .int .u8 0, .int .u8 0, .int .u8 0, .int .u8 0, .int .u8 0, .int .u8 0, .int .u8 0, .int .u8 0, .int .u8 0, .int .u8 0, .int .u8 0, .int .u8 0, .int .u8 0, .int .u8 0, .int .u8 0, .int .u8 0, .int .u8 0, .int .u8 0, .int .u8 0, .int .u8 0] := by kernel_rfl
@[simp] theorem Tb.za373 : (Tryz.prog.info? 373).any (·.zero.isSome) = true := by kernel_rfl
@[simp] theorem Tb.zb373 : ((Tryz.prog.info? 373).bind (·.zero)).isSome = true := by kernel_rfl
@[simp] theorem Tb.el373 : elOK Tryz.prog 373 := elOK_of (by kernel_rfl)
@[simp] theorem Tb.bl373 : bldT Tryz.prog 373 = some ([.int .u8 0, .int .u8 0, .int .u8 0, .int .u8 0, .int .u8 0, .int .u8 0, .int .u8 0, .int .u8 0, .int .u8 0, .int .u8 0, .int .u8 0, .int .u8 0, .int .u8 0, .int .u8 0, .int .u8 0, .int .u8 0, .int .u8 0, .int .u8 0, .int .u8 0, .int .u8 0, .int .u8 0, .int .u8 0, .int .u8 0, .int .u8 0, .int .u8 0, .int .u8 0, .int .u8 0, .int .u8 0, .int .u8 0, .int .u8 0, .int .u8 0, .int .u8 0, .int .u8 0, .int .u8 0, .int .u8 0, .int .u8 0, .int .u8 0, .int .u8 0, .int .u8 0, .int .u8 0, .int .u8 0, .int .u8 0, .int .u8 0, .int .u8 0, .int .u8 0, .int .u8 0, .int .u8 0, .int .u8 0, .int .u8 0, .int .u8 0, .int .u8 0, .int .u8 0, .int .u8 0, .int .u8 0, .int .u8 0, .int .u8 0, .int .u8 0, .int .u8 0, .int .u8 0, .int .u8 0, .int .u8 0, .int .u8 0, .int .u8 0, .int .u8 0, .int .u8 0], [(0, 1), (1, 1), (2, 1), (3, 1), (4, 1), (5, 1), (6, 1), (7, 1), (8, 1), (9, 1), (10, 1), (11, 1), (12, 1), (13, 1), (14, 1), (15, 1), (16, 1), (17, 1), (18, 1), (19, 1), (20, 1), (21, 1), (22, 1), (23, 1), (24, 1), (25, 1), (26, 1), (27, 1), (28, 1), (29, 1), (30, 1), (31, 1), (32, 1), (33, 1), (34, 1), (35, 1), (36, 1), (37, 1), (38, 1), (39, 1), (40, 1), (41, 1), (42, 1), (43, 1), (44, 1), (45, 1), (46, 1), (47, 1), (48, 1), (49, 1), (50, 1), (51, 1), (52, 1), (53, 1), (54, 1), (55, 1), (56, 1), (57, 1), (58, 1), (59, 1), (60, 1), (61, 1), (62, 1), (63, 1), (64, 1)]) := by kernel_rfl
@[simp] theorem Tb.tk381 : tk Tryz.prog 381 = 2 := by kernel_rfl
@[simp] theorem Tb.sz381 : Program.cellsOf Tryz.prog 381 = 32 := by kernel_rfl
@[simp] theorem Tb.sl381 : slT Tryz.prog 381 = none := by kernel_rfl
@[simp] theorem Tb.ar381 : arT Tryz.prog 381 = some (32, 5) := by kernel_rfl
@[simp] theorem Tb.st381 : isStr Tryz.prog 381 = false := by kernel_rfl
@[simp] theorem Tb.bo381 : isBool Tryz.prog 381 = false := by kernel_rfl
@[simp] theorem Tb.in381 : intT Tryz.prog 381 = none := by kernel_rfl
@[simp] theorem Tb.un381 : (Tryz.prog.underlying 381).isSome = true := by kernel_rfl
@[simp] theorem Tb.zr381 : zrT Tryz.prog 381 = [.int .u8 0, .int .u8 0, .int .u8 0, .int .u8 0, .int .u8 0, .int .u8 0, .int .u8 0, .int .u8 0, .int .u8 0, .int .u8 0, .int .u8 0, .int .u8 0, .int .u8 0, .int .u8 0, .int .u8 0, .int .u8 0, .int .u8 0, .int .u8 0, .int .u8 0, .int .u8 0, .int .u8 0, .int .u8 0, .int .u8 0, .int .u8 0, .int .u8 0, .int .u8 0, .int .u8 0, .int .u8 0, .int .u8 0, .int .u8 0, .int .u8 0, .int .u8 0] := by kernel_rfl
@[simp] theorem Tb.za381 : (Tryz.prog.info? 381).any (·.zero.isSome) = true := by kernel_rfl
@[simp] theorem Tb.zb381 : ((Tryz.prog.info? 381).bind (·.zero)).isSome = true := by kernel_rfl
@[simp] theorem Tb.el381 : elOK Tryz.prog 381 := elOK_of (by kernel_rfl)
@[simp] theorem Tb.bl381 : bldT Tryz.prog 381 = some ([.int .u8 0, .int .u8 0, .int .u8 0, .int .u8 0, .int .u8 0, .int .u8 0, .int .u8 0, .int .u8 0, .int .u8 0, .int .u8 0, .int .u8 0, .int .u8 0, .int .u8 0, .int .u8 0, .int .u8 0, .int .u8 0, .int .u8 0, .int .u8 0, .int .u8 0, .int .u8 0, .int .u8 0, .int .u8 0, .int .u8 0, .int .u8 0, .int .u8 0, .int .u8 0, .int .u8 0, .int .u8 0, .int .u8 0, .int .u8 0, .int .u8 0, .int .u8 0], [(0, 1), (1, 1), (2, 1), (3, 1), (4, 1), (5, 1), (6, 1), (7, 1), (8, 1), (9, 1), (10, 1), (11, 1), (12, 1), (13, 1), (14, 1), (15, 1), (16, 1), (17, 1), (18, 1), (19, 1), (20, 1), (21, 1), (22, 1), (23, 1), (24, 1), (25, 1), (26, 1), (27, 1), (28, 1), (29, 1), (30, 1), (31, 1)]) := by kernel_rfl
@[simp] theorem Tb.tk382 : tk Tryz.prog 382 = 2 := by kernel_rfl
@[simp] theorem Tb.sz382 : Program.cellsOf Tryz.prog 382 = 64 := by kernel_rfl
@[simp] theorem Tb.sl382 : slT Tryz.prog 382 = none := by kernel_rfl
@[simp] theorem Tb.ar382 : arT Tryz.prog 382 = some (64, 5) := by kernel_rfl
@[simp] theorem Tb.st382 : isStr Tryz.prog 382 = false := by kernel_rfl
@[simp] theorem Tb.bo382 : isBool Tryz.prog 382 = false := by kernel_rfl
@[simp] theorem Tb.in382 : intT Tryz.prog 382 = none := by kernel_rfl
@[simp] theorem Tb.un382 : (Tryz.prog.underlying 382).isSome = true := by kernel_rfl
@[simp] theorem Tb.zr382 : zrT Tryz.prog 382 = [.int .u8 0, .int .u8 0, .int .u8 0, .int .u8 0, .int .u8 0, .int .u8 0, .int .u8 0, .int .u8 0, .int .u8 0, .int .u8 0, .int .u8 0, .int .u8 0, .int .u8 0, .int .u8 0, .int .u8 0, .int .u8 0, .int .u8 0, .int .u8 0, .int .u8 0, .int .u8 0, .int .u8 0, .int .u8 0, .int .u8 0, .int .u8 0, .int .u8 0, .int .u8 0, .int .u8 0, .int .u8 0, .int .u8 0, .int .u8 0, .int .u8 0, .int .u8 0, .int .u8 0, .int .u8 0, .int .u8 0, .int .u8 0, .int .u8 0, .int .u8 0, .int .u8 0, .int .u8 0, .int .u8 0, .int .u8 0, .int .u8 0, .int .u8 0, .int .u8 0, .int .u8 0, .int .u8 0, .int .u8 0, .int .u8 0, .int .u8 0, .int .u8 0, .int .u8 0, .int .u8 0, .int .u8 0, .int .u8 0, .int .u8 0, .int .u8 0, .int .u8 0, .int .u8 0, .int .u8 0, .int .u8 0, .int .u8 0, .int .u8 0, .int .u8 0] := by kernel_rfl
@[simp] theorem Tb.za382 : (Tryz.prog.info? 382).any (·.zero.isSome) = true := by kernel_rfl
@[simp] theorem Tb.zb382 : ((Tryz.prog.info? 382).bind (·.zero)).isSome = true := by kernel_rfl
@[simp] theorem Tb.el382 : elOK Tryz.prog 382 := elOK_of (by kernel_rfl)
@[simp] theorem Tb.bl382 : bldT Tryz.prog 382 = some ([.int .u8 0, .int .u8 0, .int .u8 0, .int .u8 0, .int .u8 0, .int .u8 0, .int .u8 0, .int .u8 0, .int .u8 0, .int .u8 0, .int .u8 0, .int .u8 0, .int .u8 0, .int .u8 0, .int .u8 0, .int .u8 0, .int .u8 0, .int .u8 0, .int .u8 0, .int .u8 0, .int .u8 0, .int .u8 0, .int .u8 0, .int .u8 0, .int .u8 0, .int .u8 0, .int .u8 0, .int .u8 0, .int .u8 0, .int .u8 0, .int .u8 0, .int .u8 0, .int .u8 0, .int .u8 0, .int .u8 0, .int .u8 0, .int .u8 0, .int .u8 0, .int .u8 0, .int .u8 0, .int .u8 0, .int .u8 0, .int .u8 0, .int .u8 0, .int .u8 0, .int .u8 0, .int .u8 0, .int .u8 0, .int .u8 0, .int .u8 0, .int .u8 0, .int .u8 0, .int .u8 0, .int .u8 0, .int .u8 0, .int .u8 0, .int .u8 0, .int .u8 0, .int .u8 0, .int .u8 0, .int .u8 0, .int .u8 0, .int .u8 0, .int .u8 0], [(0, 1), (1, 1), (2, 1), (3, 1), (4, 1), (5, 1), (6, 1), (7, 1), (8, 1), (9, 1), (10, 1), (11, 1), (12, 1), (13, 1), (14, 1), (15, 1), (16, 1), (17, 1), (18, 1), (19, 1), (20, 1), (21, 1), (22, 1), (23, 1), (24, 1), (25, 1), (26, 1), (27, 1), (28, 1), (29, 1), (30, 1), (31, 1), (32, 1), (33, 1), (34, 1), (35, 1), (36, 1), (37, 1), (38, 1), (39, 1), (40, 1), (41, 1), (42, 1), (43, 1), (44, 1), (45, 1), (46, 1), (47, 1), (48, 1), (49, 1), (50, 1), (51, 1), (52, 1), (53, 1), (54, 1), (55, 1), (56, 1), (57, 1), (58, 1), (59, 1), (60, 1), (61, 1), (62, 1), (63, 1)]) := by kernel_rfl
@[simp] theorem Tb.tk393 : tk Tryz.prog 393 = 1 := by kernel_rfl
@[simp] theorem Tb.sz393 : Program.cellsOf Tryz.prog 393 = 1 := by kernel_rfl
@[simp] theorem Tb.sl393 : slT Tryz.prog 393 = none := by kernel_rfl
@[simp] theorem Tb.st393 : isStr Tryz.prog 393 = false := by kernel_rfl
@[simp] theorem Tb.bo393 : isBool Tryz.prog 393 = false := by kernel_rfl
@[simp] theorem Tb.in393 : intT Tryz.prog 393 = none := by kernel_rfl
@[simp] theorem Tb.un393 : (Tryz.prog.underlying 393).isSome = true := by kernel_rfl
@[simp] theorem Tb.zr393 : zrT Tryz.prog 393 = [.pointer none] := by kernel_rfl
@[simp] theorem Tb.za393 : (Tryz.prog.info? 393).any (·.zero.isSome) = true := by kernel_rfl
@[simp] theorem Tb.zb393 : ((Tryz.prog.info? 393).bind (·.zero)).isSome = true := by kernel_rfl
@[simp] theorem Tb.el393 : elOK Tryz.prog 393 := elOK_of (by kernel_rfl)
end Go.Proofs.YtbcjnmifflflfaaGreatDoor
end
