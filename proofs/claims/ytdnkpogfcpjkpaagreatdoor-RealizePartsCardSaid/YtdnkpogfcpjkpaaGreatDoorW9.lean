/- Texts joined by a program: Tb. -/
import Derived.KernelRfl
import Derived.Test.YtdnkpogfcpjkpaaGreatDoorW5
set_option linter.unusedSimpArgs false
set_option linter.unusedVariables false
set_option linter.unnecessarySimpa false

section
namespace Go.Proofs.YtdnkpogfcpjkpaaGreatDoor
@[simp] theorem Tb.tk2 : tk Tryz.prog 2 = 1 := by kernel_rfl
@[simp] theorem Tb.sz2 : Program.cellsOf Tryz.prog 2 = 1 := by kernel_rfl
@[simp] theorem Tb.sl2 : slT Tryz.prog 2 = none := by kernel_rfl
@[simp] theorem Tb.st2 : isStr Tryz.prog 2 = false := by kernel_rfl
@[simp] theorem Tb.bo2 : isBool Tryz.prog 2 = false := by kernel_rfl
@[simp] theorem Tb.in2 : intT Tryz.prog 2 = some .i64 := by kernel_rfl
@[simp] theorem Tb.un2 : (Tryz.prog.underlying 2).isSome = true := by kernel_rfl
@[simp] theorem Tb.zr2 : zrT Tryz.prog 2 = [.int .i64 0] := by kernel_rfl
@[simp] theorem Tb.za2 : (Tryz.prog.info? 2).any (·.zero.isSome) = true := by kernel_rfl
@[simp] theorem Tb.zb2 : ((Tryz.prog.info? 2).bind (·.zero)).isSome = true := by kernel_rfl
@[simp] theorem Tb.el2 : elOK Tryz.prog 2 := elOK_of (by kernel_rfl)
@[simp] theorem Tb.tk3 : tk Tryz.prog 3 = 1 := by kernel_rfl
@[simp] theorem Tb.sz3 : Program.cellsOf Tryz.prog 3 = 1 := by kernel_rfl
@[simp] theorem Tb.sl3 : slT Tryz.prog 3 = none := by kernel_rfl
@[simp] theorem Tb.st3 : isStr Tryz.prog 3 = false := by kernel_rfl
@[simp] theorem Tb.bo3 : isBool Tryz.prog 3 = false := by kernel_rfl
@[simp] theorem Tb.in3 : intT Tryz.prog 3 = some .i64 := by kernel_rfl
@[simp] theorem Tb.un3 : (Tryz.prog.underlying 3).isSome = true := by kernel_rfl
@[simp] theorem Tb.zr3 : zrT Tryz.prog 3 = [.int .i64 0] := by kernel_rfl
@[simp] theorem Tb.za3 : (Tryz.prog.info? 3).any (·.zero.isSome) = true := by kernel_rfl
@[simp] theorem Tb.zb3 : ((Tryz.prog.info? 3).bind (·.zero)).isSome = true := by kernel_rfl
@[simp] theorem Tb.el3 : elOK Tryz.prog 3 := elOK_of (by kernel_rfl)
@[simp] theorem Tb.tk4 : tk Tryz.prog 4 = 1 := by kernel_rfl
@[simp] theorem Tb.sz4 : Program.cellsOf Tryz.prog 4 = 1 := by kernel_rfl
@[simp] theorem Tb.sl4 : slT Tryz.prog 4 = none := by kernel_rfl
@[simp] theorem Tb.st4 : isStr Tryz.prog 4 = false := by kernel_rfl
@[simp] theorem Tb.bo4 : isBool Tryz.prog 4 = true := by kernel_rfl
@[simp] theorem Tb.in4 : intT Tryz.prog 4 = none := by kernel_rfl
@[simp] theorem Tb.un4 : (Tryz.prog.underlying 4).isSome = true := by kernel_rfl
@[simp] theorem Tb.zr4 : zrT Tryz.prog 4 = [.bool false] := by kernel_rfl
@[simp] theorem Tb.za4 : (Tryz.prog.info? 4).any (·.zero.isSome) = true := by kernel_rfl
@[simp] theorem Tb.zb4 : ((Tryz.prog.info? 4).bind (·.zero)).isSome = true := by kernel_rfl
@[simp] theorem Tb.el4 : elOK Tryz.prog 4 := elOK_of (by kernel_rfl)
@[simp] theorem Tb.tk5 : tk Tryz.prog 5 = 1 := by kernel_rfl
@[simp] theorem Tb.sz5 : Program.cellsOf Tryz.prog 5 = 1 := by kernel_rfl
@[simp] theorem Tb.sl5 : slT Tryz.prog 5 = none := by kernel_rfl
@[simp] theorem Tb.st5 : isStr Tryz.prog 5 = false := by kernel_rfl
@[simp] theorem Tb.bo5 : isBool Tryz.prog 5 = false := by kernel_rfl
@[simp] theorem Tb.in5 : intT Tryz.prog 5 = some .u8 := by kernel_rfl
@[simp] theorem Tb.un5 : (Tryz.prog.underlying 5).isSome = true := by kernel_rfl
@[simp] theorem Tb.zr5 : zrT Tryz.prog 5 = [.int .u8 0] := by kernel_rfl
@[simp] theorem Tb.za5 : (Tryz.prog.info? 5).any (·.zero.isSome) = true := by kernel_rfl
@[simp] theorem Tb.zb5 : ((Tryz.prog.info? 5).bind (·.zero)).isSome = true := by kernel_rfl
@[simp] theorem Tb.el5 : elOK Tryz.prog 5 := elOK_of (by kernel_rfl)
@[simp] theorem Tb.tk9 : tk Tryz.prog 9 = 1 := by kernel_rfl
@[simp] theorem Tb.sz9 : Program.cellsOf Tryz.prog 9 = 1 := by kernel_rfl
@[simp] theorem Tb.sl9 : slT Tryz.prog 9 = none := by kernel_rfl
@[simp] theorem Tb.st9 : isStr Tryz.prog 9 = true := by kernel_rfl
@[simp] theorem Tb.bo9 : isBool Tryz.prog 9 = false := by kernel_rfl
@[simp] theorem Tb.in9 : intT Tryz.prog 9 = none := by kernel_rfl
@[simp] theorem Tb.un9 : (Tryz.prog.underlying 9).isSome = true := by kernel_rfl
@[simp] theorem Tb.zr9 : zrT Tryz.prog 9 = [.string ⟨#[]⟩] := by kernel_rfl
@[simp] theorem Tb.za9 : (Tryz.prog.info? 9).any (·.zero.isSome) = true := by kernel_rfl
@[simp] theorem Tb.zb9 : ((Tryz.prog.info? 9).bind (·.zero)).isSome = true := by kernel_rfl
@[simp] theorem Tb.el9 : elOK Tryz.prog 9 := elOK_of (by kernel_rfl)
@[simp] theorem Tb.tk12 : tk Tryz.prog 12 = 1 := by kernel_rfl
@[simp] theorem Tb.sz12 : Program.cellsOf Tryz.prog 12 = 1 := by kernel_rfl
@[simp] theorem Tb.sl12 : slT Tryz.prog 12 = none := by kernel_rfl
@[simp] theorem Tb.st12 : isStr Tryz.prog 12 = false := by kernel_rfl
@[simp] theorem Tb.bo12 : isBool Tryz.prog 12 = false := by kernel_rfl
@[simp] theorem Tb.in12 : intT Tryz.prog 12 = some .u64 := by kernel_rfl
@[simp] theorem Tb.un12 : (Tryz.prog.underlying 12).isSome = true := by kernel_rfl
@[simp] theorem Tb.zr12 : zrT Tryz.prog 12 = [.int .u64 0] := by kernel_rfl
@[simp] theorem Tb.za12 : (Tryz.prog.info? 12).any (·.zero.isSome) = true := by kernel_rfl
@[simp] theorem Tb.zb12 : ((Tryz.prog.info? 12).bind (·.zero)).isSome = true := by kernel_rfl
@[simp] theorem Tb.el12 : elOK Tryz.prog 12 := elOK_of (by kernel_rfl)
@[simp] theorem Tb.tk19 : tk Tryz.prog 19 = 2 := by kernel_rfl
@[simp] theorem Tb.sz19 : Program.cellsOf Tryz.prog 19 = 1 := by kernel_rfl
@[simp] theorem Tb.ff19_0 : foff Tryz.prog 19 0 = some (0, 17) := by kernel_rfl
@[simp] theorem Tb.cm19 : cmpT Tryz.prog 19 = none := by kernel_rfl
@[simp] theorem Tb.sl19 : slT Tryz.prog 19 = none := by kernel_rfl
@[simp] theorem Tb.st19 : isStr Tryz.prog 19 = false := by kernel_rfl
@[simp] theorem Tb.bo19 : isBool Tryz.prog 19 = false := by kernel_rfl
@[simp] theorem Tb.in19 : intT Tryz.prog 19 = none := by kernel_rfl
@[simp] theorem Tb.un19 : (Tryz.prog.underlying 19).isSome = true := by kernel_rfl
@[simp] theorem Tb.zr19 : zrT Tryz.prog 19 = [.pointer none] := by kernel_rfl
@[simp] theorem Tb.za19 : (Tryz.prog.info? 19).any (·.zero.isSome) = true := by kernel_rfl
@[simp] theorem Tb.zb19 : ((Tryz.prog.info? 19).bind (·.zero)).isSome = true := by kernel_rfl
@[simp] theorem Tb.el19 : elOK Tryz.prog 19 := elOK_of (by kernel_rfl)
@[simp] theorem Tb.bl19 : bldT Tryz.prog 19 = some ([.pointer none], [(0, 1)]) := by kernel_rfl
@[simp] theorem Tb.tk21 : tk Tryz.prog 21 = 1 := by kernel_rfl
@[simp] theorem Tb.sz21 : Program.cellsOf Tryz.prog 21 = 1 := by kernel_rfl
@[simp] theorem Tb.sl21 : slT Tryz.prog 21 = none := by kernel_rfl
@[simp] theorem Tb.st21 : isStr Tryz.prog 21 = false := by kernel_rfl
@[simp] theorem Tb.bo21 : isBool Tryz.prog 21 = false := by kernel_rfl
@[simp] theorem Tb.in21 : intT Tryz.prog 21 = some .i32 := by kernel_rfl
@[simp] theorem Tb.un21 : (Tryz.prog.underlying 21).isSome = true := by kernel_rfl
@[simp] theorem Tb.zr21 : zrT Tryz.prog 21 = [.int .i32 0] := by kernel_rfl
@[simp] theorem Tb.za21 : (Tryz.prog.info? 21).any (·.zero.isSome) = true := by kernel_rfl
@[simp] theorem Tb.zb21 : ((Tryz.prog.info? 21).bind (·.zero)).isSome = true := by kernel_rfl
@[simp] theorem Tb.el21 : elOK Tryz.prog 21 := elOK_of (by kernel_rfl)
@[simp] theorem Tb.tk22 : tk Tryz.prog 22 = 1 := by kernel_rfl
@[simp] theorem Tb.sz22 : Program.cellsOf Tryz.prog 22 = 1 := by kernel_rfl
@[simp] theorem Tb.sl22 : slT Tryz.prog 22 = some 9 := by kernel_rfl
@[simp] theorem Tb.st22 : isStr Tryz.prog 22 = false := by kernel_rfl
@[simp] theorem Tb.bo22 : isBool Tryz.prog 22 = false := by kernel_rfl
@[simp] theorem Tb.in22 : intT Tryz.prog 22 = none := by kernel_rfl
@[simp] theorem Tb.un22 : (Tryz.prog.underlying 22).isSome = true := by kernel_rfl
@[simp] theorem Tb.zr22 : zrT Tryz.prog 22 = [.slice none 0 0] := by kernel_rfl
@[simp] theorem Tb.za22 : (Tryz.prog.info? 22).any (·.zero.isSome) = true := by kernel_rfl
@[simp] theorem Tb.zb22 : ((Tryz.prog.info? 22).bind (·.zero)).isSome = true := by kernel_rfl
@[simp] theorem Tb.el22 : elOK Tryz.prog 22 := elOK_of (by kernel_rfl)
@[simp] theorem Tb.tk23 : tk Tryz.prog 23 = 1 := by kernel_rfl
@[simp] theorem Tb.sz23 : Program.cellsOf Tryz.prog 23 = 1 := by kernel_rfl
@[simp] theorem Tb.sl23 : slT Tryz.prog 23 = some 70 := by kernel_rfl
@[simp] theorem Tb.st23 : isStr Tryz.prog 23 = false := by kernel_rfl
@[simp] theorem Tb.bo23 : isBool Tryz.prog 23 = false := by kernel_rfl
@[simp] theorem Tb.in23 : intT Tryz.prog 23 = none := by kernel_rfl
@[simp] theorem Tb.un23 : (Tryz.prog.underlying 23).isSome = true := by kernel_rfl
@[simp] theorem Tb.zr23 : zrT Tryz.prog 23 = [.slice none 0 0] := by kernel_rfl
@[simp] theorem Tb.za23 : (Tryz.prog.info? 23).any (·.zero.isSome) = true := by kernel_rfl
@[simp] theorem Tb.zb23 : ((Tryz.prog.info? 23).bind (·.zero)).isSome = true := by kernel_rfl
@[simp] theorem Tb.el23 : elOK Tryz.prog 23 := elOK_of (by kernel_rfl)
@[simp] theorem Tb.tk24 : tk Tryz.prog 24 = 1 := by kernel_rfl
@[simp] theorem Tb.sz24 : Program.cellsOf Tryz.prog 24 = 1 := by kernel_rfl
@[simp] theorem Tb.sl24 : slT Tryz.prog 24 = some 3 := by kernel_rfl
@[simp] theorem Tb.st24 : isStr Tryz.prog 24 = false := by kernel_rfl
@[simp] theorem Tb.bo24 : isBool Tryz.prog 24 = false := by kernel_rfl
@[simp] theorem Tb.in24 : intT Tryz.prog 24 = none := by kernel_rfl
@[simp] theorem Tb.un24 : (Tryz.prog.underlying 24).isSome = true := by kernel_rfl
@[simp] theorem Tb.zr24 : zrT Tryz.prog 24 = [.slice none 0 0] := by kernel_rfl
@[simp] theorem Tb.za24 : (Tryz.prog.info? 24).any (·.zero.isSome) = true := by kernel_rfl
@[simp] theorem Tb.zb24 : ((Tryz.prog.info? 24).bind (·.zero)).isSome = true := by kernel_rfl
@[simp] theorem Tb.el24 : elOK Tryz.prog 24 := elOK_of (by kernel_rfl)
@[simp] theorem Tb.tk25 : tk Tryz.prog 25 = 2 := by kernel_rfl
@[simp] theorem Tb.sz25 : Program.cellsOf Tryz.prog 25 = 5 := by kernel_rfl
@[simp] theorem Tb.ff25_0 : foff Tryz.prog 25 0 = some (0, 3) := by kernel_rfl
@[simp] theorem Tb.ff25_1 : foff Tryz.prog 25 1 = some (1, 22) := by kernel_rfl
@[simp] theorem Tb.ff25_2 : foff Tryz.prog 25 2 = some (2, 23) := by kernel_rfl
@[simp] theorem Tb.ff25_3 : foff Tryz.prog 25 3 = some (3, 24) := by kernel_rfl
@[simp] theorem Tb.ff25_4 : foff Tryz.prog 25 4 = some (4, 24) := by kernel_rfl
@[simp] theorem Tb.cm25 : cmpT Tryz.prog 25 = none := by kernel_rfl
@[simp] theorem Tb.sl25 : slT Tryz.prog 25 = none := by kernel_rfl
@[simp] theorem Tb.st25 : isStr Tryz.prog 25 = false := by kernel_rfl
@[simp] theorem Tb.bo25 : isBool Tryz.prog 25 = false := by kernel_rfl
@[simp] theorem Tb.in25 : intT Tryz.prog 25 = none := by kernel_rfl
@[simp] theorem Tb.un25 : (Tryz.prog.underlying 25).isSome = true := by kernel_rfl
@[simp] theorem Tb.zr25 : zrT Tryz.prog 25 = [.int .i64 0, .slice none 0 0, .slice none 0 0, .slice none 0 0, .slice none 0 0] := by kernel_rfl
@[simp] theorem Tb.za25 : (Tryz.prog.info? 25).any (·.zero.isSome) = true := by kernel_rfl
@[simp] theorem Tb.zb25 : ((Tryz.prog.info? 25).bind (·.zero)).isSome = true := by kernel_rfl
@[simp] theorem Tb.el25 : elOK Tryz.prog 25 := elOK_of (by kernel_rfl)
@[simp] theorem Tb.bl25 : bldT Tryz.prog 25 = some ([.int .i64 0, .slice none 0 0, .slice none 0 0, .slice none 0 0, .slice none 0 0], [(0, 1), (1, 1), (2, 1), (3, 1), (4, 1)]) := by kernel_rfl
@[simp] theorem Tb.tk26 : tk Tryz.prog 26 = 2 := by kernel_rfl
@[simp] theorem Tb.sz26 : Program.cellsOf Tryz.prog 26 = 5 := by kernel_rfl
@[simp] theorem Tb.ff26_0 : foff Tryz.prog 26 0 = some (0, 3) := by kernel_rfl
@[simp] theorem Tb.ff26_1 : foff Tryz.prog 26 1 = some (1, 22) := by kernel_rfl
@[simp] theorem Tb.ff26_2 : foff Tryz.prog 26 2 = some (2, 23) := by kernel_rfl
@[simp] theorem Tb.ff26_3 : foff Tryz.prog 26 3 = some (3, 24) := by kernel_rfl
@[simp] theorem Tb.ff26_4 : foff Tryz.prog 26 4 = some (4, 24) := by kernel_rfl
@[simp] theorem Tb.cm26 : cmpT Tryz.prog 26 = none := by kernel_rfl
@[simp] theorem Tb.sl26 : slT Tryz.prog 26 = none := by kernel_rfl
@[simp] theorem Tb.st26 : isStr Tryz.prog 26 = false := by kernel_rfl
@[simp] theorem Tb.bo26 : isBool Tryz.prog 26 = false := by kernel_rfl
@[simp] theorem Tb.in26 : intT Tryz.prog 26 = none := by kernel_rfl
@[simp] theorem Tb.un26 : (Tryz.prog.underlying 26).isSome = true := by kernel_rfl
@[simp] theorem Tb.zr26 : zrT Tryz.prog 26 = [.int .i64 0, .slice none 0 0, .slice none 0 0, .slice none 0 0, .slice none 0 0] := by kernel_rfl
@[simp] theorem Tb.za26 : (Tryz.prog.info? 26).any (·.zero.isSome) = true := by kernel_rfl
@[simp] theorem Tb.zb26 : ((Tryz.prog.info? 26).bind (·.zero)).isSome = true := by kernel_rfl
@[simp] theorem Tb.el26 : elOK Tryz.prog 26 := elOK_of (by kernel_rfl)
@[simp] theorem Tb.bl26 : bldT Tryz.prog 26 = some ([.int .i64 0, .slice none 0 0, .slice none 0 0, .slice none 0 0, .slice none 0 0], [(0, 1), (1, 1), (2, 1), (3, 1), (4, 1)]) := by kernel_rfl
@[simp] theorem Tb.tk29 : tk Tryz.prog 29 = 1 := by kernel_rfl
@[simp] theorem Tb.sz29 : Program.cellsOf Tryz.prog 29 = 1 := by kernel_rfl
@[simp] theorem Tb.sl29 : slT Tryz.prog 29 = some 65 := by kernel_rfl
@[simp] theorem Tb.st29 : isStr Tryz.prog 29 = false := by kernel_rfl
@[simp] theorem Tb.bo29 : isBool Tryz.prog 29 = false := by kernel_rfl
@[simp] theorem Tb.in29 : intT Tryz.prog 29 = none := by kernel_rfl
@[simp] theorem Tb.un29 : (Tryz.prog.underlying 29).isSome = true := by kernel_rfl
@[simp] theorem Tb.zr29 : zrT Tryz.prog 29 = [.slice none 0 0] := by kernel_rfl
@[simp] theorem Tb.za29 : (Tryz.prog.info? 29).any (·.zero.isSome) = true := by kernel_rfl
@[simp] theorem Tb.zb29 : ((Tryz.prog.info? 29).bind (·.zero)).isSome = true := by kernel_rfl
@[simp] theorem Tb.el29 : elOK Tryz.prog 29 := elOK_of (by kernel_rfl)
@[simp] theorem Tb.tk30 : tk Tryz.prog 30 = 1 := by kernel_rfl
@[simp] theorem Tb.sz30 : Program.cellsOf Tryz.prog 30 = 1 := by kernel_rfl
@[simp] theorem Tb.sl30 : slT Tryz.prog 30 = some 95 := by kernel_rfl
@[simp] theorem Tb.st30 : isStr Tryz.prog 30 = false := by kernel_rfl
@[simp] theorem Tb.bo30 : isBool Tryz.prog 30 = false := by kernel_rfl
@[simp] theorem Tb.in30 : intT Tryz.prog 30 = none := by kernel_rfl
@[simp] theorem Tb.un30 : (Tryz.prog.underlying 30).isSome = true := by kernel_rfl
@[simp] theorem Tb.zr30 : zrT Tryz.prog 30 = [.slice none 0 0] := by kernel_rfl
@[simp] theorem Tb.za30 : (Tryz.prog.info? 30).any (·.zero.isSome) = true := by kernel_rfl
@[simp] theorem Tb.zb30 : ((Tryz.prog.info? 30).bind (·.zero)).isSome = true := by kernel_rfl
@[simp] theorem Tb.el30 : elOK Tryz.prog 30 := elOK_of (by kernel_rfl)
@[simp] theorem Tb.tk31 : tk Tryz.prog 31 = 2 := by kernel_rfl
@[simp] theorem Tb.sz31 : Program.cellsOf Tryz.prog 31 = 2 := by kernel_rfl
@[simp] theorem Tb.ff31_0 : foff Tryz.prog 31 0 = some (0, 29) := by kernel_rfl
@[simp] theorem Tb.ff31_1 : foff Tryz.prog 31 1 = some (1, 30) := by kernel_rfl
@[simp] theorem Tb.cm31 : cmpT Tryz.prog 31 = none := by kernel_rfl
@[simp] theorem Tb.sl31 : slT Tryz.prog 31 = none := by kernel_rfl
@[simp] theorem Tb.st31 : isStr Tryz.prog 31 = false := by kernel_rfl
@[simp] theorem Tb.bo31 : isBool Tryz.prog 31 = false := by kernel_rfl
@[simp] theorem Tb.in31 : intT Tryz.prog 31 = none := by kernel_rfl
@[simp] theorem Tb.un31 : (Tryz.prog.underlying 31).isSome = true := by kernel_rfl
@[simp] theorem Tb.zr31 : zrT Tryz.prog 31 = [.slice none 0 0, .slice none 0 0] := by kernel_rfl
@[simp] theorem Tb.za31 : (Tryz.prog.info? 31).any (·.zero.isSome) = true := by kernel_rfl
@[simp] theorem Tb.zb31 : ((Tryz.prog.info? 31).bind (·.zero)).isSome = true := by kernel_rfl
@[simp] theorem Tb.el31 : elOK Tryz.prog 31 := elOK_of (by kernel_rfl)
@[simp] theorem Tb.bl31 : bldT Tryz.prog 31 = some ([.slice none 0 0, .slice none 0 0], [(0, 1), (1, 1)]) := by kernel_rfl
@[simp] theorem Tb.tk32 : tk Tryz.prog 32 = 2 := by kernel_rfl
@[simp] theorem Tb.sz32 : Program.cellsOf Tryz.prog 32 = 2 := by kernel_rfl
@[simp] theorem Tb.ff32_0 : foff Tryz.prog 32 0 = some (0, 29) := by kernel_rfl
@[simp] theorem Tb.ff32_1 : foff Tryz.prog 32 1 = some (1, 30) := by kernel_rfl
@[simp] theorem Tb.cm32 : cmpT Tryz.prog 32 = none := by kernel_rfl
@[simp] theorem Tb.sl32 : slT Tryz.prog 32 = none := by kernel_rfl
@[simp] theorem Tb.st32 : isStr Tryz.prog 32 = false := by kernel_rfl
@[simp] theorem Tb.bo32 : isBool Tryz.prog 32 = false := by kernel_rfl
@[simp] theorem Tb.in32 : intT Tryz.prog 32 = none := by kernel_rfl
@[simp] theorem Tb.un32 : (Tryz.prog.underlying 32).isSome = true := by kernel_rfl
@[simp] theorem Tb.zr32 : zrT Tryz.prog 32 = [.slice none 0 0, .slice none 0 0] := by kernel_rfl
@[simp] theorem Tb.za32 : (Tryz.prog.info? 32).any (·.zero.isSome) = true := by kernel_rfl
@[simp] theorem Tb.zb32 : ((Tryz.prog.info? 32).bind (·.zero)).isSome = true := by kernel_rfl
@[simp] theorem Tb.el32 : elOK Tryz.prog 32 := elOK_of (by kernel_rfl)
@[simp] theorem Tb.bl32 : bldT Tryz.prog 32 = some ([.slice none 0 0, .slice none 0 0], [(0, 1), (1, 1)]) := by kernel_rfl
@[simp] theorem Tb.tk33 : tk Tryz.prog 33 = 1 := by kernel_rfl
@[simp] theorem Tb.sz33 : Program.cellsOf Tryz.prog 33 = 1 := by kernel_rfl
@[simp] theorem Tb.sl33 : slT Tryz.prog 33 = none := by kernel_rfl
@[simp] theorem Tb.st33 : isStr Tryz.prog 33 = false := by kernel_rfl
@[simp] theorem Tb.bo33 : isBool Tryz.prog 33 = false := by kernel_rfl
@[simp] theorem Tb.in33 : intT Tryz.prog 33 = some .i64 := by kernel_rfl
@[simp] theorem Tb.un33 : (Tryz.prog.underlying 33).isSome = true := by kernel_rfl
@[simp] theorem Tb.zr33 : zrT Tryz.prog 33 = [.int .i64 0] := by kernel_rfl
@[simp] theorem Tb.za33 : (Tryz.prog.info? 33).any (·.zero.isSome) = true := by kernel_rfl
@[simp] theorem Tb.zb33 : ((Tryz.prog.info? 33).bind (·.zero)).isSome = true := by kernel_rfl
@[simp] theorem Tb.el33 : elOK Tryz.prog 33 := elOK_of (by kernel_rfl)
@[simp] theorem Tb.tk43 : tk Tryz.prog 43 = 2 := by kernel_rfl
@[simp] theorem Tb.sz43 : Program.cellsOf Tryz.prog 43 = 2 := by kernel_rfl
@[simp] theorem Tb.ff43_0 : foff Tryz.prog 43 0 = some (0, 3) := by kernel_rfl
@[simp] theorem Tb.ff43_1 : foff Tryz.prog 43 1 = some (1, 9) := by kernel_rfl
@[simp] theorem Tb.cm43 : cmpT Tryz.prog 43 = some [.int .i64, .string] := by kernel_rfl
@[simp] theorem Tb.sl43 : slT Tryz.prog 43 = none := by kernel_rfl
@[simp] theorem Tb.st43 : isStr Tryz.prog 43 = false := by kernel_rfl
@[simp] theorem Tb.bo43 : isBool Tryz.prog 43 = false := by kernel_rfl
@[simp] theorem Tb.in43 : intT Tryz.prog 43 = none := by kernel_rfl
@[simp] theorem Tb.un43 : (Tryz.prog.underlying 43).isSome = true := by kernel_rfl
@[simp] theorem Tb.zr43 : zrT Tryz.prog 43 = [.int .i64 0, .string ⟨#[]⟩] := by kernel_rfl
@[simp] theorem Tb.za43 : (Tryz.prog.info? 43).any (·.zero.isSome) = true := by kernel_rfl
@[simp] theorem Tb.zb43 : ((Tryz.prog.info? 43).bind (·.zero)).isSome = true := by kernel_rfl
@[simp] theorem Tb.el43 : elOK Tryz.prog 43 := elOK_of (by kernel_rfl)
@[simp] theorem Tb.bl43 : bldT Tryz.prog 43 = some ([.int .i64 0, .string ⟨#[]⟩], [(0, 1), (1, 1)]) := by kernel_rfl
@[simp] theorem Tb.tk44 : tk Tryz.prog 44 = 2 := by kernel_rfl
@[simp] theorem Tb.sz44 : Program.cellsOf Tryz.prog 44 = 2 := by kernel_rfl
@[simp] theorem Tb.ff44_0 : foff Tryz.prog 44 0 = some (0, 3) := by kernel_rfl
@[simp] theorem Tb.ff44_1 : foff Tryz.prog 44 1 = some (1, 9) := by kernel_rfl
@[simp] theorem Tb.cm44 : cmpT Tryz.prog 44 = some [.int .i64, .string] := by kernel_rfl
@[simp] theorem Tb.sl44 : slT Tryz.prog 44 = none := by kernel_rfl
@[simp] theorem Tb.st44 : isStr Tryz.prog 44 = false := by kernel_rfl
@[simp] theorem Tb.bo44 : isBool Tryz.prog 44 = false := by kernel_rfl
@[simp] theorem Tb.in44 : intT Tryz.prog 44 = none := by kernel_rfl
@[simp] theorem Tb.un44 : (Tryz.prog.underlying 44).isSome = true := by kernel_rfl
@[simp] theorem Tb.zr44 : zrT Tryz.prog 44 = [.int .i64 0, .string ⟨#[]⟩] := by kernel_rfl
@[simp] theorem Tb.za44 : (Tryz.prog.info? 44).any (·.zero.isSome) = true := by kernel_rfl
@[simp] theorem Tb.zb44 : ((Tryz.prog.info? 44).bind (·.zero)).isSome = true := by kernel_rfl
@[simp] theorem Tb.el44 : elOK Tryz.prog 44 := elOK_of (by kernel_rfl)
@[simp] theorem Tb.bl44 : bldT Tryz.prog 44 = some ([.int .i64 0, .string ⟨#[]⟩], [(0, 1), (1, 1)]) := by kernel_rfl
@[simp] theorem Tb.tk55 : tk Tryz.prog 55 = 1 := by kernel_rfl
@[simp] theorem Tb.sz55 : Program.cellsOf Tryz.prog 55 = 1 := by kernel_rfl
@[simp] theorem Tb.sl55 : slT Tryz.prog 55 = some 4 := by kernel_rfl
@[simp] theorem Tb.st55 : isStr Tryz.prog 55 = false := by kernel_rfl
@[simp] theorem Tb.bo55 : isBool Tryz.prog 55 = false := by kernel_rfl
@[simp] theorem Tb.in55 : intT Tryz.prog 55 = none := by kernel_rfl
@[simp] theorem Tb.un55 : (Tryz.prog.underlying 55).isSome = true := by kernel_rfl
@[simp] theorem Tb.zr55 : zrT Tryz.prog 55 = [.slice none 0 0] := by kernel_rfl
@[simp] theorem Tb.za55 : (Tryz.prog.info? 55).any (·.zero.isSome) = true := by kernel_rfl
@[simp] theorem Tb.zb55 : ((Tryz.prog.info? 55).bind (·.zero)).isSome = true := by kernel_rfl
@[simp] theorem Tb.el55 : elOK Tryz.prog 55 := elOK_of (by kernel_rfl)
@[simp] theorem Tb.tk56 : tk Tryz.prog 56 = 2 := by kernel_rfl
@[simp] theorem Tb.sz56 : Program.cellsOf Tryz.prog 56 = 5 := by kernel_rfl
@[simp] theorem Tb.ff56_0 : foff Tryz.prog 56 0 = some (0, 24) := by kernel_rfl
@[simp] theorem Tb.ff56_1 : foff Tryz.prog 56 1 = some (1, 55) := by kernel_rfl
@[simp] theorem Tb.ff56_2 : foff Tryz.prog 56 2 = some (2, 55) := by kernel_rfl
@[simp] theorem Tb.ff56_3 : foff Tryz.prog 56 3 = some (3, 55) := by kernel_rfl
@[simp] theorem Tb.ff56_4 : foff Tryz.prog 56 4 = some (4, 24) := by kernel_rfl
@[simp] theorem Tb.cm56 : cmpT Tryz.prog 56 = none := by kernel_rfl
@[simp] theorem Tb.sl56 : slT Tryz.prog 56 = none := by kernel_rfl
@[simp] theorem Tb.st56 : isStr Tryz.prog 56 = false := by kernel_rfl
@[simp] theorem Tb.bo56 : isBool Tryz.prog 56 = false := by kernel_rfl
@[simp] theorem Tb.in56 : intT Tryz.prog 56 = none := by kernel_rfl
@[simp] theorem Tb.un56 : (Tryz.prog.underlying 56).isSome = true := by kernel_rfl
@[simp] theorem Tb.zr56 : zrT Tryz.prog 56 = [.slice none 0 0, .slice none 0 0, .slice none 0 0, .slice none 0 0, .slice none 0 0] := by kernel_rfl
@[simp] theorem Tb.za56 : (Tryz.prog.info? 56).any (·.zero.isSome) = true := by kernel_rfl
@[simp] theorem Tb.zb56 : ((Tryz.prog.info? 56).bind (·.zero)).isSome = true := by kernel_rfl
@[simp] theorem Tb.el56 : elOK Tryz.prog 56 := elOK_of (by kernel_rfl)
@[simp] theorem Tb.bl56 : bldT Tryz.prog 56 = some ([.slice none 0 0, .slice none 0 0, .slice none 0 0, .slice none 0 0, .slice none 0 0], [(0, 1), (1, 1), (2, 1), (3, 1), (4, 1)]) := by kernel_rfl
@[simp] theorem Tb.tk57 : tk Tryz.prog 57 = 2 := by kernel_rfl
@[simp] theorem Tb.sz57 : Program.cellsOf Tryz.prog 57 = 5 := by kernel_rfl
@[simp] theorem Tb.ff57_0 : foff Tryz.prog 57 0 = some (0, 24) := by kernel_rfl
@[simp] theorem Tb.ff57_1 : foff Tryz.prog 57 1 = some (1, 55) := by kernel_rfl
@[simp] theorem Tb.ff57_2 : foff Tryz.prog 57 2 = some (2, 55) := by kernel_rfl
@[simp] theorem Tb.ff57_3 : foff Tryz.prog 57 3 = some (3, 55) := by kernel_rfl
@[simp] theorem Tb.ff57_4 : foff Tryz.prog 57 4 = some (4, 24) := by kernel_rfl
@[simp] theorem Tb.cm57 : cmpT Tryz.prog 57 = none := by kernel_rfl
@[simp] theorem Tb.sl57 : slT Tryz.prog 57 = none := by kernel_rfl
@[simp] theorem Tb.st57 : isStr Tryz.prog 57 = false := by kernel_rfl
@[simp] theorem Tb.bo57 : isBool Tryz.prog 57 = false := by kernel_rfl
@[simp] theorem Tb.in57 : intT Tryz.prog 57 = none := by kernel_rfl
@[simp] theorem Tb.un57 : (Tryz.prog.underlying 57).isSome = true := by kernel_rfl
@[simp] theorem Tb.zr57 : zrT Tryz.prog 57 = [.slice none 0 0, .slice none 0 0, .slice none 0 0, .slice none 0 0, .slice none 0 0] := by kernel_rfl
@[simp] theorem Tb.za57 : (Tryz.prog.info? 57).any (·.zero.isSome) = true := by kernel_rfl
@[simp] theorem Tb.zb57 : ((Tryz.prog.info? 57).bind (·.zero)).isSome = true := by kernel_rfl
@[simp] theorem Tb.el57 : elOK Tryz.prog 57 := elOK_of (by kernel_rfl)
@[simp] theorem Tb.bl57 : bldT Tryz.prog 57 = some ([.slice none 0 0, .slice none 0 0, .slice none 0 0, .slice none 0 0, .slice none 0 0], [(0, 1), (1, 1), (2, 1), (3, 1), (4, 1)]) := by kernel_rfl
@[simp] theorem Tb.tk64 : tk Tryz.prog 64 = 2 := by kernel_rfl
@[simp] theorem Tb.sz64 : Program.cellsOf Tryz.prog 64 = 3 := by kernel_rfl
@[simp] theorem Tb.ff64_0 : foff Tryz.prog 64 0 = some (0, 3) := by kernel_rfl
@[simp] theorem Tb.ff64_1 : foff Tryz.prog 64 1 = some (1, 9) := by kernel_rfl
@[simp] theorem Tb.ff64_2 : foff Tryz.prog 64 2 = some (2, 3) := by kernel_rfl
@[simp] theorem Tb.cm64 : cmpT Tryz.prog 64 = some [.int .i64, .string, .int .i64] := by kernel_rfl
@[simp] theorem Tb.sl64 : slT Tryz.prog 64 = none := by kernel_rfl
@[simp] theorem Tb.st64 : isStr Tryz.prog 64 = false := by kernel_rfl
@[simp] theorem Tb.bo64 : isBool Tryz.prog 64 = false := by kernel_rfl
@[simp] theorem Tb.in64 : intT Tryz.prog 64 = none := by kernel_rfl
@[simp] theorem Tb.un64 : (Tryz.prog.underlying 64).isSome = true := by kernel_rfl
@[simp] theorem Tb.zr64 : zrT Tryz.prog 64 = [.int .i64 0, .string ⟨#[]⟩, .int .i64 0] := by kernel_rfl
@[simp] theorem Tb.za64 : (Tryz.prog.info? 64).any (·.zero.isSome) = true := by kernel_rfl
@[simp] theorem Tb.zb64 : ((Tryz.prog.info? 64).bind (·.zero)).isSome = true := by kernel_rfl
@[simp] theorem Tb.el64 : elOK Tryz.prog 64 := elOK_of (by kernel_rfl)
@[simp] theorem Tb.bl64 : bldT Tryz.prog 64 = some ([.int .i64 0, .string ⟨#[]⟩, .int .i64 0], [(0, 1), (1, 1), (2, 1)]) := by kernel_rfl
@[simp] theorem Tb.tk65 : tk Tryz.prog 65 = 2 := by kernel_rfl
@[simp] theorem Tb.sz65 : Program.cellsOf Tryz.prog 65 = 3 := by kernel_rfl
@[simp] theorem Tb.ff65_0 : foff Tryz.prog 65 0 = some (0, 3) := by kernel_rfl
@[simp] theorem Tb.ff65_1 : foff Tryz.prog 65 1 = some (1, 9) := by kernel_rfl
@[simp] theorem Tb.ff65_2 : foff Tryz.prog 65 2 = some (2, 3) := by kernel_rfl
@[simp] theorem Tb.cm65 : cmpT Tryz.prog 65 = some [.int .i64, .string, .int .i64] := by kernel_rfl
@[simp] theorem Tb.sl65 : slT Tryz.prog 65 = none := by kernel_rfl
@[simp] theorem Tb.st65 : isStr Tryz.prog 65 = false := by kernel_rfl
@[simp] theorem Tb.bo65 : isBool Tryz.prog 65 = false := by kernel_rfl
@[simp] theorem Tb.in65 : intT Tryz.prog 65 = none := by kernel_rfl
@[simp] theorem Tb.un65 : (Tryz.prog.underlying 65).isSome = true := by kernel_rfl
@[simp] theorem Tb.zr65 : zrT Tryz.prog 65 = [.int .i64 0, .string ⟨#[]⟩, .int .i64 0] := by kernel_rfl
@[simp] theorem Tb.za65 : (Tryz.prog.info? 65).any (·.zero.isSome) = true := by kernel_rfl
@[simp] theorem Tb.zb65 : ((Tryz.prog.info? 65).bind (·.zero)).isSome = true := by kernel_rfl
@[simp] theorem Tb.el65 : elOK Tryz.prog 65 := elOK_of (by kernel_rfl)
@[simp] theorem Tb.bl65 : bldT Tryz.prog 65 = some ([.int .i64 0, .string ⟨#[]⟩, .int .i64 0], [(0, 1), (1, 1), (2, 1)]) := by kernel_rfl
@[simp] theorem Tb.tk66 : tk Tryz.prog 66 = 1 := by kernel_rfl
@[simp] theorem Tb.sz66 : Program.cellsOf Tryz.prog 66 = 1 := by kernel_rfl
@[simp] theorem Tb.sl66 : slT Tryz.prog 66 = some 68 := by kernel_rfl
@[simp] theorem Tb.st66 : isStr Tryz.prog 66 = false := by kernel_rfl
@[simp] theorem Tb.bo66 : isBool Tryz.prog 66 = false := by kernel_rfl
@[simp] theorem Tb.in66 : intT Tryz.prog 66 = none := by kernel_rfl
@[simp] theorem Tb.un66 : (Tryz.prog.underlying 66).isSome = true := by kernel_rfl
@[simp] theorem Tb.zr66 : zrT Tryz.prog 66 = [.slice none 0 0] := by kernel_rfl
@[simp] theorem Tb.za66 : (Tryz.prog.info? 66).any (·.zero.isSome) = true := by kernel_rfl
@[simp] theorem Tb.zb66 : ((Tryz.prog.info? 66).bind (·.zero)).isSome = true := by kernel_rfl
@[simp] theorem Tb.el66 : elOK Tryz.prog 66 := elOK_of (by kernel_rfl)
@[simp] theorem Tb.tk67 : tk Tryz.prog 67 = 2 := by kernel_rfl
@[simp] theorem Tb.sz67 : Program.cellsOf Tryz.prog 67 = 3 := by kernel_rfl
@[simp] theorem Tb.ff67_0 : foff Tryz.prog 67 0 = some (0, 3) := by kernel_rfl
@[simp] theorem Tb.ff67_1 : foff Tryz.prog 67 1 = some (1, 3) := by kernel_rfl
@[simp] theorem Tb.ff67_2 : foff Tryz.prog 67 2 = some (2, 66) := by kernel_rfl
@[simp] theorem Tb.cm67 : cmpT Tryz.prog 67 = none := by kernel_rfl
@[simp] theorem Tb.sl67 : slT Tryz.prog 67 = none := by kernel_rfl
@[simp] theorem Tb.st67 : isStr Tryz.prog 67 = false := by kernel_rfl
@[simp] theorem Tb.bo67 : isBool Tryz.prog 67 = false := by kernel_rfl
@[simp] theorem Tb.in67 : intT Tryz.prog 67 = none := by kernel_rfl
@[simp] theorem Tb.un67 : (Tryz.prog.underlying 67).isSome = true := by kernel_rfl
@[simp] theorem Tb.zr67 : zrT Tryz.prog 67 = [.int .i64 0, .int .i64 0, .slice none 0 0] := by kernel_rfl
@[simp] theorem Tb.za67 : (Tryz.prog.info? 67).any (·.zero.isSome) = true := by kernel_rfl
@[simp] theorem Tb.zb67 : ((Tryz.prog.info? 67).bind (·.zero)).isSome = true := by kernel_rfl
@[simp] theorem Tb.el67 : elOK Tryz.prog 67 := elOK_of (by kernel_rfl)
@[simp] theorem Tb.bl67 : bldT Tryz.prog 67 = some ([.int .i64 0, .int .i64 0, .slice none 0 0], [(0, 1), (1, 1), (2, 1)]) := by kernel_rfl
@[simp] theorem Tb.tk68 : tk Tryz.prog 68 = 2 := by kernel_rfl
@[simp] theorem Tb.sz68 : Program.cellsOf Tryz.prog 68 = 3 := by kernel_rfl
@[simp] theorem Tb.ff68_0 : foff Tryz.prog 68 0 = some (0, 3) := by kernel_rfl
@[simp] theorem Tb.ff68_1 : foff Tryz.prog 68 1 = some (1, 3) := by kernel_rfl
@[simp] theorem Tb.ff68_2 : foff Tryz.prog 68 2 = some (2, 66) := by kernel_rfl
@[simp] theorem Tb.cm68 : cmpT Tryz.prog 68 = none := by kernel_rfl
@[simp] theorem Tb.sl68 : slT Tryz.prog 68 = none := by kernel_rfl
@[simp] theorem Tb.st68 : isStr Tryz.prog 68 = false := by kernel_rfl
@[simp] theorem Tb.bo68 : isBool Tryz.prog 68 = false := by kernel_rfl
@[simp] theorem Tb.in68 : intT Tryz.prog 68 = none := by kernel_rfl
@[simp] theorem Tb.un68 : (Tryz.prog.underlying 68).isSome = true := by kernel_rfl
@[simp] theorem Tb.zr68 : zrT Tryz.prog 68 = [.int .i64 0, .int .i64 0, .slice none 0 0] := by kernel_rfl
@[simp] theorem Tb.za68 : (Tryz.prog.info? 68).any (·.zero.isSome) = true := by kernel_rfl
@[simp] theorem Tb.zb68 : ((Tryz.prog.info? 68).bind (·.zero)).isSome = true := by kernel_rfl
@[simp] theorem Tb.el68 : elOK Tryz.prog 68 := elOK_of (by kernel_rfl)
@[simp] theorem Tb.bl68 : bldT Tryz.prog 68 = some ([.int .i64 0, .int .i64 0, .slice none 0 0], [(0, 1), (1, 1), (2, 1)]) := by kernel_rfl
@[simp] theorem Tb.tk69 : tk Tryz.prog 69 = 2 := by kernel_rfl
@[simp] theorem Tb.sz69 : Program.cellsOf Tryz.prog 69 = 10 := by kernel_rfl
@[simp] theorem Tb.ff69_0 : foff Tryz.prog 69 0 = some (0, 9) := by kernel_rfl
@[simp] theorem Tb.ff69_1 : foff Tryz.prog 69 1 = some (1, 3) := by kernel_rfl
@[simp] theorem Tb.ff69_2 : foff Tryz.prog 69 2 = some (2, 68) := by kernel_rfl
@[simp] theorem Tb.ff69_3 : foff Tryz.prog 69 3 = some (5, 68) := by kernel_rfl
@[simp] theorem Tb.ff69_4 : foff Tryz.prog 69 4 = some (8, 3) := by kernel_rfl
@[simp] theorem Tb.ff69_5 : foff Tryz.prog 69 5 = some (9, 4) := by kernel_rfl
@[simp] theorem Tb.cm69 : cmpT Tryz.prog 69 = none := by kernel_rfl
@[simp] theorem Tb.sl69 : slT Tryz.prog 69 = none := by kernel_rfl
@[simp] theorem Tb.st69 : isStr Tryz.prog 69 = false := by kernel_rfl
@[simp] theorem Tb.bo69 : isBool Tryz.prog 69 = false := by kernel_rfl
@[simp] theorem Tb.in69 : intT Tryz.prog 69 = none := by kernel_rfl
@[simp] theorem Tb.un69 : (Tryz.prog.underlying 69).isSome = true := by kernel_rfl
@[simp] theorem Tb.zr69 : zrT Tryz.prog 69 = [.string ⟨#[]⟩, .int .i64 0, .int .i64 0, .int .i64 0, .slice none 0 0, .int .i64 0, .int .i64 0, .slice none 0 0, .int .i64 0, .bool false] := by kernel_rfl
@[simp] theorem Tb.za69 : (Tryz.prog.info? 69).any (·.zero.isSome) = true := by kernel_rfl
@[simp] theorem Tb.zb69 : ((Tryz.prog.info? 69).bind (·.zero)).isSome = true := by kernel_rfl
@[simp] theorem Tb.el69 : elOK Tryz.prog 69 := elOK_of (by kernel_rfl)
@[simp] theorem Tb.bl69 : bldT Tryz.prog 69 = some ([.string ⟨#[]⟩, .int .i64 0, .int .i64 0, .int .i64 0, .slice none 0 0, .int .i64 0, .int .i64 0, .slice none 0 0, .int .i64 0, .bool false], [(0, 1), (1, 1), (2, 3), (5, 3), (8, 1), (9, 1)]) := by kernel_rfl
@[simp] theorem Tb.tk70 : tk Tryz.prog 70 = 2 := by kernel_rfl
@[simp] theorem Tb.sz70 : Program.cellsOf Tryz.prog 70 = 10 := by kernel_rfl
@[simp] theorem Tb.ff70_0 : foff Tryz.prog 70 0 = some (0, 9) := by kernel_rfl
@[simp] theorem Tb.ff70_1 : foff Tryz.prog 70 1 = some (1, 3) := by kernel_rfl
@[simp] theorem Tb.ff70_2 : foff Tryz.prog 70 2 = some (2, 68) := by kernel_rfl
@[simp] theorem Tb.ff70_3 : foff Tryz.prog 70 3 = some (5, 68) := by kernel_rfl
@[simp] theorem Tb.ff70_4 : foff Tryz.prog 70 4 = some (8, 3) := by kernel_rfl
@[simp] theorem Tb.ff70_5 : foff Tryz.prog 70 5 = some (9, 4) := by kernel_rfl
@[simp] theorem Tb.cm70 : cmpT Tryz.prog 70 = none := by kernel_rfl
@[simp] theorem Tb.sl70 : slT Tryz.prog 70 = none := by kernel_rfl
@[simp] theorem Tb.st70 : isStr Tryz.prog 70 = false := by kernel_rfl
@[simp] theorem Tb.bo70 : isBool Tryz.prog 70 = false := by kernel_rfl
@[simp] theorem Tb.in70 : intT Tryz.prog 70 = none := by kernel_rfl
@[simp] theorem Tb.un70 : (Tryz.prog.underlying 70).isSome = true := by kernel_rfl
@[simp] theorem Tb.zr70 : zrT Tryz.prog 70 = [.string ⟨#[]⟩, .int .i64 0, .int .i64 0, .int .i64 0, .slice none 0 0, .int .i64 0, .int .i64 0, .slice none 0 0, .int .i64 0, .bool false] := by kernel_rfl
@[simp] theorem Tb.za70 : (Tryz.prog.info? 70).any (·.zero.isSome) = true := by kernel_rfl
@[simp] theorem Tb.zb70 : ((Tryz.prog.info? 70).bind (·.zero)).isSome = true := by kernel_rfl
@[simp] theorem Tb.el70 : elOK Tryz.prog 70 := elOK_of (by kernel_rfl)
@[simp] theorem Tb.bl70 : bldT Tryz.prog 70 = some ([.string ⟨#[]⟩, .int .i64 0, .int .i64 0, .int .i64 0, .slice none 0 0, .int .i64 0, .int .i64 0, .slice none 0 0, .int .i64 0, .bool false], [(0, 1), (1, 1), (2, 3), (5, 3), (8, 1), (9, 1)]) := by kernel_rfl
@[simp] theorem Tb.tk74 : tk Tryz.prog 74 = 1 := by kernel_rfl
@[simp] theorem Tb.sz74 : Program.cellsOf Tryz.prog 74 = 1 := by kernel_rfl
@[simp] theorem Tb.sl74 : slT Tryz.prog 74 = none := by kernel_rfl
@[simp] theorem Tb.st74 : isStr Tryz.prog 74 = false := by kernel_rfl
@[simp] theorem Tb.bo74 : isBool Tryz.prog 74 = false := by kernel_rfl
@[simp] theorem Tb.in74 : intT Tryz.prog 74 = none := by kernel_rfl
@[simp] theorem Tb.un74 : (Tryz.prog.underlying 74).isSome = true := by kernel_rfl
@[simp] theorem Tb.zr74 : zrT Tryz.prog 74 = [.pointer none] := by kernel_rfl
@[simp] theorem Tb.za74 : (Tryz.prog.info? 74).any (·.zero.isSome) = true := by kernel_rfl
@[simp] theorem Tb.zb74 : ((Tryz.prog.info? 74).bind (·.zero)).isSome = true := by kernel_rfl
@[simp] theorem Tb.el74 : elOK Tryz.prog 74 := elOK_of (by kernel_rfl)
@[simp] theorem Tb.tk78 : tk Tryz.prog 78 = 1 := by kernel_rfl
@[simp] theorem Tb.sz78 : Program.cellsOf Tryz.prog 78 = 1 := by kernel_rfl
@[simp] theorem Tb.sl78 : slT Tryz.prog 78 = some 109 := by kernel_rfl
@[simp] theorem Tb.st78 : isStr Tryz.prog 78 = false := by kernel_rfl
@[simp] theorem Tb.bo78 : isBool Tryz.prog 78 = false := by kernel_rfl
@[simp] theorem Tb.in78 : intT Tryz.prog 78 = none := by kernel_rfl
@[simp] theorem Tb.un78 : (Tryz.prog.underlying 78).isSome = true := by kernel_rfl
@[simp] theorem Tb.zr78 : zrT Tryz.prog 78 = [.slice none 0 0] := by kernel_rfl
@[simp] theorem Tb.za78 : (Tryz.prog.info? 78).any (·.zero.isSome) = true := by kernel_rfl
@[simp] theorem Tb.zb78 : ((Tryz.prog.info? 78).bind (·.zero)).isSome = true := by kernel_rfl
@[simp] theorem Tb.el78 : elOK Tryz.prog 78 := elOK_of (by kernel_rfl)
@[simp] theorem Tb.tk79 : tk Tryz.prog 79 = 1 := by kernel_rfl
@[simp] theorem Tb.sz79 : Program.cellsOf Tryz.prog 79 = 1 := by kernel_rfl
@[simp] theorem Tb.sl79 : slT Tryz.prog 79 = some 136 := by kernel_rfl
@[simp] theorem Tb.st79 : isStr Tryz.prog 79 = false := by kernel_rfl
@[simp] theorem Tb.bo79 : isBool Tryz.prog 79 = false := by kernel_rfl
@[simp] theorem Tb.in79 : intT Tryz.prog 79 = none := by kernel_rfl
@[simp] theorem Tb.un79 : (Tryz.prog.underlying 79).isSome = true := by kernel_rfl
@[simp] theorem Tb.zr79 : zrT Tryz.prog 79 = [.slice none 0 0] := by kernel_rfl
@[simp] theorem Tb.za79 : (Tryz.prog.info? 79).any (·.zero.isSome) = true := by kernel_rfl
@[simp] theorem Tb.zb79 : ((Tryz.prog.info? 79).bind (·.zero)).isSome = true := by kernel_rfl
@[simp] theorem Tb.el79 : elOK Tryz.prog 79 := elOK_of (by kernel_rfl)
@[simp] theorem Tb.tk80 : tk Tryz.prog 80 = 1 := by kernel_rfl
@[simp] theorem Tb.sz80 : Program.cellsOf Tryz.prog 80 = 1 := by kernel_rfl
@[simp] theorem Tb.sl80 : slT Tryz.prog 80 = some 102 := by kernel_rfl
@[simp] theorem Tb.st80 : isStr Tryz.prog 80 = false := by kernel_rfl
@[simp] theorem Tb.bo80 : isBool Tryz.prog 80 = false := by kernel_rfl
@[simp] theorem Tb.in80 : intT Tryz.prog 80 = none := by kernel_rfl
@[simp] theorem Tb.un80 : (Tryz.prog.underlying 80).isSome = true := by kernel_rfl
@[simp] theorem Tb.zr80 : zrT Tryz.prog 80 = [.slice none 0 0] := by kernel_rfl
@[simp] theorem Tb.za80 : (Tryz.prog.info? 80).any (·.zero.isSome) = true := by kernel_rfl
@[simp] theorem Tb.zb80 : ((Tryz.prog.info? 80).bind (·.zero)).isSome = true := by kernel_rfl
@[simp] theorem Tb.el80 : elOK Tryz.prog 80 := elOK_of (by kernel_rfl)
@[simp] theorem Tb.tk81 : tk Tryz.prog 81 = 2 := by kernel_rfl
@[simp] theorem Tb.sz81 : Program.cellsOf Tryz.prog 81 = 4 := by kernel_rfl
@[simp] theorem Tb.ff81_0 : foff Tryz.prog 81 0 = some (0, 78) := by kernel_rfl
@[simp] theorem Tb.ff81_1 : foff Tryz.prog 81 1 = some (1, 79) := by kernel_rfl
@[simp] theorem Tb.ff81_2 : foff Tryz.prog 81 2 = some (2, 80) := by kernel_rfl
@[simp] theorem Tb.ff81_3 : foff Tryz.prog 81 3 = some (3, 3) := by kernel_rfl
@[simp] theorem Tb.cm81 : cmpT Tryz.prog 81 = none := by kernel_rfl
@[simp] theorem Tb.sl81 : slT Tryz.prog 81 = none := by kernel_rfl
@[simp] theorem Tb.st81 : isStr Tryz.prog 81 = false := by kernel_rfl
@[simp] theorem Tb.bo81 : isBool Tryz.prog 81 = false := by kernel_rfl
@[simp] theorem Tb.in81 : intT Tryz.prog 81 = none := by kernel_rfl
@[simp] theorem Tb.un81 : (Tryz.prog.underlying 81).isSome = true := by kernel_rfl
@[simp] theorem Tb.zr81 : zrT Tryz.prog 81 = [.slice none 0 0, .slice none 0 0, .slice none 0 0, .int .i64 0] := by kernel_rfl
@[simp] theorem Tb.za81 : (Tryz.prog.info? 81).any (·.zero.isSome) = true := by kernel_rfl
@[simp] theorem Tb.zb81 : ((Tryz.prog.info? 81).bind (·.zero)).isSome = true := by kernel_rfl
@[simp] theorem Tb.el81 : elOK Tryz.prog 81 := elOK_of (by kernel_rfl)
@[simp] theorem Tb.bl81 : bldT Tryz.prog 81 = some ([.slice none 0 0, .slice none 0 0, .slice none 0 0, .int .i64 0], [(0, 1), (1, 1), (2, 1), (3, 1)]) := by kernel_rfl
@[simp] theorem Tb.tk82 : tk Tryz.prog 82 = 2 := by kernel_rfl
@[simp] theorem Tb.sz82 : Program.cellsOf Tryz.prog 82 = 4 := by kernel_rfl
@[simp] theorem Tb.ff82_0 : foff Tryz.prog 82 0 = some (0, 78) := by kernel_rfl
@[simp] theorem Tb.ff82_1 : foff Tryz.prog 82 1 = some (1, 79) := by kernel_rfl
@[simp] theorem Tb.ff82_2 : foff Tryz.prog 82 2 = some (2, 80) := by kernel_rfl
@[simp] theorem Tb.ff82_3 : foff Tryz.prog 82 3 = some (3, 3) := by kernel_rfl
@[simp] theorem Tb.cm82 : cmpT Tryz.prog 82 = none := by kernel_rfl
@[simp] theorem Tb.sl82 : slT Tryz.prog 82 = none := by kernel_rfl
@[simp] theorem Tb.st82 : isStr Tryz.prog 82 = false := by kernel_rfl
@[simp] theorem Tb.bo82 : isBool Tryz.prog 82 = false := by kernel_rfl
@[simp] theorem Tb.in82 : intT Tryz.prog 82 = none := by kernel_rfl
@[simp] theorem Tb.un82 : (Tryz.prog.underlying 82).isSome = true := by kernel_rfl
@[simp] theorem Tb.zr82 : zrT Tryz.prog 82 = [.slice none 0 0, .slice none 0 0, .slice none 0 0, .int .i64 0] := by kernel_rfl
@[simp] theorem Tb.za82 : (Tryz.prog.info? 82).any (·.zero.isSome) = true := by kernel_rfl
@[simp] theorem Tb.zb82 : ((Tryz.prog.info? 82).bind (·.zero)).isSome = true := by kernel_rfl
@[simp] theorem Tb.el82 : elOK Tryz.prog 82 := elOK_of (by kernel_rfl)
@[simp] theorem Tb.bl82 : bldT Tryz.prog 82 = some ([.slice none 0 0, .slice none 0 0, .slice none 0 0, .int .i64 0], [(0, 1), (1, 1), (2, 1), (3, 1)]) := by kernel_rfl
@[simp] theorem Tb.tk86 : tk Tryz.prog 86 = 1 := by kernel_rfl
@[simp] theorem Tb.sz86 : Program.cellsOf Tryz.prog 86 = 1 := by kernel_rfl
@[simp] theorem Tb.sl86 : slT Tryz.prog 86 = some 107 := by kernel_rfl
@[simp] theorem Tb.st86 : isStr Tryz.prog 86 = false := by kernel_rfl
@[simp] theorem Tb.bo86 : isBool Tryz.prog 86 = false := by kernel_rfl
@[simp] theorem Tb.in86 : intT Tryz.prog 86 = none := by kernel_rfl
@[simp] theorem Tb.un86 : (Tryz.prog.underlying 86).isSome = true := by kernel_rfl
@[simp] theorem Tb.zr86 : zrT Tryz.prog 86 = [.slice none 0 0] := by kernel_rfl
@[simp] theorem Tb.za86 : (Tryz.prog.info? 86).any (·.zero.isSome) = true := by kernel_rfl
@[simp] theorem Tb.zb86 : ((Tryz.prog.info? 86).bind (·.zero)).isSome = true := by kernel_rfl
@[simp] theorem Tb.el86 : elOK Tryz.prog 86 := elOK_of (by kernel_rfl)
@[simp] theorem Tb.tk87 : tk Tryz.prog 87 = 1 := by kernel_rfl
@[simp] theorem Tb.sz87 : Program.cellsOf Tryz.prog 87 = 1 := by kernel_rfl
@[simp] theorem Tb.sl87 : slT Tryz.prog 87 = some 132 := by kernel_rfl
@[simp] theorem Tb.st87 : isStr Tryz.prog 87 = false := by kernel_rfl
@[simp] theorem Tb.bo87 : isBool Tryz.prog 87 = false := by kernel_rfl
@[simp] theorem Tb.in87 : intT Tryz.prog 87 = none := by kernel_rfl
@[simp] theorem Tb.un87 : (Tryz.prog.underlying 87).isSome = true := by kernel_rfl
@[simp] theorem Tb.zr87 : zrT Tryz.prog 87 = [.slice none 0 0] := by kernel_rfl
@[simp] theorem Tb.za87 : (Tryz.prog.info? 87).any (·.zero.isSome) = true := by kernel_rfl
@[simp] theorem Tb.zb87 : ((Tryz.prog.info? 87).bind (·.zero)).isSome = true := by kernel_rfl
@[simp] theorem Tb.el87 : elOK Tryz.prog 87 := elOK_of (by kernel_rfl)
@[simp] theorem Tb.tk88 : tk Tryz.prog 88 = 1 := by kernel_rfl
@[simp] theorem Tb.sz88 : Program.cellsOf Tryz.prog 88 = 1 := by kernel_rfl
@[simp] theorem Tb.sl88 : slT Tryz.prog 88 = none := by kernel_rfl
@[simp] theorem Tb.mp88 : mpT Tryz.prog 88 = none := by kernel_rfl
@[simp] theorem Tb.ms88 : msT Tryz.prog 88 = some (.int .i64, [.str [], .str []]) := by kernel_rfl
@[simp] theorem Tb.st88 : isStr Tryz.prog 88 = false := by kernel_rfl
@[simp] theorem Tb.bo88 : isBool Tryz.prog 88 = false := by kernel_rfl
@[simp] theorem Tb.in88 : intT Tryz.prog 88 = none := by kernel_rfl
@[simp] theorem Tb.un88 : (Tryz.prog.underlying 88).isSome = true := by kernel_rfl
@[simp] theorem Tb.zr88 : zrT Tryz.prog 88 = [.map none] := by kernel_rfl
@[simp] theorem Tb.za88 : (Tryz.prog.info? 88).any (·.zero.isSome) = true := by kernel_rfl
@[simp] theorem Tb.zb88 : ((Tryz.prog.info? 88).bind (·.zero)).isSome = true := by kernel_rfl
@[simp] theorem Tb.el88 : elOK Tryz.prog 88 := elOK_of (by kernel_rfl)
@[simp] theorem Tb.tk89 : tk Tryz.prog 89 = 1 := by kernel_rfl
@[simp] theorem Tb.sz89 : Program.cellsOf Tryz.prog 89 = 1 := by kernel_rfl
@[simp] theorem Tb.sl89 : slT Tryz.prog 89 = none := by kernel_rfl
@[simp] theorem Tb.st89 : isStr Tryz.prog 89 = false := by kernel_rfl
@[simp] theorem Tb.bo89 : isBool Tryz.prog 89 = false := by kernel_rfl
@[simp] theorem Tb.in89 : intT Tryz.prog 89 = none := by kernel_rfl
@[simp] theorem Tb.un89 : (Tryz.prog.underlying 89).isSome = true := by kernel_rfl
@[simp] theorem Tb.zr89 : zrT Tryz.prog 89 = [.nilFunc] := by kernel_rfl
@[simp] theorem Tb.za89 : (Tryz.prog.info? 89).any (·.zero.isSome) = true := by kernel_rfl
@[simp] theorem Tb.zb89 : ((Tryz.prog.info? 89).bind (·.zero)).isSome = true := by kernel_rfl
@[simp] theorem Tb.el89 : elOK Tryz.prog 89 := elOK_of (by kernel_rfl)
@[simp] theorem Tb.tk90 : tk Tryz.prog 90 = 2 := by kernel_rfl
@[simp] theorem Tb.sz90 : Program.cellsOf Tryz.prog 90 = 5 := by kernel_rfl
@[simp] theorem Tb.sl90 : slT Tryz.prog 90 = none := by kernel_rfl
@[simp] theorem Tb.ar90 : arT Tryz.prog 90 = some (5, 89) := by kernel_rfl
@[simp] theorem Tb.st90 : isStr Tryz.prog 90 = false := by kernel_rfl
@[simp] theorem Tb.bo90 : isBool Tryz.prog 90 = false := by kernel_rfl
@[simp] theorem Tb.in90 : intT Tryz.prog 90 = none := by kernel_rfl
@[simp] theorem Tb.un90 : (Tryz.prog.underlying 90).isSome = true := by kernel_rfl
@[simp] theorem Tb.zr90 : zrT Tryz.prog 90 = [.nilFunc, .nilFunc, .nilFunc, .nilFunc, .nilFunc] := by kernel_rfl
@[simp] theorem Tb.za90 : (Tryz.prog.info? 90).any (·.zero.isSome) = true := by kernel_rfl
@[simp] theorem Tb.zb90 : ((Tryz.prog.info? 90).bind (·.zero)).isSome = true := by kernel_rfl
@[simp] theorem Tb.el90 : elOK Tryz.prog 90 := elOK_of (by kernel_rfl)
@[simp] theorem Tb.bl90 : bldT Tryz.prog 90 = some ([.nilFunc, .nilFunc, .nilFunc, .nilFunc, .nilFunc], [(0, 1), (1, 1), (2, 1), (3, 1), (4, 1)]) := by kernel_rfl
@[simp] theorem Tb.tk91 : tk Tryz.prog 91 = 2 := by kernel_rfl
@[simp] theorem Tb.sz91 : Program.cellsOf Tryz.prog 91 = 15 := by kernel_rfl
@[simp] theorem Tb.ff91_0 : foff Tryz.prog 91 0 = some (0, 26) := by kernel_rfl
@[simp] theorem Tb.ff91_1 : foff Tryz.prog 91 1 = some (5, 86) := by kernel_rfl
@[simp] theorem Tb.ff91_2 : foff Tryz.prog 91 2 = some (6, 87) := by kernel_rfl
@[simp] theorem Tb.ff91_3 : foff Tryz.prog 91 3 = some (7, 3) := by kernel_rfl
@[simp] theorem Tb.ff91_4 : foff Tryz.prog 91 4 = some (8, 3) := by kernel_rfl
@[simp] theorem Tb.ff91_5 : foff Tryz.prog 91 5 = some (9, 88) := by kernel_rfl
@[simp] theorem Tb.ff91_6 : foff Tryz.prog 91 6 = some (10, 90) := by kernel_rfl
@[simp] theorem Tb.cm91 : cmpT Tryz.prog 91 = none := by kernel_rfl
@[simp] theorem Tb.sl91 : slT Tryz.prog 91 = none := by kernel_rfl
@[simp] theorem Tb.st91 : isStr Tryz.prog 91 = false := by kernel_rfl
@[simp] theorem Tb.bo91 : isBool Tryz.prog 91 = false := by kernel_rfl
@[simp] theorem Tb.in91 : intT Tryz.prog 91 = none := by kernel_rfl
@[simp] theorem Tb.un91 : (Tryz.prog.underlying 91).isSome = true := by kernel_rfl
@[simp] theorem Tb.zr91 : zrT Tryz.prog 91 = [.int .i64 0, .slice none 0 0, .slice none 0 0, .slice none 0 0, .slice none 0 0, .slice none 0 0, .slice none 0 0, .int .i64 0, .int .i64 0, .map none, .nilFunc, .nilFunc, .nilFunc, .nilFunc, .nilFunc] := by kernel_rfl
@[simp] theorem Tb.za91 : (Tryz.prog.info? 91).any (·.zero.isSome) = true := by kernel_rfl
@[simp] theorem Tb.zb91 : ((Tryz.prog.info? 91).bind (·.zero)).isSome = true := by kernel_rfl
@[simp] theorem Tb.el91 : elOK Tryz.prog 91 := elOK_of (by kernel_rfl)
@[simp] theorem Tb.bl91 : bldT Tryz.prog 91 = some ([.int .i64 0, .slice none 0 0, .slice none 0 0, .slice none 0 0, .slice none 0 0, .slice none 0 0, .slice none 0 0, .int .i64 0, .int .i64 0, .map none, .nilFunc, .nilFunc, .nilFunc, .nilFunc, .nilFunc], [(0, 5), (5, 1), (6, 1), (7, 1), (8, 1), (9, 1), (10, 5)]) := by kernel_rfl
@[simp] theorem Tb.tk92 : tk Tryz.prog 92 = 2 := by kernel_rfl
@[simp] theorem Tb.sz92 : Program.cellsOf Tryz.prog 92 = 15 := by kernel_rfl
@[simp] theorem Tb.ff92_0 : foff Tryz.prog 92 0 = some (0, 26) := by kernel_rfl
@[simp] theorem Tb.ff92_1 : foff Tryz.prog 92 1 = some (5, 86) := by kernel_rfl
@[simp] theorem Tb.ff92_2 : foff Tryz.prog 92 2 = some (6, 87) := by kernel_rfl
@[simp] theorem Tb.ff92_3 : foff Tryz.prog 92 3 = some (7, 3) := by kernel_rfl
@[simp] theorem Tb.ff92_4 : foff Tryz.prog 92 4 = some (8, 3) := by kernel_rfl
@[simp] theorem Tb.ff92_5 : foff Tryz.prog 92 5 = some (9, 88) := by kernel_rfl
@[simp] theorem Tb.ff92_6 : foff Tryz.prog 92 6 = some (10, 90) := by kernel_rfl
@[simp] theorem Tb.cm92 : cmpT Tryz.prog 92 = none := by kernel_rfl
@[simp] theorem Tb.sl92 : slT Tryz.prog 92 = none := by kernel_rfl
@[simp] theorem Tb.st92 : isStr Tryz.prog 92 = false := by kernel_rfl
@[simp] theorem Tb.bo92 : isBool Tryz.prog 92 = false := by kernel_rfl
@[simp] theorem Tb.in92 : intT Tryz.prog 92 = none := by kernel_rfl
@[simp] theorem Tb.un92 : (Tryz.prog.underlying 92).isSome = true := by kernel_rfl
@[simp] theorem Tb.zr92 : zrT Tryz.prog 92 = [.int .i64 0, .slice none 0 0, .slice none 0 0, .slice none 0 0, .slice none 0 0, .slice none 0 0, .slice none 0 0, .int .i64 0, .int .i64 0, .map none, .nilFunc, .nilFunc, .nilFunc, .nilFunc, .nilFunc] := by kernel_rfl
@[simp] theorem Tb.za92 : (Tryz.prog.info? 92).any (·.zero.isSome) = true := by kernel_rfl
@[simp] theorem Tb.zb92 : ((Tryz.prog.info? 92).bind (·.zero)).isSome = true := by kernel_rfl
@[simp] theorem Tb.el92 : elOK Tryz.prog 92 := elOK_of (by kernel_rfl)
@[simp] theorem Tb.bl92 : bldT Tryz.prog 92 = some ([.int .i64 0, .slice none 0 0, .slice none 0 0, .slice none 0 0, .slice none 0 0, .slice none 0 0, .slice none 0 0, .int .i64 0, .int .i64 0, .map none, .nilFunc, .nilFunc, .nilFunc, .nilFunc, .nilFunc], [(0, 5), (5, 1), (6, 1), (7, 1), (8, 1), (9, 1), (10, 5)]) := by kernel_rfl
@[simp] theorem Tb.tk94 : tk Tryz.prog 94 = 2 := by kernel_rfl
@[simp] theorem Tb.sz94 : Program.cellsOf Tryz.prog 94 = 4 := by kernel_rfl
@[simp] theorem Tb.ff94_0 : foff Tryz.prog 94 0 = some (0, 44) := by kernel_rfl
@[simp] theorem Tb.ff94_1 : foff Tryz.prog 94 1 = some (2, 44) := by kernel_rfl
@[simp] theorem Tb.cm94 : cmpT Tryz.prog 94 = some [.int .i64, .string, .int .i64, .string] := by kernel_rfl
@[simp] theorem Tb.sl94 : slT Tryz.prog 94 = none := by kernel_rfl
@[simp] theorem Tb.st94 : isStr Tryz.prog 94 = false := by kernel_rfl
@[simp] theorem Tb.bo94 : isBool Tryz.prog 94 = false := by kernel_rfl
@[simp] theorem Tb.in94 : intT Tryz.prog 94 = none := by kernel_rfl
@[simp] theorem Tb.un94 : (Tryz.prog.underlying 94).isSome = true := by kernel_rfl
@[simp] theorem Tb.zr94 : zrT Tryz.prog 94 = [.int .i64 0, .string ⟨#[]⟩, .int .i64 0, .string ⟨#[]⟩] := by kernel_rfl
@[simp] theorem Tb.za94 : (Tryz.prog.info? 94).any (·.zero.isSome) = true := by kernel_rfl
@[simp] theorem Tb.zb94 : ((Tryz.prog.info? 94).bind (·.zero)).isSome = true := by kernel_rfl
@[simp] theorem Tb.el94 : elOK Tryz.prog 94 := elOK_of (by kernel_rfl)
@[simp] theorem Tb.bl94 : bldT Tryz.prog 94 = some ([.int .i64 0, .string ⟨#[]⟩, .int .i64 0, .string ⟨#[]⟩], [(0, 2), (2, 2)]) := by kernel_rfl
@[simp] theorem Tb.tk95 : tk Tryz.prog 95 = 2 := by kernel_rfl
@[simp] theorem Tb.sz95 : Program.cellsOf Tryz.prog 95 = 4 := by kernel_rfl
@[simp] theorem Tb.ff95_0 : foff Tryz.prog 95 0 = some (0, 44) := by kernel_rfl
@[simp] theorem Tb.ff95_1 : foff Tryz.prog 95 1 = some (2, 44) := by kernel_rfl
@[simp] theorem Tb.cm95 : cmpT Tryz.prog 95 = some [.int .i64, .string, .int .i64, .string] := by kernel_rfl
@[simp] theorem Tb.sl95 : slT Tryz.prog 95 = none := by kernel_rfl
@[simp] theorem Tb.st95 : isStr Tryz.prog 95 = false := by kernel_rfl
@[simp] theorem Tb.bo95 : isBool Tryz.prog 95 = false := by kernel_rfl
@[simp] theorem Tb.in95 : intT Tryz.prog 95 = none := by kernel_rfl
@[simp] theorem Tb.un95 : (Tryz.prog.underlying 95).isSome = true := by kernel_rfl
@[simp] theorem Tb.zr95 : zrT Tryz.prog 95 = [.int .i64 0, .string ⟨#[]⟩, .int .i64 0, .string ⟨#[]⟩] := by kernel_rfl
@[simp] theorem Tb.za95 : (Tryz.prog.info? 95).any (·.zero.isSome) = true := by kernel_rfl
@[simp] theorem Tb.zb95 : ((Tryz.prog.info? 95).bind (·.zero)).isSome = true := by kernel_rfl
@[simp] theorem Tb.el95 : elOK Tryz.prog 95 := elOK_of (by kernel_rfl)
@[simp] theorem Tb.bl95 : bldT Tryz.prog 95 = some ([.int .i64 0, .string ⟨#[]⟩, .int .i64 0, .string ⟨#[]⟩], [(0, 2), (2, 2)]) := by kernel_rfl
@[simp] theorem Tb.tk97 : tk Tryz.prog 97 = 2 := by kernel_rfl
@[simp] theorem Tb.sz97 : Program.cellsOf Tryz.prog 97 = 2 := by kernel_rfl
@[simp] theorem Tb.ff97_0 : foff Tryz.prog 97 0 = some (0, 9) := by kernel_rfl
@[simp] theorem Tb.ff97_1 : foff Tryz.prog 97 1 = some (1, 9) := by kernel_rfl
@[simp] theorem Tb.cm97 : cmpT Tryz.prog 97 = some [.string, .string] := by kernel_rfl
@[simp] theorem Tb.sl97 : slT Tryz.prog 97 = none := by kernel_rfl
@[simp] theorem Tb.st97 : isStr Tryz.prog 97 = false := by kernel_rfl
@[simp] theorem Tb.bo97 : isBool Tryz.prog 97 = false := by kernel_rfl
@[simp] theorem Tb.in97 : intT Tryz.prog 97 = none := by kernel_rfl
@[simp] theorem Tb.un97 : (Tryz.prog.underlying 97).isSome = true := by kernel_rfl
@[simp] theorem Tb.zr97 : zrT Tryz.prog 97 = [.string ⟨#[]⟩, .string ⟨#[]⟩] := by kernel_rfl
@[simp] theorem Tb.za97 : (Tryz.prog.info? 97).any (·.zero.isSome) = true := by kernel_rfl
@[simp] theorem Tb.zb97 : ((Tryz.prog.info? 97).bind (·.zero)).isSome = true := by kernel_rfl
@[simp] theorem Tb.el97 : elOK Tryz.prog 97 := elOK_of (by kernel_rfl)
@[simp] theorem Tb.bl97 : bldT Tryz.prog 97 = some ([.string ⟨#[]⟩, .string ⟨#[]⟩], [(0, 1), (1, 1)]) := by kernel_rfl
@[simp] theorem Tb.tk98 : tk Tryz.prog 98 = 2 := by kernel_rfl
@[simp] theorem Tb.sz98 : Program.cellsOf Tryz.prog 98 = 2 := by kernel_rfl
@[simp] theorem Tb.ff98_0 : foff Tryz.prog 98 0 = some (0, 9) := by kernel_rfl
@[simp] theorem Tb.ff98_1 : foff Tryz.prog 98 1 = some (1, 9) := by kernel_rfl
@[simp] theorem Tb.cm98 : cmpT Tryz.prog 98 = some [.string, .string] := by kernel_rfl
@[simp] theorem Tb.sl98 : slT Tryz.prog 98 = none := by kernel_rfl
@[simp] theorem Tb.st98 : isStr Tryz.prog 98 = false := by kernel_rfl
@[simp] theorem Tb.bo98 : isBool Tryz.prog 98 = false := by kernel_rfl
@[simp] theorem Tb.in98 : intT Tryz.prog 98 = none := by kernel_rfl
@[simp] theorem Tb.un98 : (Tryz.prog.underlying 98).isSome = true := by kernel_rfl
@[simp] theorem Tb.zr98 : zrT Tryz.prog 98 = [.string ⟨#[]⟩, .string ⟨#[]⟩] := by kernel_rfl
@[simp] theorem Tb.za98 : (Tryz.prog.info? 98).any (·.zero.isSome) = true := by kernel_rfl
@[simp] theorem Tb.zb98 : ((Tryz.prog.info? 98).bind (·.zero)).isSome = true := by kernel_rfl
@[simp] theorem Tb.el98 : elOK Tryz.prog 98 := elOK_of (by kernel_rfl)
@[simp] theorem Tb.bl98 : bldT Tryz.prog 98 = some ([.string ⟨#[]⟩, .string ⟨#[]⟩], [(0, 1), (1, 1)]) := by kernel_rfl
@[simp] theorem Tb.tk101 : tk Tryz.prog 101 = 2 := by kernel_rfl
@[simp] theorem Tb.sz101 : Program.cellsOf Tryz.prog 101 = 2 := by kernel_rfl
@[simp] theorem Tb.ff101_0 : foff Tryz.prog 101 0 = some (0, 9) := by kernel_rfl
@[simp] theorem Tb.ff101_1 : foff Tryz.prog 101 1 = some (1, 9) := by kernel_rfl
@[simp] theorem Tb.cm101 : cmpT Tryz.prog 101 = some [.string, .string] := by kernel_rfl
@[simp] theorem Tb.sl101 : slT Tryz.prog 101 = none := by kernel_rfl
@[simp] theorem Tb.st101 : isStr Tryz.prog 101 = false := by kernel_rfl
@[simp] theorem Tb.bo101 : isBool Tryz.prog 101 = false := by kernel_rfl
@[simp] theorem Tb.in101 : intT Tryz.prog 101 = none := by kernel_rfl
@[simp] theorem Tb.un101 : (Tryz.prog.underlying 101).isSome = true := by kernel_rfl
@[simp] theorem Tb.zr101 : zrT Tryz.prog 101 = [.string ⟨#[]⟩, .string ⟨#[]⟩] := by kernel_rfl
@[simp] theorem Tb.za101 : (Tryz.prog.info? 101).any (·.zero.isSome) = true := by kernel_rfl
@[simp] theorem Tb.zb101 : ((Tryz.prog.info? 101).bind (·.zero)).isSome = true := by kernel_rfl
@[simp] theorem Tb.el101 : elOK Tryz.prog 101 := elOK_of (by kernel_rfl)
@[simp] theorem Tb.bl101 : bldT Tryz.prog 101 = some ([.string ⟨#[]⟩, .string ⟨#[]⟩], [(0, 1), (1, 1)]) := by kernel_rfl
@[simp] theorem Tb.tk102 : tk Tryz.prog 102 = 2 := by kernel_rfl
@[simp] theorem Tb.sz102 : Program.cellsOf Tryz.prog 102 = 2 := by kernel_rfl
@[simp] theorem Tb.ff102_0 : foff Tryz.prog 102 0 = some (0, 9) := by kernel_rfl
@[simp] theorem Tb.ff102_1 : foff Tryz.prog 102 1 = some (1, 9) := by kernel_rfl
@[simp] theorem Tb.cm102 : cmpT Tryz.prog 102 = some [.string, .string] := by kernel_rfl
@[simp] theorem Tb.sl102 : slT Tryz.prog 102 = none := by kernel_rfl
@[simp] theorem Tb.st102 : isStr Tryz.prog 102 = false := by kernel_rfl
@[simp] theorem Tb.bo102 : isBool Tryz.prog 102 = false := by kernel_rfl
@[simp] theorem Tb.in102 : intT Tryz.prog 102 = none := by kernel_rfl
@[simp] theorem Tb.un102 : (Tryz.prog.underlying 102).isSome = true := by kernel_rfl
@[simp] theorem Tb.zr102 : zrT Tryz.prog 102 = [.string ⟨#[]⟩, .string ⟨#[]⟩] := by kernel_rfl
@[simp] theorem Tb.za102 : (Tryz.prog.info? 102).any (·.zero.isSome) = true := by kernel_rfl
@[simp] theorem Tb.zb102 : ((Tryz.prog.info? 102).bind (·.zero)).isSome = true := by kernel_rfl
@[simp] theorem Tb.el102 : elOK Tryz.prog 102 := elOK_of (by kernel_rfl)
@[simp] theorem Tb.bl102 : bldT Tryz.prog 102 = some ([.string ⟨#[]⟩, .string ⟨#[]⟩], [(0, 1), (1, 1)]) := by kernel_rfl
@[simp] theorem Tb.tk105 : tk Tryz.prog 105 = 1 := by kernel_rfl
@[simp] theorem Tb.sz105 : Program.cellsOf Tryz.prog 105 = 1 := by kernel_rfl
@[simp] theorem Tb.sl105 : slT Tryz.prog 105 = none := by kernel_rfl
@[simp] theorem Tb.st105 : isStr Tryz.prog 105 = false := by kernel_rfl
@[simp] theorem Tb.bo105 : isBool Tryz.prog 105 = false := by kernel_rfl
@[simp] theorem Tb.in105 : intT Tryz.prog 105 = none := by kernel_rfl
@[simp] theorem Tb.un105 : (Tryz.prog.underlying 105).isSome = true := by kernel_rfl
@[simp] theorem Tb.zr105 : zrT Tryz.prog 105 = [.pointer none] := by kernel_rfl
@[simp] theorem Tb.za105 : (Tryz.prog.info? 105).any (·.zero.isSome) = true := by kernel_rfl
@[simp] theorem Tb.zb105 : ((Tryz.prog.info? 105).bind (·.zero)).isSome = true := by kernel_rfl
@[simp] theorem Tb.el105 : elOK Tryz.prog 105 := elOK_of (by kernel_rfl)
@[simp] theorem Tb.tk106 : tk Tryz.prog 106 = 2 := by kernel_rfl
@[simp] theorem Tb.sz106 : Program.cellsOf Tryz.prog 106 = 7 := by kernel_rfl
@[simp] theorem Tb.ff106_0 : foff Tryz.prog 106 0 = some (0, 65) := by kernel_rfl
@[simp] theorem Tb.ff106_1 : foff Tryz.prog 106 1 = some (3, 3) := by kernel_rfl
@[simp] theorem Tb.ff106_2 : foff Tryz.prog 106 2 = some (4, 105) := by kernel_rfl
@[simp] theorem Tb.ff106_3 : foff Tryz.prog 106 3 = some (5, 3) := by kernel_rfl
@[simp] theorem Tb.ff106_4 : foff Tryz.prog 106 4 = some (6, 3) := by kernel_rfl
@[simp] theorem Tb.cm106 : cmpT Tryz.prog 106 = none := by kernel_rfl
@[simp] theorem Tb.sl106 : slT Tryz.prog 106 = none := by kernel_rfl
@[simp] theorem Tb.st106 : isStr Tryz.prog 106 = false := by kernel_rfl
@[simp] theorem Tb.bo106 : isBool Tryz.prog 106 = false := by kernel_rfl
@[simp] theorem Tb.in106 : intT Tryz.prog 106 = none := by kernel_rfl
@[simp] theorem Tb.un106 : (Tryz.prog.underlying 106).isSome = true := by kernel_rfl
@[simp] theorem Tb.zr106 : zrT Tryz.prog 106 = [.int .i64 0, .string ⟨#[]⟩, .int .i64 0, .int .i64 0, .pointer none, .int .i64 0, .int .i64 0] := by kernel_rfl
@[simp] theorem Tb.za106 : (Tryz.prog.info? 106).any (·.zero.isSome) = true := by kernel_rfl
@[simp] theorem Tb.zb106 : ((Tryz.prog.info? 106).bind (·.zero)).isSome = true := by kernel_rfl
@[simp] theorem Tb.el106 : elOK Tryz.prog 106 := elOK_of (by kernel_rfl)
@[simp] theorem Tb.bl106 : bldT Tryz.prog 106 = some ([.int .i64 0, .string ⟨#[]⟩, .int .i64 0, .int .i64 0, .pointer none, .int .i64 0, .int .i64 0], [(0, 3), (3, 1), (4, 1), (5, 1), (6, 1)]) := by kernel_rfl
@[simp] theorem Tb.tk107 : tk Tryz.prog 107 = 2 := by kernel_rfl
@[simp] theorem Tb.sz107 : Program.cellsOf Tryz.prog 107 = 7 := by kernel_rfl
@[simp] theorem Tb.ff107_0 : foff Tryz.prog 107 0 = some (0, 65) := by kernel_rfl
@[simp] theorem Tb.ff107_1 : foff Tryz.prog 107 1 = some (3, 3) := by kernel_rfl
@[simp] theorem Tb.ff107_2 : foff Tryz.prog 107 2 = some (4, 105) := by kernel_rfl
@[simp] theorem Tb.ff107_3 : foff Tryz.prog 107 3 = some (5, 3) := by kernel_rfl
@[simp] theorem Tb.ff107_4 : foff Tryz.prog 107 4 = some (6, 3) := by kernel_rfl
@[simp] theorem Tb.cm107 : cmpT Tryz.prog 107 = none := by kernel_rfl
@[simp] theorem Tb.sl107 : slT Tryz.prog 107 = none := by kernel_rfl
@[simp] theorem Tb.st107 : isStr Tryz.prog 107 = false := by kernel_rfl
@[simp] theorem Tb.bo107 : isBool Tryz.prog 107 = false := by kernel_rfl
@[simp] theorem Tb.in107 : intT Tryz.prog 107 = none := by kernel_rfl
@[simp] theorem Tb.un107 : (Tryz.prog.underlying 107).isSome = true := by kernel_rfl
@[simp] theorem Tb.zr107 : zrT Tryz.prog 107 = [.int .i64 0, .string ⟨#[]⟩, .int .i64 0, .int .i64 0, .pointer none, .int .i64 0, .int .i64 0] := by kernel_rfl
@[simp] theorem Tb.za107 : (Tryz.prog.info? 107).any (·.zero.isSome) = true := by kernel_rfl
@[simp] theorem Tb.zb107 : ((Tryz.prog.info? 107).bind (·.zero)).isSome = true := by kernel_rfl
@[simp] theorem Tb.el107 : elOK Tryz.prog 107 := elOK_of (by kernel_rfl)
@[simp] theorem Tb.bl107 : bldT Tryz.prog 107 = some ([.int .i64 0, .string ⟨#[]⟩, .int .i64 0, .int .i64 0, .pointer none, .int .i64 0, .int .i64 0], [(0, 3), (3, 1), (4, 1), (5, 1), (6, 1)]) := by kernel_rfl
@[simp] theorem Tb.tk108 : tk Tryz.prog 108 = 2 := by kernel_rfl
@[simp] theorem Tb.sz108 : Program.cellsOf Tryz.prog 108 = 7 := by kernel_rfl
@[simp] theorem Tb.ff108_0 : foff Tryz.prog 108 0 = some (0, 65) := by kernel_rfl
@[simp] theorem Tb.ff108_1 : foff Tryz.prog 108 1 = some (3, 3) := by kernel_rfl
@[simp] theorem Tb.ff108_2 : foff Tryz.prog 108 2 = some (4, 68) := by kernel_rfl
@[simp] theorem Tb.cm108 : cmpT Tryz.prog 108 = none := by kernel_rfl
@[simp] theorem Tb.sl108 : slT Tryz.prog 108 = none := by kernel_rfl
@[simp] theorem Tb.st108 : isStr Tryz.prog 108 = false := by kernel_rfl
@[simp] theorem Tb.bo108 : isBool Tryz.prog 108 = false := by kernel_rfl
@[simp] theorem Tb.in108 : intT Tryz.prog 108 = none := by kernel_rfl
@[simp] theorem Tb.un108 : (Tryz.prog.underlying 108).isSome = true := by kernel_rfl
@[simp] theorem Tb.zr108 : zrT Tryz.prog 108 = [.int .i64 0, .string ⟨#[]⟩, .int .i64 0, .int .i64 0, .int .i64 0, .int .i64 0, .slice none 0 0] := by kernel_rfl
@[simp] theorem Tb.za108 : (Tryz.prog.info? 108).any (·.zero.isSome) = true := by kernel_rfl
@[simp] theorem Tb.zb108 : ((Tryz.prog.info? 108).bind (·.zero)).isSome = true := by kernel_rfl
@[simp] theorem Tb.el108 : elOK Tryz.prog 108 := elOK_of (by kernel_rfl)
@[simp] theorem Tb.bl108 : bldT Tryz.prog 108 = some ([.int .i64 0, .string ⟨#[]⟩, .int .i64 0, .int .i64 0, .int .i64 0, .int .i64 0, .slice none 0 0], [(0, 3), (3, 1), (4, 3)]) := by kernel_rfl
@[simp] theorem Tb.tk109 : tk Tryz.prog 109 = 2 := by kernel_rfl
@[simp] theorem Tb.sz109 : Program.cellsOf Tryz.prog 109 = 7 := by kernel_rfl
@[simp] theorem Tb.ff109_0 : foff Tryz.prog 109 0 = some (0, 65) := by kernel_rfl
@[simp] theorem Tb.ff109_1 : foff Tryz.prog 109 1 = some (3, 3) := by kernel_rfl
@[simp] theorem Tb.ff109_2 : foff Tryz.prog 109 2 = some (4, 68) := by kernel_rfl
@[simp] theorem Tb.cm109 : cmpT Tryz.prog 109 = none := by kernel_rfl
@[simp] theorem Tb.sl109 : slT Tryz.prog 109 = none := by kernel_rfl
@[simp] theorem Tb.st109 : isStr Tryz.prog 109 = false := by kernel_rfl
@[simp] theorem Tb.bo109 : isBool Tryz.prog 109 = false := by kernel_rfl
@[simp] theorem Tb.in109 : intT Tryz.prog 109 = none := by kernel_rfl
@[simp] theorem Tb.un109 : (Tryz.prog.underlying 109).isSome = true := by kernel_rfl
@[simp] theorem Tb.zr109 : zrT Tryz.prog 109 = [.int .i64 0, .string ⟨#[]⟩, .int .i64 0, .int .i64 0, .int .i64 0, .int .i64 0, .slice none 0 0] := by kernel_rfl
@[simp] theorem Tb.za109 : (Tryz.prog.info? 109).any (·.zero.isSome) = true := by kernel_rfl
@[simp] theorem Tb.zb109 : ((Tryz.prog.info? 109).bind (·.zero)).isSome = true := by kernel_rfl
@[simp] theorem Tb.el109 : elOK Tryz.prog 109 := elOK_of (by kernel_rfl)
@[simp] theorem Tb.bl109 : bldT Tryz.prog 109 = some ([.int .i64 0, .string ⟨#[]⟩, .int .i64 0, .int .i64 0, .int .i64 0, .int .i64 0, .slice none 0 0], [(0, 3), (3, 1), (4, 3)]) := by kernel_rfl
@[simp] theorem Tb.tk125 : tk Tryz.prog 125 = 1 := by kernel_rfl
@[simp] theorem Tb.sz125 : Program.cellsOf Tryz.prog 125 = 1 := by kernel_rfl
@[simp] theorem Tb.sl125 : slT Tryz.prog 125 = none := by kernel_rfl
@[simp] theorem Tb.st125 : isStr Tryz.prog 125 = false := by kernel_rfl
@[simp] theorem Tb.bo125 : isBool Tryz.prog 125 = false := by kernel_rfl
@[simp] theorem Tb.in125 : intT Tryz.prog 125 = none := by kernel_rfl
@[simp] theorem Tb.un125 : (Tryz.prog.underlying 125).isSome = true := by kernel_rfl
@[simp] theorem Tb.zr125 : zrT Tryz.prog 125 = [.nilFunc] := by kernel_rfl
@[simp] theorem Tb.za125 : (Tryz.prog.info? 125).any (·.zero.isSome) = true := by kernel_rfl
@[simp] theorem Tb.zb125 : ((Tryz.prog.info? 125).bind (·.zero)).isSome = true := by kernel_rfl
@[simp] theorem Tb.el125 : elOK Tryz.prog 125 := elOK_of (by kernel_rfl)
@[simp] theorem Tb.tk132 : tk Tryz.prog 132 = 2 := by kernel_rfl
@[simp] theorem Tb.sz132 : Program.cellsOf Tryz.prog 132 = 4 := by kernel_rfl
@[simp] theorem Tb.sl132 : slT Tryz.prog 132 = none := by kernel_rfl
@[simp] theorem Tb.ar132 : arT Tryz.prog 132 = some (2, 98) := by kernel_rfl
@[simp] theorem Tb.st132 : isStr Tryz.prog 132 = false := by kernel_rfl
@[simp] theorem Tb.bo132 : isBool Tryz.prog 132 = false := by kernel_rfl
@[simp] theorem Tb.in132 : intT Tryz.prog 132 = none := by kernel_rfl
@[simp] theorem Tb.un132 : (Tryz.prog.underlying 132).isSome = true := by kernel_rfl
@[simp] theorem Tb.zr132 : zrT Tryz.prog 132 = [.string ⟨#[]⟩, .string ⟨#[]⟩, .string ⟨#[]⟩, .string ⟨#[]⟩] := by kernel_rfl
@[simp] theorem Tb.za132 : (Tryz.prog.info? 132).any (·.zero.isSome) = true := by kernel_rfl
@[simp] theorem Tb.zb132 : ((Tryz.prog.info? 132).bind (·.zero)).isSome = true := by kernel_rfl
@[simp] theorem Tb.el132 : elOK Tryz.prog 132 := elOK_of (by kernel_rfl)
@[simp] theorem Tb.bl132 : bldT Tryz.prog 132 = some ([.string ⟨#[]⟩, .string ⟨#[]⟩, .string ⟨#[]⟩, .string ⟨#[]⟩], [(0, 2), (2, 2)]) := by kernel_rfl
@[simp] theorem Tb.tk135 : tk Tryz.prog 135 = 2 := by kernel_rfl
@[simp] theorem Tb.sz135 : Program.cellsOf Tryz.prog 135 = 4 := by kernel_rfl
@[simp] theorem Tb.ff135_0 : foff Tryz.prog 135 0 = some (0, 102) := by kernel_rfl
@[simp] theorem Tb.ff135_1 : foff Tryz.prog 135 1 = some (2, 102) := by kernel_rfl
@[simp] theorem Tb.cm135 : cmpT Tryz.prog 135 = some [.string, .string, .string, .string] := by kernel_rfl
@[simp] theorem Tb.sl135 : slT Tryz.prog 135 = none := by kernel_rfl
@[simp] theorem Tb.st135 : isStr Tryz.prog 135 = false := by kernel_rfl
@[simp] theorem Tb.bo135 : isBool Tryz.prog 135 = false := by kernel_rfl
@[simp] theorem Tb.in135 : intT Tryz.prog 135 = none := by kernel_rfl
@[simp] theorem Tb.un135 : (Tryz.prog.underlying 135).isSome = true := by kernel_rfl
@[simp] theorem Tb.zr135 : zrT Tryz.prog 135 = [.string ⟨#[]⟩, .string ⟨#[]⟩, .string ⟨#[]⟩, .string ⟨#[]⟩] := by kernel_rfl
@[simp] theorem Tb.za135 : (Tryz.prog.info? 135).any (·.zero.isSome) = true := by kernel_rfl
@[simp] theorem Tb.zb135 : ((Tryz.prog.info? 135).bind (·.zero)).isSome = true := by kernel_rfl
@[simp] theorem Tb.el135 : elOK Tryz.prog 135 := elOK_of (by kernel_rfl)
@[simp] theorem Tb.bl135 : bldT Tryz.prog 135 = some ([.string ⟨#[]⟩, .string ⟨#[]⟩, .string ⟨#[]⟩, .string ⟨#[]⟩], [(0, 2), (2, 2)]) := by kernel_rfl
@[simp] theorem Tb.tk136 : tk Tryz.prog 136 = 2 := by kernel_rfl
@[simp] theorem Tb.sz136 : Program.cellsOf Tryz.prog 136 = 4 := by kernel_rfl
@[simp] theorem Tb.ff136_0 : foff Tryz.prog 136 0 = some (0, 102) := by kernel_rfl
@[simp] theorem Tb.ff136_1 : foff Tryz.prog 136 1 = some (2, 102) := by kernel_rfl
@[simp] theorem Tb.cm136 : cmpT Tryz.prog 136 = some [.string, .string, .string, .string] := by kernel_rfl
@[simp] theorem Tb.sl136 : slT Tryz.prog 136 = none := by kernel_rfl
@[simp] theorem Tb.st136 : isStr Tryz.prog 136 = false := by kernel_rfl
@[simp] theorem Tb.bo136 : isBool Tryz.prog 136 = false := by kernel_rfl
@[simp] theorem Tb.in136 : intT Tryz.prog 136 = none := by kernel_rfl
@[simp] theorem Tb.un136 : (Tryz.prog.underlying 136).isSome = true := by kernel_rfl
@[simp] theorem Tb.zr136 : zrT Tryz.prog 136 = [.string ⟨#[]⟩, .string ⟨#[]⟩, .string ⟨#[]⟩, .string ⟨#[]⟩] := by kernel_rfl
@[simp] theorem Tb.za136 : (Tryz.prog.info? 136).any (·.zero.isSome) = true := by kernel_rfl
@[simp] theorem Tb.zb136 : ((Tryz.prog.info? 136).bind (·.zero)).isSome = true := by kernel_rfl
@[simp] theorem Tb.el136 : elOK Tryz.prog 136 := elOK_of (by kernel_rfl)
@[simp] theorem Tb.bl136 : bldT Tryz.prog 136 = some ([.string ⟨#[]⟩, .string ⟨#[]⟩, .string ⟨#[]⟩, .string ⟨#[]⟩], [(0, 2), (2, 2)]) := by kernel_rfl
@[simp] theorem Tb.tk154 : tk Tryz.prog 154 = 1 := by kernel_rfl
@[simp] theorem Tb.sz154 : Program.cellsOf Tryz.prog 154 = 1 := by kernel_rfl
@[simp] theorem Tb.sl154 : slT Tryz.prog 154 = some 24 := by kernel_rfl
@[simp] theorem Tb.st154 : isStr Tryz.prog 154 = false := by kernel_rfl
@[simp] theorem Tb.bo154 : isBool Tryz.prog 154 = false := by kernel_rfl
@[simp] theorem Tb.in154 : intT Tryz.prog 154 = none := by kernel_rfl
@[simp] theorem Tb.un154 : (Tryz.prog.underlying 154).isSome = true := by kernel_rfl
@[simp] theorem Tb.zr154 : zrT Tryz.prog 154 = [.slice none 0 0] := by kernel_rfl
@[simp] theorem Tb.za154 : (Tryz.prog.info? 154).any (·.zero.isSome) = true := by kernel_rfl
@[simp] theorem Tb.zb154 : ((Tryz.prog.info? 154).bind (·.zero)).isSome = true := by kernel_rfl
@[simp] theorem Tb.el154 : elOK Tryz.prog 154 := elOK_of (by kernel_rfl)
@[simp] theorem Tb.tk155 : tk Tryz.prog 155 = 2 := by kernel_rfl
@[simp] theorem Tb.sz155 : Program.cellsOf Tryz.prog 155 = 5 := by kernel_rfl
@[simp] theorem Tb.sl155 : slT Tryz.prog 155 = none := by kernel_rfl
@[simp] theorem Tb.ar155 : arT Tryz.prog 155 = some (5, 22) := by kernel_rfl
@[simp] theorem Tb.st155 : isStr Tryz.prog 155 = false := by kernel_rfl
@[simp] theorem Tb.bo155 : isBool Tryz.prog 155 = false := by kernel_rfl
@[simp] theorem Tb.in155 : intT Tryz.prog 155 = none := by kernel_rfl
@[simp] theorem Tb.un155 : (Tryz.prog.underlying 155).isSome = true := by kernel_rfl
@[simp] theorem Tb.zr155 : zrT Tryz.prog 155 = [.slice none 0 0, .slice none 0 0, .slice none 0 0, .slice none 0 0, .slice none 0 0] := by kernel_rfl
@[simp] theorem Tb.za155 : (Tryz.prog.info? 155).any (·.zero.isSome) = true := by kernel_rfl
@[simp] theorem Tb.zb155 : ((Tryz.prog.info? 155).bind (·.zero)).isSome = true := by kernel_rfl
@[simp] theorem Tb.el155 : elOK Tryz.prog 155 := elOK_of (by kernel_rfl)
@[simp] theorem Tb.bl155 : bldT Tryz.prog 155 = some ([.slice none 0 0, .slice none 0 0, .slice none 0 0, .slice none 0 0, .slice none 0 0], [(0, 1), (1, 1), (2, 1), (3, 1), (4, 1)]) := by kernel_rfl
@[simp] theorem Tb.tk156 : tk Tryz.prog 156 = 1 := by kernel_rfl
@[simp] theorem Tb.sz156 : Program.cellsOf Tryz.prog 156 = 1 := by kernel_rfl
@[simp] theorem Tb.sl156 : slT Tryz.prog 156 = none := by kernel_rfl
@[simp] theorem Tb.st156 : isStr Tryz.prog 156 = false := by kernel_rfl
@[simp] theorem Tb.bo156 : isBool Tryz.prog 156 = false := by kernel_rfl
@[simp] theorem Tb.in156 : intT Tryz.prog 156 = none := by kernel_rfl
@[simp] theorem Tb.un156 : (Tryz.prog.underlying 156).isSome = true := by kernel_rfl
@[simp] theorem Tb.zr156 : zrT Tryz.prog 156 = [.nilFunc] := by kernel_rfl
@[simp] theorem Tb.za156 : (Tryz.prog.info? 156).any (·.zero.isSome) = true := by kernel_rfl
@[simp] theorem Tb.zb156 : ((Tryz.prog.info? 156).bind (·.zero)).isSome = true := by kernel_rfl
@[simp] theorem Tb.el156 : elOK Tryz.prog 156 := elOK_of (by kernel_rfl)
@[simp] theorem Tb.tk157 : tk Tryz.prog 157 = 1 := by kernel_rfl
@[simp] theorem Tb.sz157 : Program.cellsOf Tryz.prog 157 = 1 := by kernel_rfl
@[simp] theorem Tb.sl157 : slT Tryz.prog 157 = none := by kernel_rfl
@[simp] theorem Tb.st157 : isStr Tryz.prog 157 = false := by kernel_rfl
@[simp] theorem Tb.bo157 : isBool Tryz.prog 157 = false := by kernel_rfl
@[simp] theorem Tb.in157 : intT Tryz.prog 157 = none := by kernel_rfl
@[simp] theorem Tb.un157 : (Tryz.prog.underlying 157).isSome = true := by kernel_rfl
@[simp] theorem Tb.zr157 : zrT Tryz.prog 157 = [.nilFunc] := by kernel_rfl
@[simp] theorem Tb.za157 : (Tryz.prog.info? 157).any (·.zero.isSome) = true := by kernel_rfl
@[simp] theorem Tb.zb157 : ((Tryz.prog.info? 157).bind (·.zero)).isSome = true := by kernel_rfl
@[simp] theorem Tb.el157 : elOK Tryz.prog 157 := elOK_of (by kernel_rfl)
@[simp] theorem Tb.tk158 : tk Tryz.prog 158 = 2 := by kernel_rfl
@[simp] theorem Tb.sz158 : Program.cellsOf Tryz.prog 158 = 12 := by kernel_rfl
@[simp] theorem Tb.ff158_0 : foff Tryz.prog 158 0 = some (0, 9) := by kernel_rfl
@[simp] theorem Tb.ff158_1 : foff Tryz.prog 158 1 = some (1, 9) := by kernel_rfl
@[simp] theorem Tb.ff158_2 : foff Tryz.prog 158 2 = some (2, 155) := by kernel_rfl
@[simp] theorem Tb.ff158_3 : foff Tryz.prog 158 3 = some (7, 9) := by kernel_rfl
@[simp] theorem Tb.ff158_4 : foff Tryz.prog 158 4 = some (8, 9) := by kernel_rfl
@[simp] theorem Tb.ff158_5 : foff Tryz.prog 158 5 = some (9, 3) := by kernel_rfl
@[simp] theorem Tb.ff158_6 : foff Tryz.prog 158 6 = some (10, 156) := by kernel_rfl
@[simp] theorem Tb.ff158_7 : foff Tryz.prog 158 7 = some (11, 157) := by kernel_rfl
@[simp] theorem Tb.cm158 : cmpT Tryz.prog 158 = none := by kernel_rfl
@[simp] theorem Tb.sl158 : slT Tryz.prog 158 = none := by kernel_rfl
@[simp] theorem Tb.st158 : isStr Tryz.prog 158 = false := by kernel_rfl
@[simp] theorem Tb.bo158 : isBool Tryz.prog 158 = false := by kernel_rfl
@[simp] theorem Tb.in158 : intT Tryz.prog 158 = none := by kernel_rfl
@[simp] theorem Tb.un158 : (Tryz.prog.underlying 158).isSome = true := by kernel_rfl
@[simp] theorem Tb.zr158 : zrT Tryz.prog 158 = [.string ⟨#[]⟩, .string ⟨#[]⟩, .slice none 0 0, .slice none 0 0, .slice none 0 0, .slice none 0 0, .slice none 0 0, .string ⟨#[]⟩, .string ⟨#[]⟩, .int .i64 0, .nilFunc, .nilFunc] := by kernel_rfl
@[simp] theorem Tb.za158 : (Tryz.prog.info? 158).any (·.zero.isSome) = true := by kernel_rfl
@[simp] theorem Tb.zb158 : ((Tryz.prog.info? 158).bind (·.zero)).isSome = true := by kernel_rfl
@[simp] theorem Tb.el158 : elOK Tryz.prog 158 := elOK_of (by kernel_rfl)
@[simp] theorem Tb.bl158 : bldT Tryz.prog 158 = some ([.string ⟨#[]⟩, .string ⟨#[]⟩, .slice none 0 0, .slice none 0 0, .slice none 0 0, .slice none 0 0, .slice none 0 0, .string ⟨#[]⟩, .string ⟨#[]⟩, .int .i64 0, .nilFunc, .nilFunc], [(0, 1), (1, 1), (2, 5), (7, 1), (8, 1), (9, 1), (10, 1), (11, 1)]) := by kernel_rfl
@[simp] theorem Tb.tk159 : tk Tryz.prog 159 = 2 := by kernel_rfl
@[simp] theorem Tb.sz159 : Program.cellsOf Tryz.prog 159 = 12 := by kernel_rfl
@[simp] theorem Tb.ff159_0 : foff Tryz.prog 159 0 = some (0, 9) := by kernel_rfl
@[simp] theorem Tb.ff159_1 : foff Tryz.prog 159 1 = some (1, 9) := by kernel_rfl
@[simp] theorem Tb.ff159_2 : foff Tryz.prog 159 2 = some (2, 155) := by kernel_rfl
@[simp] theorem Tb.ff159_3 : foff Tryz.prog 159 3 = some (7, 9) := by kernel_rfl
@[simp] theorem Tb.ff159_4 : foff Tryz.prog 159 4 = some (8, 9) := by kernel_rfl
@[simp] theorem Tb.ff159_5 : foff Tryz.prog 159 5 = some (9, 3) := by kernel_rfl
@[simp] theorem Tb.ff159_6 : foff Tryz.prog 159 6 = some (10, 156) := by kernel_rfl
@[simp] theorem Tb.ff159_7 : foff Tryz.prog 159 7 = some (11, 157) := by kernel_rfl
@[simp] theorem Tb.cm159 : cmpT Tryz.prog 159 = none := by kernel_rfl
@[simp] theorem Tb.sl159 : slT Tryz.prog 159 = none := by kernel_rfl
@[simp] theorem Tb.st159 : isStr Tryz.prog 159 = false := by kernel_rfl
@[simp] theorem Tb.bo159 : isBool Tryz.prog 159 = false := by kernel_rfl
@[simp] theorem Tb.in159 : intT Tryz.prog 159 = none := by kernel_rfl
@[simp] theorem Tb.un159 : (Tryz.prog.underlying 159).isSome = true := by kernel_rfl
@[simp] theorem Tb.zr159 : zrT Tryz.prog 159 = [.string ⟨#[]⟩, .string ⟨#[]⟩, .slice none 0 0, .slice none 0 0, .slice none 0 0, .slice none 0 0, .slice none 0 0, .string ⟨#[]⟩, .string ⟨#[]⟩, .int .i64 0, .nilFunc, .nilFunc] := by kernel_rfl
@[simp] theorem Tb.za159 : (Tryz.prog.info? 159).any (·.zero.isSome) = true := by kernel_rfl
@[simp] theorem Tb.zb159 : ((Tryz.prog.info? 159).bind (·.zero)).isSome = true := by kernel_rfl
@[simp] theorem Tb.el159 : elOK Tryz.prog 159 := elOK_of (by kernel_rfl)
@[simp] theorem Tb.bl159 : bldT Tryz.prog 159 = some ([.string ⟨#[]⟩, .string ⟨#[]⟩, .slice none 0 0, .slice none 0 0, .slice none 0 0, .slice none 0 0, .slice none 0 0, .string ⟨#[]⟩, .string ⟨#[]⟩, .int .i64 0, .nilFunc, .nilFunc], [(0, 1), (1, 1), (2, 5), (7, 1), (8, 1), (9, 1), (10, 1), (11, 1)]) := by kernel_rfl
@[simp] theorem Tb.tk166 : tk Tryz.prog 166 = 1 := by kernel_rfl
@[simp] theorem Tb.sz166 : Program.cellsOf Tryz.prog 166 = 1 := by kernel_rfl
@[simp] theorem Tb.sl166 : slT Tryz.prog 166 = some 44 := by kernel_rfl
@[simp] theorem Tb.st166 : isStr Tryz.prog 166 = false := by kernel_rfl
@[simp] theorem Tb.bo166 : isBool Tryz.prog 166 = false := by kernel_rfl
@[simp] theorem Tb.in166 : intT Tryz.prog 166 = none := by kernel_rfl
@[simp] theorem Tb.un166 : (Tryz.prog.underlying 166).isSome = true := by kernel_rfl
@[simp] theorem Tb.zr166 : zrT Tryz.prog 166 = [.slice none 0 0] := by kernel_rfl
@[simp] theorem Tb.za166 : (Tryz.prog.info? 166).any (·.zero.isSome) = true := by kernel_rfl
@[simp] theorem Tb.zb166 : ((Tryz.prog.info? 166).bind (·.zero)).isSome = true := by kernel_rfl
@[simp] theorem Tb.el166 : elOK Tryz.prog 166 := elOK_of (by kernel_rfl)
@[simp] theorem Tb.tk170 : tk Tryz.prog 170 = 1 := by kernel_rfl
@[simp] theorem Tb.sz170 : Program.cellsOf Tryz.prog 170 = 1 := by kernel_rfl
@[simp] theorem Tb.sl170 : slT Tryz.prog 170 = none := by kernel_rfl
@[simp] theorem Tb.mp170 : mpT Tryz.prog 170 = some (.string, .int .i64 0) := by kernel_rfl
@[simp] theorem Tb.st170 : isStr Tryz.prog 170 = false := by kernel_rfl
@[simp] theorem Tb.bo170 : isBool Tryz.prog 170 = false := by kernel_rfl
@[simp] theorem Tb.in170 : intT Tryz.prog 170 = none := by kernel_rfl
@[simp] theorem Tb.un170 : (Tryz.prog.underlying 170).isSome = true := by kernel_rfl
@[simp] theorem Tb.zr170 : zrT Tryz.prog 170 = [.map none] := by kernel_rfl
@[simp] theorem Tb.za170 : (Tryz.prog.info? 170).any (·.zero.isSome) = true := by kernel_rfl
@[simp] theorem Tb.zb170 : ((Tryz.prog.info? 170).bind (·.zero)).isSome = true := by kernel_rfl
@[simp] theorem Tb.el170 : elOK Tryz.prog 170 := elOK_of (by kernel_rfl)
@[simp] theorem Tb.tk176 : tk Tryz.prog 176 = 1 := by kernel_rfl
@[simp] theorem Tb.sz176 : Program.cellsOf Tryz.prog 176 = 1 := by kernel_rfl
@[simp] theorem Tb.sl176 : slT Tryz.prog 176 = some 98 := by kernel_rfl
@[simp] theorem Tb.st176 : isStr Tryz.prog 176 = false := by kernel_rfl
@[simp] theorem Tb.bo176 : isBool Tryz.prog 176 = false := by kernel_rfl
@[simp] theorem Tb.in176 : intT Tryz.prog 176 = none := by kernel_rfl
@[simp] theorem Tb.un176 : (Tryz.prog.underlying 176).isSome = true := by kernel_rfl
@[simp] theorem Tb.zr176 : zrT Tryz.prog 176 = [.slice none 0 0] := by kernel_rfl
@[simp] theorem Tb.za176 : (Tryz.prog.info? 176).any (·.zero.isSome) = true := by kernel_rfl
@[simp] theorem Tb.zb176 : ((Tryz.prog.info? 176).bind (·.zero)).isSome = true := by kernel_rfl
@[simp] theorem Tb.el176 : elOK Tryz.prog 176 := elOK_of (by kernel_rfl)
@[simp] theorem Tb.tk177 : tk Tryz.prog 177 = 1 := by kernel_rfl
@[simp] theorem Tb.sz177 : Program.cellsOf Tryz.prog 177 = 1 := by kernel_rfl
@[simp] theorem Tb.sl177 : slT Tryz.prog 177 = none := by kernel_rfl
@[simp] theorem Tb.st177 : isStr Tryz.prog 177 = false := by kernel_rfl
@[simp] theorem Tb.bo177 : isBool Tryz.prog 177 = false := by kernel_rfl
@[simp] theorem Tb.in177 : intT Tryz.prog 177 = none := by kernel_rfl
@[simp] theorem Tb.un177 : (Tryz.prog.underlying 177).isSome = true := by kernel_rfl
@[simp] theorem Tb.zr177 : zrT Tryz.prog 177 = [.pointer none] := by kernel_rfl
@[simp] theorem Tb.za177 : (Tryz.prog.info? 177).any (·.zero.isSome) = true := by kernel_rfl
@[simp] theorem Tb.zb177 : ((Tryz.prog.info? 177).bind (·.zero)).isSome = true := by kernel_rfl
@[simp] theorem Tb.el177 : elOK Tryz.prog 177 := elOK_of (by kernel_rfl)
@[simp] theorem Tb.tk179 : tk Tryz.prog 179 = 2 := by kernel_rfl
@[simp] theorem Tb.sz179 : Program.cellsOf Tryz.prog 179 = 2 := by kernel_rfl
@[simp] theorem Tb.sl179 : slT Tryz.prog 179 = none := by kernel_rfl
@[simp] theorem Tb.ar179 : arT Tryz.prog 179 = some (2, 9) := by kernel_rfl
@[simp] theorem Tb.st179 : isStr Tryz.prog 179 = false := by kernel_rfl
@[simp] theorem Tb.bo179 : isBool Tryz.prog 179 = false := by kernel_rfl
@[simp] theorem Tb.in179 : intT Tryz.prog 179 = none := by kernel_rfl
@[simp] theorem Tb.un179 : (Tryz.prog.underlying 179).isSome = true := by kernel_rfl
@[simp] theorem Tb.zr179 : zrT Tryz.prog 179 = [.string ⟨#[]⟩, .string ⟨#[]⟩] := by kernel_rfl
@[simp] theorem Tb.za179 : (Tryz.prog.info? 179).any (·.zero.isSome) = true := by kernel_rfl
@[simp] theorem Tb.zb179 : ((Tryz.prog.info? 179).bind (·.zero)).isSome = true := by kernel_rfl
@[simp] theorem Tb.el179 : elOK Tryz.prog 179 := elOK_of (by kernel_rfl)
@[simp] theorem Tb.bl179 : bldT Tryz.prog 179 = some ([.string ⟨#[]⟩, .string ⟨#[]⟩], [(0, 1), (1, 1)]) := by kernel_rfl
@[simp] theorem Tb.tk182 : tk Tryz.prog 182 = 1 := by kernel_rfl
@[simp] theorem Tb.sz182 : Program.cellsOf Tryz.prog 182 = 1 := by kernel_rfl
@[simp] theorem Tb.sl182 : slT Tryz.prog 182 = none := by kernel_rfl
@[simp] theorem Tb.st182 : isStr Tryz.prog 182 = false := by kernel_rfl
@[simp] theorem Tb.bo182 : isBool Tryz.prog 182 = false := by kernel_rfl
@[simp] theorem Tb.in182 : intT Tryz.prog 182 = some .u64 := by kernel_rfl
@[simp] theorem Tb.un182 : (Tryz.prog.underlying 182).isSome = true := by kernel_rfl
@[simp] theorem Tb.zr182 : zrT Tryz.prog 182 = [.int .u64 0] := by kernel_rfl
@[simp] theorem Tb.za182 : (Tryz.prog.info? 182).any (·.zero.isSome) = true := by kernel_rfl
@[simp] theorem Tb.zb182 : ((Tryz.prog.info? 182).bind (·.zero)).isSome = true := by kernel_rfl
@[simp] theorem Tb.el182 : elOK Tryz.prog 182 := elOK_of (by kernel_rfl)
@[simp] theorem Tb.tk190 : tk Tryz.prog 190 = 2 := by kernel_rfl
@[simp] theorem Tb.sz190 : Program.cellsOf Tryz.prog 190 = 168 := by kernel_rfl
@[simp] theorem Tb.sl190 : slT Tryz.prog 190 = none := by kernel_rfl
@[simp] theorem Tb.ar190 : arT Tryz.prog 190 = some (14, 159) := by kernel_rfl
@[simp] theorem Tb.st190 : isStr Tryz.prog 190 = false := by kernel_rfl
@[simp] theorem Tb.bo190 : isBool Tryz.prog 190 = false := by kernel_rfl
@[simp] theorem Tb.in190 : intT Tryz.prog 190 = none := by kernel_rfl
@[simp] theorem Tb.un190 : (Tryz.prog.underlying 190).isSome = true := by kernel_rfl
@[simp] theorem Tb.zr190 : zrT Tryz.prog 190 = [.string ⟨#[]⟩, .string ⟨#[]⟩, .slice none 0 0, .slice none 0 0, .slice none 0 0, .slice none 0 0, .slice none 0 0, .string ⟨#[]⟩, .string ⟨#[]⟩, .int .i64 0, .nilFunc, .nilFunc, .string ⟨#[]⟩, .string ⟨#[]⟩, .slice none 0 0, .slice none 0 0, .slice none 0 0, .slice none 0 0, .slice none 0 0, .string ⟨#[]⟩, .string ⟨#[]⟩, .int .i64 0, .nilFunc, .nilFunc, .string ⟨#[]⟩, .string ⟨#[]⟩, .slice none 0 0, .slice none 0 0, .slice none 0 0, .slice none 0 0, .slice none 0 0, .string ⟨#[]⟩, .string ⟨#[]⟩, .int .i64 0, .nilFunc, .nilFunc, .string ⟨#[]⟩, .string ⟨#[]⟩, .slice none 0 0, .slice none 0 0, .slice none 0 0, .slice none 0 0, .slice none 0 0, .string ⟨#[]⟩, .string ⟨#[]⟩, .int .i64 0, .nilFunc, .nilFunc, .string ⟨#[]⟩, .string ⟨#[]⟩, .slice none 0 0, .slice none 0 0, .slice none 0 0, .slice none 0 0, .slice none 0 0, .string ⟨#[]⟩, .string ⟨#[]⟩, .int .i64 0, .nilFunc, .nilFunc, .string ⟨#[]⟩, .string ⟨#[]⟩, .slice none 0 0, .slice none 0 0, .slice none 0 0, .slice none 0 0, .slice none 0 0, .string ⟨#[]⟩, .string ⟨#[]⟩, .int .i64 0, .nilFunc, .nilFunc, .string ⟨#[]⟩, .string ⟨#[]⟩, .slice none 0 0, .slice none 0 0, .slice none 0 0, .slice none 0 0, .slice none 0 0, .string ⟨#[]⟩, .string ⟨#[]⟩, .int .i64 0, .nilFunc, .nilFunc, .string ⟨#[]⟩, .string ⟨#[]⟩, .slice none 0 0, .slice none 0 0, .slice none 0 0, .slice none 0 0, .slice none 0 0, .string ⟨#[]⟩, .string ⟨#[]⟩, .int .i64 0, .nilFunc, .nilFunc, .string ⟨#[]⟩, .string ⟨#[]⟩, .slice none 0 0, .slice none 0 0, .slice none 0 0, .slice none 0 0, .slice none 0 0, .string ⟨#[]⟩, .string ⟨#[]⟩, .int .i64 0, .nilFunc, .nilFunc, .string ⟨#[]⟩, .string ⟨#[]⟩, .slice none 0 0, .slice none 0 0, .slice none 0 0, .slice none 0 0, .slice none 0 0, .string ⟨#[]⟩, .string ⟨#[]⟩, .int .i64 0, .nilFunc, .nilFunc, .string ⟨#[]⟩, .string ⟨#[]⟩, .slice none 0 0, .slice none 0 0, .slice none 0 0, .slice none 0 0, .slice none 0 0, .string ⟨#[]⟩, .string ⟨#[]⟩, .int .i64 0, .nilFunc, .nilFunc, .string ⟨#[]⟩, .string ⟨#[]⟩, .slice none 0 0, .slice none 0 0, .slice none 0 0, .slice none 0 0, .slice none 0 0, .string ⟨#[]⟩, .string ⟨#[]⟩, .int .i64 0, .nilFunc, .nilFunc, .string ⟨#[]⟩, .string ⟨#[]⟩, .slice none 0 0, .slice none 0 0, .slice none 0 0, .slice none 0 0, .slice none 0 0, .string ⟨#[]⟩, .string ⟨#[]⟩, .int .i64 0, .nilFunc, .nilFunc, .string ⟨#[]⟩, .string ⟨#[]⟩, .slice none 0 0, .slice none 0 0, .slice none 0 0, .slice none 0 0, .slice none 0 0, .string ⟨#[]⟩, .string ⟨#[]⟩, .int .i64 0, .nilFunc, .nilFunc] := by kernel_rfl
@[simp] theorem Tb.za190 : (Tryz.prog.info? 190).any (·.zero.isSome) = true := by kernel_rfl
@[simp] theorem Tb.zb190 : ((Tryz.prog.info? 190).bind (·.zero)).isSome = true := by kernel_rfl
@[simp] theorem Tb.el190 : elOK Tryz.prog 190 := elOK_of (by kernel_rfl)
@[simp] theorem Tb.bl190 : bldT Tryz.prog 190 = some ([.string ⟨#[]⟩, .string ⟨#[]⟩, .slice none 0 0, .slice none 0 0, .slice none 0 0, .slice none 0 0, .slice none 0 0, .string ⟨#[]⟩, .string ⟨#[]⟩, .int .i64 0, .nilFunc, .nilFunc, .string ⟨#[]⟩, .string ⟨#[]⟩, .slice none 0 0, .slice none 0 0, .slice none 0 0, .slice none 0 0, .slice none 0 0, .string ⟨#[]⟩, .string ⟨#[]⟩, .int .i64 0, .nilFunc, .nilFunc, .string ⟨#[]⟩, .string ⟨#[]⟩, .slice none 0 0, .slice none 0 0, .slice none 0 0, .slice none 0 0, .slice none 0 0, .string ⟨#[]⟩, .string ⟨#[]⟩, .int .i64 0, .nilFunc, .nilFunc, .string ⟨#[]⟩, .string ⟨#[]⟩, .slice none 0 0, .slice none 0 0, .slice none 0 0, .slice none 0 0, .slice none 0 0, .string ⟨#[]⟩, .string ⟨#[]⟩, .int .i64 0, .nilFunc, .nilFunc, .string ⟨#[]⟩, .string ⟨#[]⟩, .slice none 0 0, .slice none 0 0, .slice none 0 0, .slice none 0 0, .slice none 0 0, .string ⟨#[]⟩, .string ⟨#[]⟩, .int .i64 0, .nilFunc, .nilFunc, .string ⟨#[]⟩, .string ⟨#[]⟩, .slice none 0 0, .slice none 0 0, .slice none 0 0, .slice none 0 0, .slice none 0 0, .string ⟨#[]⟩, .string ⟨#[]⟩, .int .i64 0, .nilFunc, .nilFunc, .string ⟨#[]⟩, .string ⟨#[]⟩, .slice none 0 0, .slice none 0 0, .slice none 0 0, .slice none 0 0, .slice none 0 0, .string ⟨#[]⟩, .string ⟨#[]⟩, .int .i64 0, .nilFunc, .nilFunc, .string ⟨#[]⟩, .string ⟨#[]⟩, .slice none 0 0, .slice none 0 0, .slice none 0 0, .slice none 0 0, .slice none 0 0, .string ⟨#[]⟩, .string ⟨#[]⟩, .int .i64 0, .nilFunc, .nilFunc, .string ⟨#[]⟩, .string ⟨#[]⟩, .slice none 0 0, .slice none 0 0, .slice none 0 0, .slice none 0 0, .slice none 0 0, .string ⟨#[]⟩, .string ⟨#[]⟩, .int .i64 0, .nilFunc, .nilFunc, .string ⟨#[]⟩, .string ⟨#[]⟩, .slice none 0 0, .slice none 0 0, .slice none 0 0, .slice none 0 0, .slice none 0 0, .string ⟨#[]⟩, .string ⟨#[]⟩, .int .i64 0, .nilFunc, .nilFunc, .string ⟨#[]⟩, .string ⟨#[]⟩, .slice none 0 0, .slice none 0 0, .slice none 0 0, .slice none 0 0, .slice none 0 0, .string ⟨#[]⟩, .string ⟨#[]⟩, .int .i64 0, .nilFunc, .nilFunc, .string ⟨#[]⟩, .string ⟨#[]⟩, .slice none 0 0, .slice none 0 0, .slice none 0 0, .slice none 0 0, .slice none 0 0, .string ⟨#[]⟩, .string ⟨#[]⟩, .int .i64 0, .nilFunc, .nilFunc, .string ⟨#[]⟩, .string ⟨#[]⟩, .slice none 0 0, .slice none 0 0, .slice none 0 0, .slice none 0 0, .slice none 0 0, .string ⟨#[]⟩, .string ⟨#[]⟩, .int .i64 0, .nilFunc, .nilFunc, .string ⟨#[]⟩, .string ⟨#[]⟩, .slice none 0 0, .slice none 0 0, .slice none 0 0, .slice none 0 0, .slice none 0 0, .string ⟨#[]⟩, .string ⟨#[]⟩, .int .i64 0, .nilFunc, .nilFunc], [(0, 12), (12, 12), (24, 12), (36, 12), (48, 12), (60, 12), (72, 12), (84, 12), (96, 12), (108, 12), (120, 12), (132, 12), (144, 12), (156, 12)]) := by kernel_rfl
@[simp] theorem Tb.tk200 : tk Tryz.prog 200 = 1 := by kernel_rfl
@[simp] theorem Tb.sz200 : Program.cellsOf Tryz.prog 200 = 1 := by kernel_rfl
@[simp] theorem Tb.sl200 : slT Tryz.prog 200 = none := by kernel_rfl
@[simp] theorem Tb.st200 : isStr Tryz.prog 200 = false := by kernel_rfl
@[simp] theorem Tb.bo200 : isBool Tryz.prog 200 = false := by kernel_rfl
@[simp] theorem Tb.in200 : intT Tryz.prog 200 = none := by kernel_rfl
@[simp] theorem Tb.un200 : (Tryz.prog.underlying 200).isSome = true := by kernel_rfl
@[simp] theorem Tb.zr200 : zrT Tryz.prog 200 = [.nilFunc] := by kernel_rfl
@[simp] theorem Tb.za200 : (Tryz.prog.info? 200).any (·.zero.isSome) = true := by kernel_rfl
@[simp] theorem Tb.zb200 : ((Tryz.prog.info? 200).bind (·.zero)).isSome = true := by kernel_rfl
@[simp] theorem Tb.el200 : elOK Tryz.prog 200 := elOK_of (by kernel_rfl)
@[simp] theorem Tb.tk201 : tk Tryz.prog 201 = 1 := by kernel_rfl
@[simp] theorem Tb.sz201 : Program.cellsOf Tryz.prog 201 = 1 := by kernel_rfl
@[simp] theorem Tb.sl201 : slT Tryz.prog 201 = none := by kernel_rfl
@[simp] theorem Tb.st201 : isStr Tryz.prog 201 = false := by kernel_rfl
@[simp] theorem Tb.bo201 : isBool Tryz.prog 201 = false := by kernel_rfl
@[simp] theorem Tb.in201 : intT Tryz.prog 201 = none := by kernel_rfl
@[simp] theorem Tb.un201 : (Tryz.prog.underlying 201).isSome = true := by kernel_rfl
@[simp] theorem Tb.zr201 : zrT Tryz.prog 201 = [.nilFunc] := by kernel_rfl
@[simp] theorem Tb.za201 : (Tryz.prog.info? 201).any (·.zero.isSome) = true := by kernel_rfl
@[simp] theorem Tb.zb201 : ((Tryz.prog.info? 201).bind (·.zero)).isSome = true := by kernel_rfl
@[simp] theorem Tb.el201 : elOK Tryz.prog 201 := elOK_of (by kernel_rfl)
@[simp] theorem Tb.tk204 : tk Tryz.prog 204 = 1 := by kernel_rfl
@[simp] theorem Tb.sz204 : Program.cellsOf Tryz.prog 204 = 1 := by kernel_rfl
@[simp] theorem Tb.sl204 : slT Tryz.prog 204 = none := by kernel_rfl
@[simp] theorem Tb.st204 : isStr Tryz.prog 204 = false := by kernel_rfl
@[simp] theorem Tb.bo204 : isBool Tryz.prog 204 = false := by kernel_rfl
@[simp] theorem Tb.in204 : intT Tryz.prog 204 = none := by kernel_rfl
@[simp] theorem Tb.un204 : (Tryz.prog.underlying 204).isSome = true := by kernel_rfl
@[simp] theorem Tb.zr204 : zrT Tryz.prog 204 = [.pointer none] := by kernel_rfl
@[simp] theorem Tb.za204 : (Tryz.prog.info? 204).any (·.zero.isSome) = true := by kernel_rfl
@[simp] theorem Tb.zb204 : ((Tryz.prog.info? 204).bind (·.zero)).isSome = true := by kernel_rfl
@[simp] theorem Tb.el204 : elOK Tryz.prog 204 := elOK_of (by kernel_rfl)
@[simp] theorem Tb.tk205 : tk Tryz.prog 205 = 1 := by kernel_rfl
@[simp] theorem Tb.sz205 : Program.cellsOf Tryz.prog 205 = 1 := by kernel_rfl
@[simp] theorem Tb.sl205 : slT Tryz.prog 205 = none := by kernel_rfl
@[simp] theorem Tb.st205 : isStr Tryz.prog 205 = false := by kernel_rfl
@[simp] theorem Tb.bo205 : isBool Tryz.prog 205 = false := by kernel_rfl
@[simp] theorem Tb.in205 : intT Tryz.prog 205 = none := by kernel_rfl
@[simp] theorem Tb.un205 : (Tryz.prog.underlying 205).isSome = true := by kernel_rfl
@[simp] theorem Tb.zr205 : zrT Tryz.prog 205 = [.nilFunc] := by kernel_rfl
@[simp] theorem Tb.za205 : (Tryz.prog.info? 205).any (·.zero.isSome) = true := by kernel_rfl
@[simp] theorem Tb.zb205 : ((Tryz.prog.info? 205).bind (·.zero)).isSome = true := by kernel_rfl
@[simp] theorem Tb.el205 : elOK Tryz.prog 205 := elOK_of (by kernel_rfl)
@[simp] theorem Tb.tk206 : tk Tryz.prog 206 = 2 := by kernel_rfl
@[simp] theorem Tb.sz206 : Program.cellsOf Tryz.prog 206 = 3 := by kernel_rfl
@[simp] theorem Tb.sl206 : slT Tryz.prog 206 = none := by kernel_rfl
@[simp] theorem Tb.ar206 : arT Tryz.prog 206 = some (3, 205) := by kernel_rfl
@[simp] theorem Tb.st206 : isStr Tryz.prog 206 = false := by kernel_rfl
@[simp] theorem Tb.bo206 : isBool Tryz.prog 206 = false := by kernel_rfl
@[simp] theorem Tb.in206 : intT Tryz.prog 206 = none := by kernel_rfl
@[simp] theorem Tb.un206 : (Tryz.prog.underlying 206).isSome = true := by kernel_rfl
@[simp] theorem Tb.zr206 : zrT Tryz.prog 206 = [.nilFunc, .nilFunc, .nilFunc] := by kernel_rfl
@[simp] theorem Tb.za206 : (Tryz.prog.info? 206).any (·.zero.isSome) = true := by kernel_rfl
@[simp] theorem Tb.zb206 : ((Tryz.prog.info? 206).bind (·.zero)).isSome = true := by kernel_rfl
@[simp] theorem Tb.el206 : elOK Tryz.prog 206 := elOK_of (by kernel_rfl)
@[simp] theorem Tb.bl206 : bldT Tryz.prog 206 = some ([.nilFunc, .nilFunc, .nilFunc], [(0, 1), (1, 1), (2, 1)]) := by kernel_rfl
@[simp] theorem Tb.tk207 : tk Tryz.prog 207 = 2 := by kernel_rfl
@[simp] theorem Tb.sz207 : Program.cellsOf Tryz.prog 207 = 9 := by kernel_rfl
@[simp] theorem Tb.ff207_0 : foff Tryz.prog 207 0 = some (0, 26) := by kernel_rfl
@[simp] theorem Tb.ff207_1 : foff Tryz.prog 207 1 = some (5, 170) := by kernel_rfl
@[simp] theorem Tb.ff207_2 : foff Tryz.prog 207 2 = some (6, 206) := by kernel_rfl
@[simp] theorem Tb.cm207 : cmpT Tryz.prog 207 = none := by kernel_rfl
@[simp] theorem Tb.sl207 : slT Tryz.prog 207 = none := by kernel_rfl
@[simp] theorem Tb.st207 : isStr Tryz.prog 207 = false := by kernel_rfl
@[simp] theorem Tb.bo207 : isBool Tryz.prog 207 = false := by kernel_rfl
@[simp] theorem Tb.in207 : intT Tryz.prog 207 = none := by kernel_rfl
@[simp] theorem Tb.un207 : (Tryz.prog.underlying 207).isSome = true := by kernel_rfl
@[simp] theorem Tb.zr207 : zrT Tryz.prog 207 = [.int .i64 0, .slice none 0 0, .slice none 0 0, .slice none 0 0, .slice none 0 0, .map none, .nilFunc, .nilFunc, .nilFunc] := by kernel_rfl
@[simp] theorem Tb.za207 : (Tryz.prog.info? 207).any (·.zero.isSome) = true := by kernel_rfl
@[simp] theorem Tb.zb207 : ((Tryz.prog.info? 207).bind (·.zero)).isSome = true := by kernel_rfl
@[simp] theorem Tb.el207 : elOK Tryz.prog 207 := elOK_of (by kernel_rfl)
@[simp] theorem Tb.bl207 : bldT Tryz.prog 207 = some ([.int .i64 0, .slice none 0 0, .slice none 0 0, .slice none 0 0, .slice none 0 0, .map none, .nilFunc, .nilFunc, .nilFunc], [(0, 5), (5, 1), (6, 3)]) := by kernel_rfl
@[simp] theorem Tb.tk208 : tk Tryz.prog 208 = 2 := by kernel_rfl
@[simp] theorem Tb.sz208 : Program.cellsOf Tryz.prog 208 = 9 := by kernel_rfl
@[simp] theorem Tb.ff208_0 : foff Tryz.prog 208 0 = some (0, 26) := by kernel_rfl
@[simp] theorem Tb.ff208_1 : foff Tryz.prog 208 1 = some (5, 170) := by kernel_rfl
@[simp] theorem Tb.ff208_2 : foff Tryz.prog 208 2 = some (6, 206) := by kernel_rfl
@[simp] theorem Tb.cm208 : cmpT Tryz.prog 208 = none := by kernel_rfl
@[simp] theorem Tb.sl208 : slT Tryz.prog 208 = none := by kernel_rfl
@[simp] theorem Tb.st208 : isStr Tryz.prog 208 = false := by kernel_rfl
@[simp] theorem Tb.bo208 : isBool Tryz.prog 208 = false := by kernel_rfl
@[simp] theorem Tb.in208 : intT Tryz.prog 208 = none := by kernel_rfl
@[simp] theorem Tb.un208 : (Tryz.prog.underlying 208).isSome = true := by kernel_rfl
@[simp] theorem Tb.zr208 : zrT Tryz.prog 208 = [.int .i64 0, .slice none 0 0, .slice none 0 0, .slice none 0 0, .slice none 0 0, .map none, .nilFunc, .nilFunc, .nilFunc] := by kernel_rfl
@[simp] theorem Tb.za208 : (Tryz.prog.info? 208).any (·.zero.isSome) = true := by kernel_rfl
@[simp] theorem Tb.zb208 : ((Tryz.prog.info? 208).bind (·.zero)).isSome = true := by kernel_rfl
@[simp] theorem Tb.el208 : elOK Tryz.prog 208 := elOK_of (by kernel_rfl)
@[simp] theorem Tb.bl208 : bldT Tryz.prog 208 = some ([.int .i64 0, .slice none 0 0, .slice none 0 0, .slice none 0 0, .slice none 0 0, .map none, .nilFunc, .nilFunc, .nilFunc], [(0, 5), (5, 1), (6, 3)]) := by kernel_rfl
@[simp] theorem Tb.tk212 : tk Tryz.prog 212 = 1 := by kernel_rfl
@[simp] theorem Tb.sz212 : Program.cellsOf Tryz.prog 212 = 1 := by kernel_rfl
@[simp] theorem Tb.sl212 : slT Tryz.prog 212 = none := by kernel_rfl
@[simp] theorem Tb.st212 : isStr Tryz.prog 212 = false := by kernel_rfl
@[simp] theorem Tb.bo212 : isBool Tryz.prog 212 = false := by kernel_rfl
@[simp] theorem Tb.in212 : intT Tryz.prog 212 = some .i64 := by kernel_rfl
@[simp] theorem Tb.un212 : (Tryz.prog.underlying 212).isSome = true := by kernel_rfl
@[simp] theorem Tb.zr212 : zrT Tryz.prog 212 = [.int .i64 0] := by kernel_rfl
@[simp] theorem Tb.za212 : (Tryz.prog.info? 212).any (·.zero.isSome) = true := by kernel_rfl
@[simp] theorem Tb.zb212 : ((Tryz.prog.info? 212).bind (·.zero)).isSome = true := by kernel_rfl
@[simp] theorem Tb.el212 : elOK Tryz.prog 212 := elOK_of (by kernel_rfl)
@[simp] theorem Tb.tk219 : tk Tryz.prog 219 = 1 := by kernel_rfl
@[simp] theorem Tb.sz219 : Program.cellsOf Tryz.prog 219 = 1 := by kernel_rfl
@[simp] theorem Tb.sl219 : slT Tryz.prog 219 = none := by kernel_rfl
@[simp] theorem Tb.st219 : isStr Tryz.prog 219 = false := by kernel_rfl
@[simp] theorem Tb.bo219 : isBool Tryz.prog 219 = false := by kernel_rfl
@[simp] theorem Tb.in219 : intT Tryz.prog 219 = some .u32 := by kernel_rfl
@[simp] theorem Tb.un219 : (Tryz.prog.underlying 219).isSome = true := by kernel_rfl
@[simp] theorem Tb.zr219 : zrT Tryz.prog 219 = [.int .u32 0] := by kernel_rfl
@[simp] theorem Tb.za219 : (Tryz.prog.info? 219).any (·.zero.isSome) = true := by kernel_rfl
@[simp] theorem Tb.zb219 : ((Tryz.prog.info? 219).bind (·.zero)).isSome = true := by kernel_rfl
@[simp] theorem Tb.el219 : elOK Tryz.prog 219 := elOK_of (by kernel_rfl)
@[simp] theorem Tb.tk221 : tk Tryz.prog 221 = 1 := by kernel_rfl
@[simp] theorem Tb.sz221 : Program.cellsOf Tryz.prog 221 = 1 := by kernel_rfl
@[simp] theorem Tb.sl221 : slT Tryz.prog 221 = none := by kernel_rfl
@[simp] theorem Tb.st221 : isStr Tryz.prog 221 = false := by kernel_rfl
@[simp] theorem Tb.bo221 : isBool Tryz.prog 221 = false := by kernel_rfl
@[simp] theorem Tb.in221 : intT Tryz.prog 221 = some .u64 := by kernel_rfl
@[simp] theorem Tb.un221 : (Tryz.prog.underlying 221).isSome = true := by kernel_rfl
@[simp] theorem Tb.zr221 : zrT Tryz.prog 221 = [.int .u64 0] := by kernel_rfl
@[simp] theorem Tb.za221 : (Tryz.prog.info? 221).any (·.zero.isSome) = true := by kernel_rfl
@[simp] theorem Tb.zb221 : ((Tryz.prog.info? 221).bind (·.zero)).isSome = true := by kernel_rfl
@[simp] theorem Tb.el221 : elOK Tryz.prog 221 := elOK_of (by kernel_rfl)
@[simp] theorem Tb.tk231 : tk Tryz.prog 231 = 1 := by kernel_rfl
@[simp] theorem Tb.sz231 : Program.cellsOf Tryz.prog 231 = 1 := by kernel_rfl
@[simp] theorem Tb.sl231 : slT Tryz.prog 231 = none := by kernel_rfl
@[simp] theorem Tb.st231 : isStr Tryz.prog 231 = false := by kernel_rfl
@[simp] theorem Tb.bo231 : isBool Tryz.prog 231 = false := by kernel_rfl
@[simp] theorem Tb.in231 : intT Tryz.prog 231 = none := by kernel_rfl
@[simp] theorem Tb.un231 : (Tryz.prog.underlying 231).isSome = true := by kernel_rfl
@[simp] theorem Tb.zr231 : zrT Tryz.prog 231 = [.nilFunc] := by kernel_rfl
@[simp] theorem Tb.za231 : (Tryz.prog.info? 231).any (·.zero.isSome) = true := by kernel_rfl
@[simp] theorem Tb.zb231 : ((Tryz.prog.info? 231).bind (·.zero)).isSome = true := by kernel_rfl
@[simp] theorem Tb.el231 : elOK Tryz.prog 231 := elOK_of (by kernel_rfl)
@[simp] theorem Tb.tk232 : tk Tryz.prog 232 = 1 := by kernel_rfl
@[simp] theorem Tb.sz232 : Program.cellsOf Tryz.prog 232 = 1 := by kernel_rfl
@[simp] theorem Tb.sl232 : slT Tryz.prog 232 = none := by kernel_rfl
@[simp] theorem Tb.st232 : isStr Tryz.prog 232 = false := by kernel_rfl
@[simp] theorem Tb.bo232 : isBool Tryz.prog 232 = false := by kernel_rfl
@[simp] theorem Tb.in232 : intT Tryz.prog 232 = none := by kernel_rfl
@[simp] theorem Tb.un232 : (Tryz.prog.underlying 232).isSome = true := by kernel_rfl
@[simp] theorem Tb.zr232 : zrT Tryz.prog 232 = [.nilFunc] := by kernel_rfl
@[simp] theorem Tb.za232 : (Tryz.prog.info? 232).any (·.zero.isSome) = true := by kernel_rfl
@[simp] theorem Tb.zb232 : ((Tryz.prog.info? 232).bind (·.zero)).isSome = true := by kernel_rfl
@[simp] theorem Tb.el232 : elOK Tryz.prog 232 := elOK_of (by kernel_rfl)
@[simp] theorem Tb.tk234 : tk Tryz.prog 234 = 1 := by kernel_rfl
@[simp] theorem Tb.sz234 : Program.cellsOf Tryz.prog 234 = 1 := by kernel_rfl
@[simp] theorem Tb.sl234 : slT Tryz.prog 234 = none := by kernel_rfl
@[simp] theorem Tb.st234 : isStr Tryz.prog 234 = false := by kernel_rfl
@[simp] theorem Tb.bo234 : isBool Tryz.prog 234 = false := by kernel_rfl
@[simp] theorem Tb.in234 : intT Tryz.prog 234 = none := by kernel_rfl
@[simp] theorem Tb.un234 : (Tryz.prog.underlying 234).isSome = true := by kernel_rfl
@[simp] theorem Tb.zr234 : zrT Tryz.prog 234 = [.nilFunc] := by kernel_rfl
@[simp] theorem Tb.za234 : (Tryz.prog.info? 234).any (·.zero.isSome) = true := by kernel_rfl
@[simp] theorem Tb.zb234 : ((Tryz.prog.info? 234).bind (·.zero)).isSome = true := by kernel_rfl
@[simp] theorem Tb.el234 : elOK Tryz.prog 234 := elOK_of (by kernel_rfl)
@[simp] theorem Tb.tk235 : tk Tryz.prog 235 = 2 := by kernel_rfl
@[simp] theorem Tb.sz235 : Program.cellsOf Tryz.prog 235 = 3 := by kernel_rfl
@[simp] theorem Tb.ff235_0 : foff Tryz.prog 235 0 = some (0, 3) := by kernel_rfl
@[simp] theorem Tb.ff235_1 : foff Tryz.prog 235 1 = some (1, 3) := by kernel_rfl
@[simp] theorem Tb.ff235_2 : foff Tryz.prog 235 2 = some (2, 234) := by kernel_rfl
@[simp] theorem Tb.cm235 : cmpT Tryz.prog 235 = none := by kernel_rfl
@[simp] theorem Tb.sl235 : slT Tryz.prog 235 = none := by kernel_rfl
@[simp] theorem Tb.st235 : isStr Tryz.prog 235 = false := by kernel_rfl
@[simp] theorem Tb.bo235 : isBool Tryz.prog 235 = false := by kernel_rfl
@[simp] theorem Tb.in235 : intT Tryz.prog 235 = none := by kernel_rfl
@[simp] theorem Tb.un235 : (Tryz.prog.underlying 235).isSome = true := by kernel_rfl
@[simp] theorem Tb.zr235 : zrT Tryz.prog 235 = [.int .i64 0, .int .i64 0, .nilFunc] := by kernel_rfl
@[simp] theorem Tb.za235 : (Tryz.prog.info? 235).any (·.zero.isSome) = true := by kernel_rfl
@[simp] theorem Tb.zb235 : ((Tryz.prog.info? 235).bind (·.zero)).isSome = true := by kernel_rfl
@[simp] theorem Tb.el235 : elOK Tryz.prog 235 := elOK_of (by kernel_rfl)
@[simp] theorem Tb.bl235 : bldT Tryz.prog 235 = some ([.int .i64 0, .int .i64 0, .nilFunc], [(0, 1), (1, 1), (2, 1)]) := by kernel_rfl
@[simp] theorem Tb.tk236 : tk Tryz.prog 236 = 2 := by kernel_rfl
@[simp] theorem Tb.sz236 : Program.cellsOf Tryz.prog 236 = 3 := by kernel_rfl
@[simp] theorem Tb.ff236_0 : foff Tryz.prog 236 0 = some (0, 3) := by kernel_rfl
@[simp] theorem Tb.ff236_1 : foff Tryz.prog 236 1 = some (1, 3) := by kernel_rfl
@[simp] theorem Tb.ff236_2 : foff Tryz.prog 236 2 = some (2, 234) := by kernel_rfl
@[simp] theorem Tb.cm236 : cmpT Tryz.prog 236 = none := by kernel_rfl
@[simp] theorem Tb.sl236 : slT Tryz.prog 236 = none := by kernel_rfl
@[simp] theorem Tb.st236 : isStr Tryz.prog 236 = false := by kernel_rfl
@[simp] theorem Tb.bo236 : isBool Tryz.prog 236 = false := by kernel_rfl
@[simp] theorem Tb.in236 : intT Tryz.prog 236 = none := by kernel_rfl
@[simp] theorem Tb.un236 : (Tryz.prog.underlying 236).isSome = true := by kernel_rfl
@[simp] theorem Tb.zr236 : zrT Tryz.prog 236 = [.int .i64 0, .int .i64 0, .nilFunc] := by kernel_rfl
@[simp] theorem Tb.za236 : (Tryz.prog.info? 236).any (·.zero.isSome) = true := by kernel_rfl
@[simp] theorem Tb.zb236 : ((Tryz.prog.info? 236).bind (·.zero)).isSome = true := by kernel_rfl
@[simp] theorem Tb.el236 : elOK Tryz.prog 236 := elOK_of (by kernel_rfl)
@[simp] theorem Tb.bl236 : bldT Tryz.prog 236 = some ([.int .i64 0, .int .i64 0, .nilFunc], [(0, 1), (1, 1), (2, 1)]) := by kernel_rfl
@[simp] theorem Tb.tk237 : tk Tryz.prog 237 = 2 := by kernel_rfl
@[simp] theorem Tb.sz237 : Program.cellsOf Tryz.prog 237 = 15 := by kernel_rfl
@[simp] theorem Tb.sl237 : slT Tryz.prog 237 = none := by kernel_rfl
@[simp] theorem Tb.ar237 : arT Tryz.prog 237 = some (5, 236) := by kernel_rfl
@[simp] theorem Tb.st237 : isStr Tryz.prog 237 = false := by kernel_rfl
@[simp] theorem Tb.bo237 : isBool Tryz.prog 237 = false := by kernel_rfl
@[simp] theorem Tb.in237 : intT Tryz.prog 237 = none := by kernel_rfl
@[simp] theorem Tb.un237 : (Tryz.prog.underlying 237).isSome = true := by kernel_rfl
@[simp] theorem Tb.zr237 : zrT Tryz.prog 237 = [.int .i64 0, .int .i64 0, .nilFunc, .int .i64 0, .int .i64 0, .nilFunc, .int .i64 0, .int .i64 0, .nilFunc, .int .i64 0, .int .i64 0, .nilFunc, .int .i64 0, .int .i64 0, .nilFunc] := by kernel_rfl
@[simp] theorem Tb.za237 : (Tryz.prog.info? 237).any (·.zero.isSome) = true := by kernel_rfl
@[simp] theorem Tb.zb237 : ((Tryz.prog.info? 237).bind (·.zero)).isSome = true := by kernel_rfl
@[simp] theorem Tb.el237 : elOK Tryz.prog 237 := elOK_of (by kernel_rfl)
@[simp] theorem Tb.bl237 : bldT Tryz.prog 237 = some ([.int .i64 0, .int .i64 0, .nilFunc, .int .i64 0, .int .i64 0, .nilFunc, .int .i64 0, .int .i64 0, .nilFunc, .int .i64 0, .int .i64 0, .nilFunc, .int .i64 0, .int .i64 0, .nilFunc], [(0, 3), (3, 3), (6, 3), (9, 3), (12, 3)]) := by kernel_rfl
@[simp] theorem Tb.tk240 : tk Tryz.prog 240 = 1 := by kernel_rfl
@[simp] theorem Tb.sz240 : Program.cellsOf Tryz.prog 240 = 1 := by kernel_rfl
@[simp] theorem Tb.sl240 : slT Tryz.prog 240 = none := by kernel_rfl
@[simp] theorem Tb.st240 : isStr Tryz.prog 240 = false := by kernel_rfl
@[simp] theorem Tb.bo240 : isBool Tryz.prog 240 = false := by kernel_rfl
@[simp] theorem Tb.in240 : intT Tryz.prog 240 = none := by kernel_rfl
@[simp] theorem Tb.un240 : (Tryz.prog.underlying 240).isSome = true := by kernel_rfl
@[simp] theorem Tb.zr240 : zrT Tryz.prog 240 = [.nilFunc] := by kernel_rfl
@[simp] theorem Tb.za240 : (Tryz.prog.info? 240).any (·.zero.isSome) = true := by kernel_rfl
@[simp] theorem Tb.zb240 : ((Tryz.prog.info? 240).bind (·.zero)).isSome = true := by kernel_rfl
@[simp] theorem Tb.el240 : elOK Tryz.prog 240 := elOK_of (by kernel_rfl)
@[simp] theorem Tb.tk244 : tk Tryz.prog 244 = 2 := by kernel_rfl
@[simp] theorem Tb.sz244 : Program.cellsOf Tryz.prog 244 = 3 := by kernel_rfl
@[simp] theorem Tb.sl244 : slT Tryz.prog 244 = none := by kernel_rfl
@[simp] theorem Tb.ar244 : arT Tryz.prog 244 = some (3, 5) := by kernel_rfl
@[simp] theorem Tb.st244 : isStr Tryz.prog 244 = false := by kernel_rfl
@[simp] theorem Tb.bo244 : isBool Tryz.prog 244 = false := by kernel_rfl
@[simp] theorem Tb.in244 : intT Tryz.prog 244 = none := by kernel_rfl
@[simp] theorem Tb.un244 : (Tryz.prog.underlying 244).isSome = true := by kernel_rfl
@[simp] theorem Tb.zr244 : zrT Tryz.prog 244 = [.int .u8 0, .int .u8 0, .int .u8 0] := by kernel_rfl
@[simp] theorem Tb.za244 : (Tryz.prog.info? 244).any (·.zero.isSome) = true := by kernel_rfl
@[simp] theorem Tb.zb244 : ((Tryz.prog.info? 244).bind (·.zero)).isSome = true := by kernel_rfl
@[simp] theorem Tb.el244 : elOK Tryz.prog 244 := elOK_of (by kernel_rfl)
@[simp] theorem Tb.bl244 : bldT Tryz.prog 244 = some ([.int .u8 0, .int .u8 0, .int .u8 0], [(0, 1), (1, 1), (2, 1)]) := by kernel_rfl
@[simp] theorem Tb.tk245 : tk Tryz.prog 245 = 2 := by kernel_rfl
@[simp] theorem Tb.sz245 : Program.cellsOf Tryz.prog 245 = 18 := by kernel_rfl
@[simp] theorem Tb.sl245 : slT Tryz.prog 245 = none := by kernel_rfl
@[simp] theorem Tb.ar245 : arT Tryz.prog 245 = some (6, 244) := by kernel_rfl
@[simp] theorem Tb.st245 : isStr Tryz.prog 245 = false := by kernel_rfl
@[simp] theorem Tb.bo245 : isBool Tryz.prog 245 = false := by kernel_rfl
@[simp] theorem Tb.in245 : intT Tryz.prog 245 = none := by kernel_rfl
@[simp] theorem Tb.un245 : (Tryz.prog.underlying 245).isSome = true := by kernel_rfl
@[simp] theorem Tb.zr245 : zrT Tryz.prog 245 = [.int .u8 0, .int .u8 0, .int .u8 0, .int .u8 0, .int .u8 0, .int .u8 0, .int .u8 0, .int .u8 0, .int .u8 0, .int .u8 0, .int .u8 0, .int .u8 0, .int .u8 0, .int .u8 0, .int .u8 0, .int .u8 0, .int .u8 0, .int .u8 0] := by kernel_rfl
@[simp] theorem Tb.za245 : (Tryz.prog.info? 245).any (·.zero.isSome) = true := by kernel_rfl
@[simp] theorem Tb.zb245 : ((Tryz.prog.info? 245).bind (·.zero)).isSome = true := by kernel_rfl
@[simp] theorem Tb.el245 : elOK Tryz.prog 245 := elOK_of (by kernel_rfl)
@[simp] theorem Tb.bl245 : bldT Tryz.prog 245 = some ([.int .u8 0, .int .u8 0, .int .u8 0, .int .u8 0, .int .u8 0, .int .u8 0, .int .u8 0, .int .u8 0, .int .u8 0, .int .u8 0, .int .u8 0, .int .u8 0, .int .u8 0, .int .u8 0, .int .u8 0, .int .u8 0, .int .u8 0, .int .u8 0], [(0, 3), (3, 3), (6, 3), (9, 3), (12, 3), (15, 3)]) := by kernel_rfl
@[simp] theorem Tb.tk249 : tk Tryz.prog 249 = 1 := by kernel_rfl
@[simp] theorem Tb.sz249 : Program.cellsOf Tryz.prog 249 = 1 := by kernel_rfl
@[simp] theorem Tb.sl249 : slT Tryz.prog 249 = some 22 := by kernel_rfl
@[simp] theorem Tb.st249 : isStr Tryz.prog 249 = false := by kernel_rfl
@[simp] theorem Tb.bo249 : isBool Tryz.prog 249 = false := by kernel_rfl
@[simp] theorem Tb.in249 : intT Tryz.prog 249 = none := by kernel_rfl
@[simp] theorem Tb.un249 : (Tryz.prog.underlying 249).isSome = true := by kernel_rfl
@[simp] theorem Tb.zr249 : zrT Tryz.prog 249 = [.slice none 0 0] := by kernel_rfl
@[simp] theorem Tb.za249 : (Tryz.prog.info? 249).any (·.zero.isSome) = true := by kernel_rfl
@[simp] theorem Tb.zb249 : ((Tryz.prog.info? 249).bind (·.zero)).isSome = true := by kernel_rfl
@[simp] theorem Tb.el249 : elOK Tryz.prog 249 := elOK_of (by kernel_rfl)
@[simp] theorem Tb.tk252 : tk Tryz.prog 252 = 1 := by kernel_rfl
@[simp] theorem Tb.sz252 : Program.cellsOf Tryz.prog 252 = 1 := by kernel_rfl
@[simp] theorem Tb.sl252 : slT Tryz.prog 252 = none := by kernel_rfl
@[simp] theorem Tb.st252 : isStr Tryz.prog 252 = false := by kernel_rfl
@[simp] theorem Tb.bo252 : isBool Tryz.prog 252 = false := by kernel_rfl
@[simp] theorem Tb.in252 : intT Tryz.prog 252 = none := by kernel_rfl
@[simp] theorem Tb.un252 : (Tryz.prog.underlying 252).isSome = true := by kernel_rfl
@[simp] theorem Tb.zr252 : zrT Tryz.prog 252 = [.nilFunc] := by kernel_rfl
@[simp] theorem Tb.za252 : (Tryz.prog.info? 252).any (·.zero.isSome) = true := by kernel_rfl
@[simp] theorem Tb.zb252 : ((Tryz.prog.info? 252).bind (·.zero)).isSome = true := by kernel_rfl
@[simp] theorem Tb.el252 : elOK Tryz.prog 252 := elOK_of (by kernel_rfl)
@[simp] theorem Tb.tk258 : tk Tryz.prog 258 = 1 := by kernel_rfl
@[simp] theorem Tb.sz258 : Program.cellsOf Tryz.prog 258 = 1 := by kernel_rfl
@[simp] theorem Tb.sl258 : slT Tryz.prog 258 = none := by kernel_rfl
@[simp] theorem Tb.st258 : isStr Tryz.prog 258 = false := by kernel_rfl
@[simp] theorem Tb.bo258 : isBool Tryz.prog 258 = false := by kernel_rfl
@[simp] theorem Tb.in258 : intT Tryz.prog 258 = some .u64 := by kernel_rfl
@[simp] theorem Tb.un258 : (Tryz.prog.underlying 258).isSome = true := by kernel_rfl
@[simp] theorem Tb.zr258 : zrT Tryz.prog 258 = [.int .u64 0] := by kernel_rfl
@[simp] theorem Tb.za258 : (Tryz.prog.info? 258).any (·.zero.isSome) = true := by kernel_rfl
@[simp] theorem Tb.zb258 : ((Tryz.prog.info? 258).bind (·.zero)).isSome = true := by kernel_rfl
@[simp] theorem Tb.el258 : elOK Tryz.prog 258 := elOK_of (by kernel_rfl)
@[simp] theorem Tb.tk262 : tk Tryz.prog 262 = 1 := by kernel_rfl
@[simp] theorem Tb.sz262 : Program.cellsOf Tryz.prog 262 = 1 := by kernel_rfl
@[simp] theorem Tb.sl262 : slT Tryz.prog 262 = none := by kernel_rfl
@[simp] theorem Tb.st262 : isStr Tryz.prog 262 = false := by kernel_rfl
@[simp] theorem Tb.bo262 : isBool Tryz.prog 262 = false := by kernel_rfl
@[simp] theorem Tb.in262 : intT Tryz.prog 262 = none := by kernel_rfl
@[simp] theorem Tb.un262 : (Tryz.prog.underlying 262).isSome = true := by kernel_rfl
@[simp] theorem Tb.zr262 : zrT Tryz.prog 262 = [.pointer none] := by kernel_rfl
@[simp] theorem Tb.za262 : (Tryz.prog.info? 262).any (·.zero.isSome) = true := by kernel_rfl
@[simp] theorem Tb.zb262 : ((Tryz.prog.info? 262).bind (·.zero)).isSome = true := by kernel_rfl
@[simp] theorem Tb.el262 : elOK Tryz.prog 262 := elOK_of (by kernel_rfl)
@[simp] theorem Tb.tk266 : tk Tryz.prog 266 = 2 := by kernel_rfl
@[simp] theorem Tb.sz266 : Program.cellsOf Tryz.prog 266 = 24 := by kernel_rfl
@[simp] theorem Tb.sl266 : slT Tryz.prog 266 = none := by kernel_rfl
@[simp] theorem Tb.ar266 : arT Tryz.prog 266 = some (24, 5) := by kernel_rfl
@[simp] theorem Tb.st266 : isStr Tryz.prog 266 = false := by kernel_rfl
@[simp] theorem Tb.bo266 : isBool Tryz.prog 266 = false := by kernel_rfl
@[simp] theorem Tb.in266 : intT Tryz.prog 266 = none := by kernel_rfl
@[simp] theorem Tb.un266 : (Tryz.prog.underlying 266).isSome = true := by kernel_rfl
@[simp] theorem Tb.zr266 : zrT Tryz.prog 266 = [.int .u8 0, .int .u8 0, .int .u8 0, .int .u8 0, .int .u8 0, .int .u8 0, .int .u8 0, .int .u8 0, .int .u8 0, .int .u8 0, .int .u8 0, .int .u8 0, .int .u8 0, .int .u8 0, .int .u8 0, .int .u8 0, .int .u8 0, .int .u8 0, .int .u8 0, .int .u8 0, .int .u8 0, .int .u8 0, .int .u8 0, .int .u8 0] := by kernel_rfl
@[simp] theorem Tb.za266 : (Tryz.prog.info? 266).any (·.zero.isSome) = true := by kernel_rfl
@[simp] theorem Tb.zb266 : ((Tryz.prog.info? 266).bind (·.zero)).isSome = true := by kernel_rfl
@[simp] theorem Tb.el266 : elOK Tryz.prog 266 := elOK_of (by kernel_rfl)
@[simp] theorem Tb.bl266 : bldT Tryz.prog 266 = some ([.int .u8 0, .int .u8 0, .int .u8 0, .int .u8 0, .int .u8 0, .int .u8 0, .int .u8 0, .int .u8 0, .int .u8 0, .int .u8 0, .int .u8 0, .int .u8 0, .int .u8 0, .int .u8 0, .int .u8 0, .int .u8 0, .int .u8 0, .int .u8 0, .int .u8 0, .int .u8 0, .int .u8 0, .int .u8 0, .int .u8 0, .int .u8 0], [(0, 1), (1, 1), (2, 1), (3, 1), (4, 1), (5, 1), (6, 1), (7, 1), (8, 1), (9, 1), (10, 1), (11, 1), (12, 1), (13, 1), (14, 1), (15, 1), (16, 1), (17, 1), (18, 1), (19, 1), (20, 1), (21, 1), (22, 1), (23, 1)]) := by kernel_rfl
@[simp] theorem Tb.tk268 : tk Tryz.prog 268 = 1 := by kernel_rfl
@[simp] theorem Tb.sz268 : Program.cellsOf Tryz.prog 268 = 1 := by kernel_rfl
@[simp] theorem Tb.sl268 : slT Tryz.prog 268 = some 5 := by kernel_rfl
@[simp] theorem Tb.st268 : isStr Tryz.prog 268 = false := by kernel_rfl
@[simp] theorem Tb.bo268 : isBool Tryz.prog 268 = false := by kernel_rfl
@[simp] theorem Tb.in268 : intT Tryz.prog 268 = none := by kernel_rfl
@[simp] theorem Tb.un268 : (Tryz.prog.underlying 268).isSome = true := by kernel_rfl
@[simp] theorem Tb.zr268 : zrT Tryz.prog 268 = [.slice none 0 0] := by kernel_rfl
@[simp] theorem Tb.za268 : (Tryz.prog.info? 268).any (·.zero.isSome) = true := by kernel_rfl
@[simp] theorem Tb.zb268 : ((Tryz.prog.info? 268).bind (·.zero)).isSome = true := by kernel_rfl
@[simp] theorem Tb.el268 : elOK Tryz.prog 268 := elOK_of (by kernel_rfl)
@[simp] theorem Tb.tk271 : tk Tryz.prog 271 = 1 := by kernel_rfl
@[simp] theorem Tb.sz271 : Program.cellsOf Tryz.prog 271 = 1 := by kernel_rfl
@[simp] theorem Tb.sl271 : slT Tryz.prog 271 = none := by kernel_rfl
@[simp] theorem Tb.st271 : isStr Tryz.prog 271 = false := by kernel_rfl
@[simp] theorem Tb.bo271 : isBool Tryz.prog 271 = false := by kernel_rfl
@[simp] theorem Tb.in271 : intT Tryz.prog 271 = none := by kernel_rfl
@[simp] theorem Tb.un271 : (Tryz.prog.underlying 271).isSome = true := by kernel_rfl
@[simp] theorem Tb.zr271 : zrT Tryz.prog 271 = [.nilFunc] := by kernel_rfl
@[simp] theorem Tb.za271 : (Tryz.prog.info? 271).any (·.zero.isSome) = true := by kernel_rfl
@[simp] theorem Tb.zb271 : ((Tryz.prog.info? 271).bind (·.zero)).isSome = true := by kernel_rfl
@[simp] theorem Tb.el271 : elOK Tryz.prog 271 := elOK_of (by kernel_rfl)
@[simp] theorem Tb.tk273 : tk Tryz.prog 273 = 1 := by kernel_rfl
@[simp] theorem Tb.sz273 : Program.cellsOf Tryz.prog 273 = 1 := by kernel_rfl
@[simp] theorem Tb.sl273 : slT Tryz.prog 273 = none := by kernel_rfl
@[simp] theorem Tb.st273 : isStr Tryz.prog 273 = false := by kernel_rfl
@[simp] theorem Tb.bo273 : isBool Tryz.prog 273 = false := by kernel_rfl
@[simp] theorem Tb.in273 : intT Tryz.prog 273 = none := by kernel_rfl
@[simp] theorem Tb.un273 : (Tryz.prog.underlying 273).isSome = true := by kernel_rfl
@[simp] theorem Tb.zr273 : zrT Tryz.prog 273 = [.nilFunc] := by kernel_rfl
@[simp] theorem Tb.za273 : (Tryz.prog.info? 273).any (·.zero.isSome) = true := by kernel_rfl
@[simp] theorem Tb.zb273 : ((Tryz.prog.info? 273).bind (·.zero)).isSome = true := by kernel_rfl
@[simp] theorem Tb.el273 : elOK Tryz.prog 273 := elOK_of (by kernel_rfl)
@[simp] theorem Tb.tk274 : tk Tryz.prog 274 = 1 := by kernel_rfl
@[simp] theorem Tb.sz274 : Program.cellsOf Tryz.prog 274 = 1 := by kernel_rfl
@[simp] theorem Tb.sl274 : slT Tryz.prog 274 = some 277 := by kernel_rfl
@[simp] theorem Tb.st274 : isStr Tryz.prog 274 = false := by kernel_rfl
@[simp] theorem Tb.bo274 : isBool Tryz.prog 274 = false := by kernel_rfl
@[simp] theorem Tb.in274 : intT Tryz.prog 274 = none := by kernel_rfl
@[simp] theorem Tb.un274 : (Tryz.prog.underlying 274).isSome = true := by kernel_rfl
@[simp] theorem Tb.zr274 : zrT Tryz.prog 274 = [.slice none 0 0] := by kernel_rfl
@[simp] theorem Tb.za274 : (Tryz.prog.info? 274).any (·.zero.isSome) = true := by kernel_rfl
@[simp] theorem Tb.zb274 : ((Tryz.prog.info? 274).bind (·.zero)).isSome = true := by kernel_rfl
@[simp] theorem Tb.el274 : elOK Tryz.prog 274 := elOK_of (by kernel_rfl)
@[simp] theorem Tb.tk276 : tk Tryz.prog 276 = 2 := by kernel_rfl
@[simp] theorem Tb.sz276 : Program.cellsOf Tryz.prog 276 = 3 := by kernel_rfl
@[simp] theorem Tb.ff276_0 : foff Tryz.prog 276 0 = some (0, 9) := by kernel_rfl
@[simp] theorem Tb.ff276_1 : foff Tryz.prog 276 1 = some (1, 22) := by kernel_rfl
@[simp] theorem Tb.ff276_2 : foff Tryz.prog 276 2 = some (2, 4) := by kernel_rfl
@[simp] theorem Tb.cm276 : cmpT Tryz.prog 276 = none := by kernel_rfl
@[simp] theorem Tb.sl276 : slT Tryz.prog 276 = none := by kernel_rfl
@[simp] theorem Tb.st276 : isStr Tryz.prog 276 = false := by kernel_rfl
@[simp] theorem Tb.bo276 : isBool Tryz.prog 276 = false := by kernel_rfl
@[simp] theorem Tb.in276 : intT Tryz.prog 276 = none := by kernel_rfl
@[simp] theorem Tb.un276 : (Tryz.prog.underlying 276).isSome = true := by kernel_rfl
@[simp] theorem Tb.zr276 : zrT Tryz.prog 276 = [.string ⟨#[]⟩, .slice none 0 0, .bool false] := by kernel_rfl
@[simp] theorem Tb.za276 : (Tryz.prog.info? 276).any (·.zero.isSome) = true := by kernel_rfl
@[simp] theorem Tb.zb276 : ((Tryz.prog.info? 276).bind (·.zero)).isSome = true := by kernel_rfl
@[simp] theorem Tb.el276 : elOK Tryz.prog 276 := elOK_of (by kernel_rfl)
@[simp] theorem Tb.bl276 : bldT Tryz.prog 276 = some ([.string ⟨#[]⟩, .slice none 0 0, .bool false], [(0, 1), (1, 1), (2, 1)]) := by kernel_rfl
@[simp] theorem Tb.tk277 : tk Tryz.prog 277 = 2 := by kernel_rfl
@[simp] theorem Tb.sz277 : Program.cellsOf Tryz.prog 277 = 3 := by kernel_rfl
@[simp] theorem Tb.ff277_0 : foff Tryz.prog 277 0 = some (0, 9) := by kernel_rfl
@[simp] theorem Tb.ff277_1 : foff Tryz.prog 277 1 = some (1, 22) := by kernel_rfl
@[simp] theorem Tb.ff277_2 : foff Tryz.prog 277 2 = some (2, 4) := by kernel_rfl
@[simp] theorem Tb.cm277 : cmpT Tryz.prog 277 = none := by kernel_rfl
@[simp] theorem Tb.sl277 : slT Tryz.prog 277 = none := by kernel_rfl
@[simp] theorem Tb.st277 : isStr Tryz.prog 277 = false := by kernel_rfl
@[simp] theorem Tb.bo277 : isBool Tryz.prog 277 = false := by kernel_rfl
@[simp] theorem Tb.in277 : intT Tryz.prog 277 = none := by kernel_rfl
@[simp] theorem Tb.un277 : (Tryz.prog.underlying 277).isSome = true := by kernel_rfl
@[simp] theorem Tb.zr277 : zrT Tryz.prog 277 = [.string ⟨#[]⟩, .slice none 0 0, .bool false] := by kernel_rfl
@[simp] theorem Tb.za277 : (Tryz.prog.info? 277).any (·.zero.isSome) = true := by kernel_rfl
@[simp] theorem Tb.zb277 : ((Tryz.prog.info? 277).bind (·.zero)).isSome = true := by kernel_rfl
@[simp] theorem Tb.el277 : elOK Tryz.prog 277 := elOK_of (by kernel_rfl)
@[simp] theorem Tb.bl277 : bldT Tryz.prog 277 = some ([.string ⟨#[]⟩, .slice none 0 0, .bool false], [(0, 1), (1, 1), (2, 1)]) := by kernel_rfl
@[simp] theorem Tb.tk281 : tk Tryz.prog 281 = 1 := by kernel_rfl
@[simp] theorem Tb.sz281 : Program.cellsOf Tryz.prog 281 = 1 := by kernel_rfl
@[simp] theorem Tb.sl281 : slT Tryz.prog 281 = none := by kernel_rfl
@[simp] theorem Tb.st281 : isStr Tryz.prog 281 = false := by kernel_rfl
@[simp] theorem Tb.bo281 : isBool Tryz.prog 281 = false := by kernel_rfl
@[simp] theorem Tb.in281 : intT Tryz.prog 281 = none := by kernel_rfl
@[simp] theorem Tb.un281 : (Tryz.prog.underlying 281).isSome = true := by kernel_rfl
@[simp] theorem Tb.zr281 : zrT Tryz.prog 281 = [.nilFunc] := by kernel_rfl
@[simp] theorem Tb.za281 : (Tryz.prog.info? 281).any (·.zero.isSome) = true := by kernel_rfl
@[simp] theorem Tb.zb281 : ((Tryz.prog.info? 281).bind (·.zero)).isSome = true := by kernel_rfl
@[simp] theorem Tb.el281 : elOK Tryz.prog 281 := elOK_of (by kernel_rfl)
@[simp] theorem Tb.tk283 : tk Tryz.prog 283 = 1 := by kernel_rfl
@[simp] theorem Tb.sz283 : Program.cellsOf Tryz.prog 283 = 1 := by kernel_rfl
@[simp] theorem Tb.sl283 : slT Tryz.prog 283 = none := by kernel_rfl
@[simp] theorem Tb.st283 : isStr Tryz.prog 283 = false := by kernel_rfl
@[simp] theorem Tb.bo283 : isBool Tryz.prog 283 = false := by kernel_rfl
@[simp] theorem Tb.in283 : intT Tryz.prog 283 = none := by kernel_rfl
@[simp] theorem Tb.un283 : (Tryz.prog.underlying 283).isSome = true := by kernel_rfl
@[simp] theorem Tb.zr283 : zrT Tryz.prog 283 = [.pointer none] := by kernel_rfl
@[simp] theorem Tb.za283 : (Tryz.prog.info? 283).any (·.zero.isSome) = true := by kernel_rfl
@[simp] theorem Tb.zb283 : ((Tryz.prog.info? 283).bind (·.zero)).isSome = true := by kernel_rfl
@[simp] theorem Tb.el283 : elOK Tryz.prog 283 := elOK_of (by kernel_rfl)
@[simp] theorem Tb.tk288 : tk Tryz.prog 288 = 2 := by kernel_rfl
@[simp] theorem Tb.sz288 : Program.cellsOf Tryz.prog 288 = 20 := by kernel_rfl
@[simp] theorem Tb.sl288 : slT Tryz.prog 288 = none := by kernel_rfl
@[simp] theorem Tb.ar288 : arT Tryz.prog 288 = some (20, 221) := by kernel_rfl
@[simp] theorem Tb.st288 : isStr Tryz.prog 288 = false := by kernel_rfl
@[simp] theorem Tb.bo288 : isBool Tryz.prog 288 = false := by kernel_rfl
@[simp] theorem Tb.in288 : intT Tryz.prog 288 = none := by kernel_rfl
@[simp] theorem Tb.un288 : (Tryz.prog.underlying 288).isSome = true := by kernel_rfl
@[simp] theorem Tb.zr288 : zrT Tryz.prog 288 = [.int .u64 0, .int .u64 0, .int .u64 0, .int .u64 0, .int .u64 0, .int .u64 0, .int .u64 0, .int .u64 0, .int .u64 0, .int .u64 0, .int .u64 0, .int .u64 0, .int .u64 0, .int .u64 0, .int .u64 0, .int .u64 0, .int .u64 0, .int .u64 0, .int .u64 0, .int .u64 0] := by kernel_rfl
@[simp] theorem Tb.za288 : (Tryz.prog.info? 288).any (·.zero.isSome) = true := by kernel_rfl
@[simp] theorem Tb.zb288 : ((Tryz.prog.info? 288).bind (·.zero)).isSome = true := by kernel_rfl
@[simp] theorem Tb.el288 : elOK Tryz.prog 288 := elOK_of (by kernel_rfl)
@[simp] theorem Tb.bl288 : bldT Tryz.prog 288 = some ([.int .u64 0, .int .u64 0, .int .u64 0, .int .u64 0, .int .u64 0, .int .u64 0, .int .u64 0, .int .u64 0, .int .u64 0, .int .u64 0, .int .u64 0, .int .u64 0, .int .u64 0, .int .u64 0, .int .u64 0, .int .u64 0, .int .u64 0, .int .u64 0, .int .u64 0, .int .u64 0], [(0, 1), (1, 1), (2, 1), (3, 1), (4, 1), (5, 1), (6, 1), (7, 1), (8, 1), (9, 1), (10, 1), (11, 1), (12, 1), (13, 1), (14, 1), (15, 1), (16, 1), (17, 1), (18, 1), (19, 1)]) := by kernel_rfl
@[simp] theorem Tb.tk289 : tk Tryz.prog 289 = 2 := by kernel_rfl
@[simp] theorem Tb.sz289 : Program.cellsOf Tryz.prog 289 = 65 := by kernel_rfl
@[simp] theorem Tb.sl289 : slT Tryz.prog 289 = none := by kernel_rfl
@[simp] theorem Tb.ar289 : arT Tryz.prog 289 = some (65, 5) := by kernel_rfl
@[simp] theorem Tb.st289 : isStr Tryz.prog 289 = false := by kernel_rfl
@[simp] theorem Tb.bo289 : isBool Tryz.prog 289 = false := by kernel_rfl
@[simp] theorem Tb.in289 : intT Tryz.prog 289 = none := by kernel_rfl
@[simp] theorem Tb.un289 : (Tryz.prog.underlying 289).isSome = true := by kernel_rfl
@[simp] theorem Tb.zr289 : zrT Tryz.prog 289 = [.int .u8 0, .int .u8 0, .int .u8 0, .int .u8 0, .int .u8 0, .int .u8 0, .int .u8 0, .int .u8 0, .int .u8 0, .int .u8 0, .int .u8 0, .int .u8 0, .int .u8 0, .int .u8 0, .int .u8 0, .int .u8 0, .int .u8 0, .int .u8 0, .int .u8 0, .int .u8 0, .int .u8 0, .int .u8 0, .int .u8 0, .int .u8 0, .int .u8 0, .int .u8 0, .int .u8 0, .int .u8 0, .int .u8 0, .int .u8 0, .int .u8 0, .int .u8 0, .int .u8 0, .int .u8 0, .int .u8 0, .int .u8 0, .int .u8 0, .int .u8 0, .int .u8 0, .int .u8 0, .int .u8 0, .int .u8 0, .int .u8 0, .int .u8 0, .int .u8 0, .int .u8 0, .int .u8 0, .int .u8 0, .int .u8 0, .int .u8 0, .int .u8 0, .int .u8 0, .int .u8 0, .int .u8 0, .int .u8 0, .int .u8 0, .int .u8 0, .int .u8 0, .int .u8 0, .int .u8 0, .int .u8 0, .int .u8 0, .int .u8 0, .int .u8 0, .int .u8 0] := by kernel_rfl
@[simp] theorem Tb.za289 : (Tryz.prog.info? 289).any (·.zero.isSome) = true := by kernel_rfl
@[simp] theorem Tb.zb289 : ((Tryz.prog.info? 289).bind (·.zero)).isSome = true := by kernel_rfl
@[simp] theorem Tb.el289 : elOK Tryz.prog 289 := elOK_of (by kernel_rfl)
@[simp] theorem Tb.bl289 : bldT Tryz.prog 289 = some ([.int .u8 0, .int .u8 0, .int .u8 0, .int .u8 0, .int .u8 0, .int .u8 0, .int .u8 0, .int .u8 0, .int .u8 0, .int .u8 0, .int .u8 0, .int .u8 0, .int .u8 0, .int .u8 0, .int .u8 0, .int .u8 0, .int .u8 0, .int .u8 0, .int .u8 0, .int .u8 0, .int .u8 0, .int .u8 0, .int .u8 0, .int .u8 0, .int .u8 0, .int .u8 0, .int .u8 0, .int .u8 0, .int .u8 0, .int .u8 0, .int .u8 0, .int .u8 0, .int .u8 0, .int .u8 0, .int .u8 0, .int .u8 0, .int .u8 0, .int .u8 0, .int .u8 0, .int .u8 0, .int .u8 0, .int .u8 0, .int .u8 0, .int .u8 0, .int .u8 0, .int .u8 0, .int .u8 0, .int .u8 0, .int .u8 0, .int .u8 0, .int .u8 0, .int .u8 0, .int .u8 0, .int .u8 0, .int .u8 0, .int .u8 0, .int .u8 0, .int .u8 0, .int .u8 0, .int .u8 0, .int .u8 0, .int .u8 0, .int .u8 0, .int .u8 0, .int .u8 0], [(0, 1), (1, 1), (2, 1), (3, 1), (4, 1), (5, 1), (6, 1), (7, 1), (8, 1), (9, 1), (10, 1), (11, 1), (12, 1), (13, 1), (14, 1), (15, 1), (16, 1), (17, 1), (18, 1), (19, 1), (20, 1), (21, 1), (22, 1), (23, 1), (24, 1), (25, 1), (26, 1), (27, 1), (28, 1), (29, 1), (30, 1), (31, 1), (32, 1), (33, 1), (34, 1), (35, 1), (36, 1), (37, 1), (38, 1), (39, 1), (40, 1), (41, 1), (42, 1), (43, 1), (44, 1), (45, 1), (46, 1), (47, 1), (48, 1), (49, 1), (50, 1), (51, 1), (52, 1), (53, 1), (54, 1), (55, 1), (56, 1), (57, 1), (58, 1), (59, 1), (60, 1), (61, 1), (62, 1), (63, 1), (64, 1)]) := by kernel_rfl
@[simp] theorem Tb.tk298 : tk Tryz.prog 298 = 2 := by kernel_rfl
@[simp] theorem Tb.sz298 : Program.cellsOf Tryz.prog 298 = 32 := by kernel_rfl
@[simp] theorem Tb.sl298 : slT Tryz.prog 298 = none := by kernel_rfl
@[simp] theorem Tb.ar298 : arT Tryz.prog 298 = some (32, 5) := by kernel_rfl
@[simp] theorem Tb.st298 : isStr Tryz.prog 298 = false := by kernel_rfl
@[simp] theorem Tb.bo298 : isBool Tryz.prog 298 = false := by kernel_rfl
@[simp] theorem Tb.in298 : intT Tryz.prog 298 = none := by kernel_rfl
@[simp] theorem Tb.un298 : (Tryz.prog.underlying 298).isSome = true := by kernel_rfl
@[simp] theorem Tb.zr298 : zrT Tryz.prog 298 = [.int .u8 0, .int .u8 0, .int .u8 0, .int .u8 0, .int .u8 0, .int .u8 0, .int .u8 0, .int .u8 0, .int .u8 0, .int .u8 0, .int .u8 0, .int .u8 0, .int .u8 0, .int .u8 0, .int .u8 0, .int .u8 0, .int .u8 0, .int .u8 0, .int .u8 0, .int .u8 0, .int .u8 0, .int .u8 0, .int .u8 0, .int .u8 0, .int .u8 0, .int .u8 0, .int .u8 0, .int .u8 0, .int .u8 0, .int .u8 0, .int .u8 0, .int .u8 0] := by kernel_rfl
@[simp] theorem Tb.za298 : (Tryz.prog.info? 298).any (·.zero.isSome) = true := by kernel_rfl
@[simp] theorem Tb.zb298 : ((Tryz.prog.info? 298).bind (·.zero)).isSome = true := by kernel_rfl
@[simp] theorem Tb.el298 : elOK Tryz.prog 298 := elOK_of (by kernel_rfl)
@[simp] theorem Tb.bl298 : bldT Tryz.prog 298 = some ([.int .u8 0, .int .u8 0, .int .u8 0, .int .u8 0, .int .u8 0, .int .u8 0, .int .u8 0, .int .u8 0, .int .u8 0, .int .u8 0, .int .u8 0, .int .u8 0, .int .u8 0, .int .u8 0, .int .u8 0, .int .u8 0, .int .u8 0, .int .u8 0, .int .u8 0, .int .u8 0, .int .u8 0, .int .u8 0, .int .u8 0, .int .u8 0, .int .u8 0, .int .u8 0, .int .u8 0, .int .u8 0, .int .u8 0, .int .u8 0, .int .u8 0, .int .u8 0], [(0, 1), (1, 1), (2, 1), (3, 1), (4, 1), (5, 1), (6, 1), (7, 1), (8, 1), (9, 1), (10, 1), (11, 1), (12, 1), (13, 1), (14, 1), (15, 1), (16, 1), (17, 1), (18, 1), (19, 1), (20, 1), (21, 1), (22, 1), (23, 1), (24, 1), (25, 1), (26, 1), (27, 1), (28, 1), (29, 1), (30, 1), (31, 1)]) := by kernel_rfl
@[simp] theorem Tb.tk299 : tk Tryz.prog 299 = 2 := by kernel_rfl
@[simp] theorem Tb.sz299 : Program.cellsOf Tryz.prog 299 = 64 := by kernel_rfl
@[simp] theorem Tb.sl299 : slT Tryz.prog 299 = none := by kernel_rfl
@[simp] theorem Tb.ar299 : arT Tryz.prog 299 = some (64, 5) := by kernel_rfl
@[simp] theorem Tb.st299 : isStr Tryz.prog 299 = false := by kernel_rfl
@[simp] theorem Tb.bo299 : isBool Tryz.prog 299 = false := by kernel_rfl
@[simp] theorem Tb.in299 : intT Tryz.prog 299 = none := by kernel_rfl
@[simp] theorem Tb.un299 : (Tryz.prog.underlying 299).isSome = true := by kernel_rfl
@[simp] theorem Tb.zr299 : zrT Tryz.prog 299 = [.int .u8 0, .int .u8 0, .int .u8 0, .int .u8 0, .int .u8 0, .int .u8 0, .int .u8 0, .int .u8 0, .int .u8 0, .int .u8 0, .int .u8 0, .int .u8 0, .int .u8 0, .int .u8 0, .int .u8 0, .int .u8 0, .int .u8 0, .int .u8 0, .int .u8 0, .int .u8 0, .int .u8 0, .int .u8 0, .int .u8 0, .int .u8 0, .int .u8 0, .int .u8 0, .int .u8 0, .int .u8 0, .int .u8 0, .int .u8 0, .int .u8 0, .int .u8 0, .int .u8 0, .int .u8 0, .int .u8 0, .int .u8 0, .int .u8 0, .int .u8 0, .int .u8 0, .int .u8 0, .int .u8 0, .int .u8 0, .int .u8 0, .int .u8 0, .int .u8 0, .int .u8 0, .int .u8 0, .int .u8 0, .int .u8 0, .int .u8 0, .int .u8 0, .int .u8 0, .int .u8 0, .int .u8 0, .int .u8 0, .int .u8 0, .int .u8 0, .int .u8 0, .int .u8 0, .int .u8 0, .int .u8 0, .int .u8 0, .int .u8 0, .int .u8 0] := by kernel_rfl
@[simp] theorem Tb.za299 : (Tryz.prog.info? 299).any (·.zero.isSome) = true := by kernel_rfl
@[simp] theorem Tb.zb299 : ((Tryz.prog.info? 299).bind (·.zero)).isSome = true := by kernel_rfl
@[simp] theorem Tb.el299 : elOK Tryz.prog 299 := elOK_of (by kernel_rfl)
@[simp] theorem Tb.bl299 : bldT Tryz.prog 299 = some ([.int .u8 0, .int .u8 0, .int .u8 0, .int .u8 0, .int .u8 0, .int .u8 0, .int .u8 0, .int .u8 0, .int .u8 0, .int .u8 0, .int .u8 0, .int .u8 0, .int .u8 0, .int .u8 0, .int .u8 0, .int .u8 0, .int .u8 0, .int .u8 0, .int .u8 0, .int .u8 0, .int .u8 0, .int .u8 0, .int .u8 0, .int .u8 0, .int .u8 0, .int .u8 0, .int .u8 0, .int .u8 0, .int .u8 0, .int .u8 0, .int .u8 0, .int .u8 0, .int .u8 0, .int .u8 0, .int .u8 0, .int .u8 0, .int .u8 0, .int .u8 0, .int .u8 0, .int .u8 0, .int .u8 0, .int .u8 0, .int .u8 0, .int .u8 0, .int .u8 0, .int .u8 0, .int .u8 0, .int .u8 0, .int .u8 0, .int .u8 0, .int .u8 0, .int .u8 0, .int .u8 0, .int .u8 0, .int .u8 0, .int .u8 0, .int .u8 0, .int .u8 0, .int .u8 0, .int .u8 0, .int .u8 0, .int .u8 0, .int .u8 0, .int .u8 0], [(0, 1), (1, 1), (2, 1), (3, 1), (4, 1), (5, 1), (6, 1), (7, 1), (8, 1), (9, 1), (10, 1), (11, 1), (12, 1), (13, 1), (14, 1), (15, 1), (16, 1), (17, 1), (18, 1), (19, 1), (20, 1), (21, 1), (22, 1), (23, 1), (24, 1), (25, 1), (26, 1), (27, 1), (28, 1), (29, 1), (30, 1), (31, 1), (32, 1), (33, 1), (34, 1), (35, 1), (36, 1), (37, 1), (38, 1), (39, 1), (40, 1), (41, 1), (42, 1), (43, 1), (44, 1), (45, 1), (46, 1), (47, 1), (48, 1), (49, 1), (50, 1), (51, 1), (52, 1), (53, 1), (54, 1), (55, 1), (56, 1), (57, 1), (58, 1), (59, 1), (60, 1), (61, 1), (62, 1), (63, 1)]) := by kernel_rfl
@[simp] theorem Tb.tk310 : tk Tryz.prog 310 = 1 := by kernel_rfl
@[simp] theorem Tb.sz310 : Program.cellsOf Tryz.prog 310 = 1 := by kernel_rfl
@[simp] theorem Tb.sl310 : slT Tryz.prog 310 = none := by kernel_rfl
@[simp] theorem Tb.st310 : isStr Tryz.prog 310 = false := by kernel_rfl
@[simp] theorem Tb.bo310 : isBool Tryz.prog 310 = false := by kernel_rfl
@[simp] theorem Tb.in310 : intT Tryz.prog 310 = none := by kernel_rfl
@[simp] theorem Tb.un310 : (Tryz.prog.underlying 310).isSome = true := by kernel_rfl
@[simp] theorem Tb.zr310 : zrT Tryz.prog 310 = [.pointer none] := by kernel_rfl
@[simp] theorem Tb.za310 : (Tryz.prog.info? 310).any (·.zero.isSome) = true := by kernel_rfl
@[simp] theorem Tb.zb310 : ((Tryz.prog.info? 310).bind (·.zero)).isSome = true := by kernel_rfl
@[simp] theorem Tb.el310 : elOK Tryz.prog 310 := elOK_of (by kernel_rfl)
end Go.Proofs.YtdnkpogfcpjkpaaGreatDoor
end
