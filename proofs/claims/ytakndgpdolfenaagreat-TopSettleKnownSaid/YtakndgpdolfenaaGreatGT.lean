/- Texts joined by a program: Tb. -/
import Derived.KernelRfl
import Derived.Test.YtakndgpdolfenaaGreatGA
set_option linter.unusedSimpArgs false
set_option linter.unusedVariables false

/- The types of this translation, as simp lemmas. Written by a program (wip/gen_types.py). -/
section
namespace Go.Proofs.YtakndgpdolfenaaGreat
@[simp] theorem Tb.tk1 : tk Tryz.prog 1 = 1 := by kernel_rfl
@[simp] theorem Tb.sz1 : Program.cellsOf Tryz.prog 1 = 1 := by kernel_rfl
@[simp] theorem Tb.sl1 : slT Tryz.prog 1 = none := by kernel_rfl
@[simp] theorem Tb.st1 : isStr Tryz.prog 1 = false := by kernel_rfl
@[simp] theorem Tb.bo1 : isBool Tryz.prog 1 = false := by kernel_rfl
@[simp] theorem Tb.in1 : intT Tryz.prog 1 = none := by kernel_rfl
@[simp] theorem Tb.un1 : (Tryz.prog.underlying 1).isSome = true := by kernel_rfl
@[simp] theorem Tb.zr1 : zrT Tryz.prog 1 = [.nilFunc] := by kernel_rfl
@[simp] theorem Tb.za1 : (Tryz.prog.info? 1).any (·.zero.isSome) = true := by kernel_rfl
@[simp] theorem Tb.zb1 : ((Tryz.prog.info? 1).bind (·.zero)).isSome = true := by kernel_rfl
@[simp] theorem Tb.el1 : elOK Tryz.prog 1 := elOK_of (by kernel_rfl)
@[simp] theorem Tb.tk2 : tk Tryz.prog 2 = 1 := by kernel_rfl
@[simp] theorem Tb.sz2 : Program.cellsOf Tryz.prog 2 = 1 := by kernel_rfl
@[simp] theorem Tb.sl2 : slT Tryz.prog 2 = none := by kernel_rfl
@[simp] theorem Tb.st2 : isStr Tryz.prog 2 = false := by kernel_rfl
@[simp] theorem Tb.bo2 : isBool Tryz.prog 2 = false := by kernel_rfl
@[simp] theorem Tb.in2 : intT Tryz.prog 2 = some .i64 := by kernel_rfl
@[simp] theorem Tb.un2 : (Tryz.prog.underlying 2).isSome = true := by kernel_rfl
@[simp] theorem Tb.zr2 : zrT Tryz.prog 2 = [.int .i64 0] := by kernel_rfl
@[simp] theorem Tb.za2 : (Tryz.prog.info? 2).any (·.zero.isSome) = true := by kernel_rfl
@[simp] theorem Tb.zb2 : ((Tryz.prog.info? 2).bind (·.zero)).isSome = true := by kernel_rfl
@[simp] theorem Tb.el2 : elOK Tryz.prog 2 := elOK_of (by kernel_rfl)
@[simp] theorem Tb.tk3 : tk Tryz.prog 3 = 1 := by kernel_rfl
@[simp] theorem Tb.sz3 : Program.cellsOf Tryz.prog 3 = 1 := by kernel_rfl
@[simp] theorem Tb.sl3 : slT Tryz.prog 3 = none := by kernel_rfl
@[simp] theorem Tb.st3 : isStr Tryz.prog 3 = false := by kernel_rfl
@[simp] theorem Tb.bo3 : isBool Tryz.prog 3 = false := by kernel_rfl
@[simp] theorem Tb.in3 : intT Tryz.prog 3 = some .i64 := by kernel_rfl
@[simp] theorem Tb.un3 : (Tryz.prog.underlying 3).isSome = true := by kernel_rfl
@[simp] theorem Tb.zr3 : zrT Tryz.prog 3 = [.int .i64 0] := by kernel_rfl
@[simp] theorem Tb.za3 : (Tryz.prog.info? 3).any (·.zero.isSome) = true := by kernel_rfl
@[simp] theorem Tb.zb3 : ((Tryz.prog.info? 3).bind (·.zero)).isSome = true := by kernel_rfl
@[simp] theorem Tb.el3 : elOK Tryz.prog 3 := elOK_of (by kernel_rfl)
@[simp] theorem Tb.tk4 : tk Tryz.prog 4 = 1 := by kernel_rfl
@[simp] theorem Tb.sz4 : Program.cellsOf Tryz.prog 4 = 1 := by kernel_rfl
@[simp] theorem Tb.sl4 : slT Tryz.prog 4 = none := by kernel_rfl
@[simp] theorem Tb.st4 : isStr Tryz.prog 4 = false := by kernel_rfl
@[simp] theorem Tb.bo4 : isBool Tryz.prog 4 = true := by kernel_rfl
@[simp] theorem Tb.in4 : intT Tryz.prog 4 = none := by kernel_rfl
@[simp] theorem Tb.un4 : (Tryz.prog.underlying 4).isSome = true := by kernel_rfl
@[simp] theorem Tb.zr4 : zrT Tryz.prog 4 = [.bool false] := by kernel_rfl
@[simp] theorem Tb.za4 : (Tryz.prog.info? 4).any (·.zero.isSome) = true := by kernel_rfl
@[simp] theorem Tb.zb4 : ((Tryz.prog.info? 4).bind (·.zero)).isSome = true := by kernel_rfl
@[simp] theorem Tb.el4 : elOK Tryz.prog 4 := elOK_of (by kernel_rfl)
@[simp] theorem Tb.tk5 : tk Tryz.prog 5 = 1 := by kernel_rfl
@[simp] theorem Tb.sz5 : Program.cellsOf Tryz.prog 5 = 1 := by kernel_rfl
@[simp] theorem Tb.sl5 : slT Tryz.prog 5 = none := by kernel_rfl
@[simp] theorem Tb.st5 : isStr Tryz.prog 5 = false := by kernel_rfl
@[simp] theorem Tb.bo5 : isBool Tryz.prog 5 = false := by kernel_rfl
@[simp] theorem Tb.in5 : intT Tryz.prog 5 = some .u8 := by kernel_rfl
@[simp] theorem Tb.un5 : (Tryz.prog.underlying 5).isSome = true := by kernel_rfl
@[simp] theorem Tb.zr5 : zrT Tryz.prog 5 = [.int .u8 0] := by kernel_rfl
@[simp] theorem Tb.za5 : (Tryz.prog.info? 5).any (·.zero.isSome) = true := by kernel_rfl
@[simp] theorem Tb.zb5 : ((Tryz.prog.info? 5).bind (·.zero)).isSome = true := by kernel_rfl
@[simp] theorem Tb.el5 : elOK Tryz.prog 5 := elOK_of (by kernel_rfl)
@[simp] theorem Tb.tk9 : tk Tryz.prog 9 = 1 := by kernel_rfl
@[simp] theorem Tb.sz9 : Program.cellsOf Tryz.prog 9 = 1 := by kernel_rfl
@[simp] theorem Tb.sl9 : slT Tryz.prog 9 = none := by kernel_rfl
@[simp] theorem Tb.st9 : isStr Tryz.prog 9 = true := by kernel_rfl
@[simp] theorem Tb.bo9 : isBool Tryz.prog 9 = false := by kernel_rfl
@[simp] theorem Tb.in9 : intT Tryz.prog 9 = none := by kernel_rfl
@[simp] theorem Tb.un9 : (Tryz.prog.underlying 9).isSome = true := by kernel_rfl
@[simp] theorem Tb.zr9 : zrT Tryz.prog 9 = [.string ⟨#[]⟩] := by kernel_rfl
@[simp] theorem Tb.za9 : (Tryz.prog.info? 9).any (·.zero.isSome) = true := by kernel_rfl
@[simp] theorem Tb.zb9 : ((Tryz.prog.info? 9).bind (·.zero)).isSome = true := by kernel_rfl
@[simp] theorem Tb.el9 : elOK Tryz.prog 9 := elOK_of (by kernel_rfl)
@[simp] theorem Tb.tk12 : tk Tryz.prog 12 = 1 := by kernel_rfl
@[simp] theorem Tb.sz12 : Program.cellsOf Tryz.prog 12 = 1 := by kernel_rfl
@[simp] theorem Tb.sl12 : slT Tryz.prog 12 = none := by kernel_rfl
@[simp] theorem Tb.st12 : isStr Tryz.prog 12 = false := by kernel_rfl
@[simp] theorem Tb.bo12 : isBool Tryz.prog 12 = false := by kernel_rfl
@[simp] theorem Tb.in12 : intT Tryz.prog 12 = some .u64 := by kernel_rfl
@[simp] theorem Tb.un12 : (Tryz.prog.underlying 12).isSome = true := by kernel_rfl
@[simp] theorem Tb.zr12 : zrT Tryz.prog 12 = [.int .u64 0] := by kernel_rfl
@[simp] theorem Tb.za12 : (Tryz.prog.info? 12).any (·.zero.isSome) = true := by kernel_rfl
@[simp] theorem Tb.zb12 : ((Tryz.prog.info? 12).bind (·.zero)).isSome = true := by kernel_rfl
@[simp] theorem Tb.el12 : elOK Tryz.prog 12 := elOK_of (by kernel_rfl)
@[simp] theorem Tb.tk19 : tk Tryz.prog 19 = 2 := by kernel_rfl
@[simp] theorem Tb.sz19 : Program.cellsOf Tryz.prog 19 = 1 := by kernel_rfl
@[simp] theorem Tb.ff19_0 : foff Tryz.prog 19 0 = some (0, 17) := by kernel_rfl
@[simp] theorem Tb.cm19 : cmpT Tryz.prog 19 = none := by kernel_rfl
@[simp] theorem Tb.sl19 : slT Tryz.prog 19 = none := by kernel_rfl
@[simp] theorem Tb.st19 : isStr Tryz.prog 19 = false := by kernel_rfl
@[simp] theorem Tb.bo19 : isBool Tryz.prog 19 = false := by kernel_rfl
@[simp] theorem Tb.in19 : intT Tryz.prog 19 = none := by kernel_rfl
@[simp] theorem Tb.un19 : (Tryz.prog.underlying 19).isSome = true := by kernel_rfl
@[simp] theorem Tb.zr19 : zrT Tryz.prog 19 = [.pointer none] := by kernel_rfl
@[simp] theorem Tb.za19 : (Tryz.prog.info? 19).any (·.zero.isSome) = true := by kernel_rfl
@[simp] theorem Tb.zb19 : ((Tryz.prog.info? 19).bind (·.zero)).isSome = true := by kernel_rfl
@[simp] theorem Tb.el19 : elOK Tryz.prog 19 := elOK_of (by kernel_rfl)
@[simp] theorem Tb.bl19 : bldT Tryz.prog 19 = some ([.pointer none], [(0, 1)]) := by kernel_rfl
@[simp] theorem Tb.tk21 : tk Tryz.prog 21 = 1 := by kernel_rfl
@[simp] theorem Tb.sz21 : Program.cellsOf Tryz.prog 21 = 1 := by kernel_rfl
@[simp] theorem Tb.sl21 : slT Tryz.prog 21 = none := by kernel_rfl
@[simp] theorem Tb.st21 : isStr Tryz.prog 21 = false := by kernel_rfl
@[simp] theorem Tb.bo21 : isBool Tryz.prog 21 = false := by kernel_rfl
@[simp] theorem Tb.in21 : intT Tryz.prog 21 = some .i32 := by kernel_rfl
@[simp] theorem Tb.un21 : (Tryz.prog.underlying 21).isSome = true := by kernel_rfl
@[simp] theorem Tb.zr21 : zrT Tryz.prog 21 = [.int .i32 0] := by kernel_rfl
@[simp] theorem Tb.za21 : (Tryz.prog.info? 21).any (·.zero.isSome) = true := by kernel_rfl
@[simp] theorem Tb.zb21 : ((Tryz.prog.info? 21).bind (·.zero)).isSome = true := by kernel_rfl
@[simp] theorem Tb.el21 : elOK Tryz.prog 21 := elOK_of (by kernel_rfl)
@[simp] theorem Tb.tk22 : tk Tryz.prog 22 = 1 := by kernel_rfl
@[simp] theorem Tb.sz22 : Program.cellsOf Tryz.prog 22 = 1 := by kernel_rfl
@[simp] theorem Tb.sl22 : slT Tryz.prog 22 = some 9 := by kernel_rfl
@[simp] theorem Tb.st22 : isStr Tryz.prog 22 = false := by kernel_rfl
@[simp] theorem Tb.bo22 : isBool Tryz.prog 22 = false := by kernel_rfl
@[simp] theorem Tb.in22 : intT Tryz.prog 22 = none := by kernel_rfl
@[simp] theorem Tb.un22 : (Tryz.prog.underlying 22).isSome = true := by kernel_rfl
@[simp] theorem Tb.zr22 : zrT Tryz.prog 22 = [.slice none 0 0] := by kernel_rfl
@[simp] theorem Tb.za22 : (Tryz.prog.info? 22).any (·.zero.isSome) = true := by kernel_rfl
@[simp] theorem Tb.zb22 : ((Tryz.prog.info? 22).bind (·.zero)).isSome = true := by kernel_rfl
@[simp] theorem Tb.el22 : elOK Tryz.prog 22 := elOK_of (by kernel_rfl)
@[simp] theorem Tb.tk23 : tk Tryz.prog 23 = 1 := by kernel_rfl
@[simp] theorem Tb.sz23 : Program.cellsOf Tryz.prog 23 = 1 := by kernel_rfl
@[simp] theorem Tb.sl23 : slT Tryz.prog 23 = some 49 := by kernel_rfl
@[simp] theorem Tb.st23 : isStr Tryz.prog 23 = false := by kernel_rfl
@[simp] theorem Tb.bo23 : isBool Tryz.prog 23 = false := by kernel_rfl
@[simp] theorem Tb.in23 : intT Tryz.prog 23 = none := by kernel_rfl
@[simp] theorem Tb.un23 : (Tryz.prog.underlying 23).isSome = true := by kernel_rfl
@[simp] theorem Tb.zr23 : zrT Tryz.prog 23 = [.slice none 0 0] := by kernel_rfl
@[simp] theorem Tb.za23 : (Tryz.prog.info? 23).any (·.zero.isSome) = true := by kernel_rfl
@[simp] theorem Tb.zb23 : ((Tryz.prog.info? 23).bind (·.zero)).isSome = true := by kernel_rfl
@[simp] theorem Tb.el23 : elOK Tryz.prog 23 := elOK_of (by kernel_rfl)
@[simp] theorem Tb.tk24 : tk Tryz.prog 24 = 1 := by kernel_rfl
@[simp] theorem Tb.sz24 : Program.cellsOf Tryz.prog 24 = 1 := by kernel_rfl
@[simp] theorem Tb.sl24 : slT Tryz.prog 24 = some 3 := by kernel_rfl
@[simp] theorem Tb.st24 : isStr Tryz.prog 24 = false := by kernel_rfl
@[simp] theorem Tb.bo24 : isBool Tryz.prog 24 = false := by kernel_rfl
@[simp] theorem Tb.in24 : intT Tryz.prog 24 = none := by kernel_rfl
@[simp] theorem Tb.un24 : (Tryz.prog.underlying 24).isSome = true := by kernel_rfl
@[simp] theorem Tb.zr24 : zrT Tryz.prog 24 = [.slice none 0 0] := by kernel_rfl
@[simp] theorem Tb.za24 : (Tryz.prog.info? 24).any (·.zero.isSome) = true := by kernel_rfl
@[simp] theorem Tb.zb24 : ((Tryz.prog.info? 24).bind (·.zero)).isSome = true := by kernel_rfl
@[simp] theorem Tb.el24 : elOK Tryz.prog 24 := elOK_of (by kernel_rfl)
@[simp] theorem Tb.tk25 : tk Tryz.prog 25 = 2 := by kernel_rfl
@[simp] theorem Tb.sz25 : Program.cellsOf Tryz.prog 25 = 5 := by kernel_rfl
@[simp] theorem Tb.ff25_0 : foff Tryz.prog 25 0 = some (0, 3) := by kernel_rfl
@[simp] theorem Tb.ff25_1 : foff Tryz.prog 25 1 = some (1, 22) := by kernel_rfl
@[simp] theorem Tb.ff25_2 : foff Tryz.prog 25 2 = some (2, 23) := by kernel_rfl
@[simp] theorem Tb.ff25_3 : foff Tryz.prog 25 3 = some (3, 24) := by kernel_rfl
@[simp] theorem Tb.ff25_4 : foff Tryz.prog 25 4 = some (4, 24) := by kernel_rfl
@[simp] theorem Tb.cm25 : cmpT Tryz.prog 25 = none := by kernel_rfl
@[simp] theorem Tb.sl25 : slT Tryz.prog 25 = none := by kernel_rfl
@[simp] theorem Tb.st25 : isStr Tryz.prog 25 = false := by kernel_rfl
@[simp] theorem Tb.bo25 : isBool Tryz.prog 25 = false := by kernel_rfl
@[simp] theorem Tb.in25 : intT Tryz.prog 25 = none := by kernel_rfl
@[simp] theorem Tb.un25 : (Tryz.prog.underlying 25).isSome = true := by kernel_rfl
@[simp] theorem Tb.zr25 : zrT Tryz.prog 25 = [.int .i64 0, .slice none 0 0, .slice none 0 0, .slice none 0 0, .slice none 0 0] := by kernel_rfl
@[simp] theorem Tb.za25 : (Tryz.prog.info? 25).any (·.zero.isSome) = true := by kernel_rfl
@[simp] theorem Tb.zb25 : ((Tryz.prog.info? 25).bind (·.zero)).isSome = true := by kernel_rfl
@[simp] theorem Tb.el25 : elOK Tryz.prog 25 := elOK_of (by kernel_rfl)
@[simp] theorem Tb.bl25 : bldT Tryz.prog 25 = some ([.int .i64 0, .slice none 0 0, .slice none 0 0, .slice none 0 0, .slice none 0 0], [(0, 1), (1, 1), (2, 1), (3, 1), (4, 1)]) := by kernel_rfl
@[simp] theorem Tb.tk26 : tk Tryz.prog 26 = 2 := by kernel_rfl
@[simp] theorem Tb.sz26 : Program.cellsOf Tryz.prog 26 = 5 := by kernel_rfl
@[simp] theorem Tb.ff26_0 : foff Tryz.prog 26 0 = some (0, 3) := by kernel_rfl
@[simp] theorem Tb.ff26_1 : foff Tryz.prog 26 1 = some (1, 22) := by kernel_rfl
@[simp] theorem Tb.ff26_2 : foff Tryz.prog 26 2 = some (2, 23) := by kernel_rfl
@[simp] theorem Tb.ff26_3 : foff Tryz.prog 26 3 = some (3, 24) := by kernel_rfl
@[simp] theorem Tb.ff26_4 : foff Tryz.prog 26 4 = some (4, 24) := by kernel_rfl
@[simp] theorem Tb.cm26 : cmpT Tryz.prog 26 = none := by kernel_rfl
@[simp] theorem Tb.sl26 : slT Tryz.prog 26 = none := by kernel_rfl
@[simp] theorem Tb.st26 : isStr Tryz.prog 26 = false := by kernel_rfl
@[simp] theorem Tb.bo26 : isBool Tryz.prog 26 = false := by kernel_rfl
@[simp] theorem Tb.in26 : intT Tryz.prog 26 = none := by kernel_rfl
@[simp] theorem Tb.un26 : (Tryz.prog.underlying 26).isSome = true := by kernel_rfl
@[simp] theorem Tb.zr26 : zrT Tryz.prog 26 = [.int .i64 0, .slice none 0 0, .slice none 0 0, .slice none 0 0, .slice none 0 0] := by kernel_rfl
@[simp] theorem Tb.za26 : (Tryz.prog.info? 26).any (·.zero.isSome) = true := by kernel_rfl
@[simp] theorem Tb.zb26 : ((Tryz.prog.info? 26).bind (·.zero)).isSome = true := by kernel_rfl
@[simp] theorem Tb.el26 : elOK Tryz.prog 26 := elOK_of (by kernel_rfl)
@[simp] theorem Tb.bl26 : bldT Tryz.prog 26 = some ([.int .i64 0, .slice none 0 0, .slice none 0 0, .slice none 0 0, .slice none 0 0], [(0, 1), (1, 1), (2, 1), (3, 1), (4, 1)]) := by kernel_rfl
@[simp] theorem Tb.tk27 : tk Tryz.prog 27 = 1 := by kernel_rfl
@[simp] theorem Tb.sz27 : Program.cellsOf Tryz.prog 27 = 1 := by kernel_rfl
@[simp] theorem Tb.sl27 : slT Tryz.prog 27 = some 4 := by kernel_rfl
@[simp] theorem Tb.st27 : isStr Tryz.prog 27 = false := by kernel_rfl
@[simp] theorem Tb.bo27 : isBool Tryz.prog 27 = false := by kernel_rfl
@[simp] theorem Tb.in27 : intT Tryz.prog 27 = none := by kernel_rfl
@[simp] theorem Tb.un27 : (Tryz.prog.underlying 27).isSome = true := by kernel_rfl
@[simp] theorem Tb.zr27 : zrT Tryz.prog 27 = [.slice none 0 0] := by kernel_rfl
@[simp] theorem Tb.za27 : (Tryz.prog.info? 27).any (·.zero.isSome) = true := by kernel_rfl
@[simp] theorem Tb.zb27 : ((Tryz.prog.info? 27).bind (·.zero)).isSome = true := by kernel_rfl
@[simp] theorem Tb.el27 : elOK Tryz.prog 27 := elOK_of (by kernel_rfl)
@[simp] theorem Tb.tk28 : tk Tryz.prog 28 = 2 := by kernel_rfl
@[simp] theorem Tb.sz28 : Program.cellsOf Tryz.prog 28 = 5 := by kernel_rfl
@[simp] theorem Tb.ff28_0 : foff Tryz.prog 28 0 = some (0, 24) := by kernel_rfl
@[simp] theorem Tb.ff28_1 : foff Tryz.prog 28 1 = some (1, 27) := by kernel_rfl
@[simp] theorem Tb.ff28_2 : foff Tryz.prog 28 2 = some (2, 27) := by kernel_rfl
@[simp] theorem Tb.ff28_3 : foff Tryz.prog 28 3 = some (3, 27) := by kernel_rfl
@[simp] theorem Tb.ff28_4 : foff Tryz.prog 28 4 = some (4, 24) := by kernel_rfl
@[simp] theorem Tb.cm28 : cmpT Tryz.prog 28 = none := by kernel_rfl
@[simp] theorem Tb.sl28 : slT Tryz.prog 28 = none := by kernel_rfl
@[simp] theorem Tb.st28 : isStr Tryz.prog 28 = false := by kernel_rfl
@[simp] theorem Tb.bo28 : isBool Tryz.prog 28 = false := by kernel_rfl
@[simp] theorem Tb.in28 : intT Tryz.prog 28 = none := by kernel_rfl
@[simp] theorem Tb.un28 : (Tryz.prog.underlying 28).isSome = true := by kernel_rfl
@[simp] theorem Tb.zr28 : zrT Tryz.prog 28 = [.slice none 0 0, .slice none 0 0, .slice none 0 0, .slice none 0 0, .slice none 0 0] := by kernel_rfl
@[simp] theorem Tb.za28 : (Tryz.prog.info? 28).any (·.zero.isSome) = true := by kernel_rfl
@[simp] theorem Tb.zb28 : ((Tryz.prog.info? 28).bind (·.zero)).isSome = true := by kernel_rfl
@[simp] theorem Tb.el28 : elOK Tryz.prog 28 := elOK_of (by kernel_rfl)
@[simp] theorem Tb.bl28 : bldT Tryz.prog 28 = some ([.slice none 0 0, .slice none 0 0, .slice none 0 0, .slice none 0 0, .slice none 0 0], [(0, 1), (1, 1), (2, 1), (3, 1), (4, 1)]) := by kernel_rfl
@[simp] theorem Tb.tk29 : tk Tryz.prog 29 = 2 := by kernel_rfl
@[simp] theorem Tb.sz29 : Program.cellsOf Tryz.prog 29 = 5 := by kernel_rfl
@[simp] theorem Tb.ff29_0 : foff Tryz.prog 29 0 = some (0, 24) := by kernel_rfl
@[simp] theorem Tb.ff29_1 : foff Tryz.prog 29 1 = some (1, 27) := by kernel_rfl
@[simp] theorem Tb.ff29_2 : foff Tryz.prog 29 2 = some (2, 27) := by kernel_rfl
@[simp] theorem Tb.ff29_3 : foff Tryz.prog 29 3 = some (3, 27) := by kernel_rfl
@[simp] theorem Tb.ff29_4 : foff Tryz.prog 29 4 = some (4, 24) := by kernel_rfl
@[simp] theorem Tb.cm29 : cmpT Tryz.prog 29 = none := by kernel_rfl
@[simp] theorem Tb.sl29 : slT Tryz.prog 29 = none := by kernel_rfl
@[simp] theorem Tb.st29 : isStr Tryz.prog 29 = false := by kernel_rfl
@[simp] theorem Tb.bo29 : isBool Tryz.prog 29 = false := by kernel_rfl
@[simp] theorem Tb.in29 : intT Tryz.prog 29 = none := by kernel_rfl
@[simp] theorem Tb.un29 : (Tryz.prog.underlying 29).isSome = true := by kernel_rfl
@[simp] theorem Tb.zr29 : zrT Tryz.prog 29 = [.slice none 0 0, .slice none 0 0, .slice none 0 0, .slice none 0 0, .slice none 0 0] := by kernel_rfl
@[simp] theorem Tb.za29 : (Tryz.prog.info? 29).any (·.zero.isSome) = true := by kernel_rfl
@[simp] theorem Tb.zb29 : ((Tryz.prog.info? 29).bind (·.zero)).isSome = true := by kernel_rfl
@[simp] theorem Tb.el29 : elOK Tryz.prog 29 := elOK_of (by kernel_rfl)
@[simp] theorem Tb.bl29 : bldT Tryz.prog 29 = some ([.slice none 0 0, .slice none 0 0, .slice none 0 0, .slice none 0 0, .slice none 0 0], [(0, 1), (1, 1), (2, 1), (3, 1), (4, 1)]) := by kernel_rfl
@[simp] theorem Tb.tk30 : tk Tryz.prog 30 = 1 := by kernel_rfl
@[simp] theorem Tb.sz30 : Program.cellsOf Tryz.prog 30 = 1 := by kernel_rfl
@[simp] theorem Tb.sl30 : slT Tryz.prog 30 = none := by kernel_rfl
@[simp] theorem Tb.st30 : isStr Tryz.prog 30 = false := by kernel_rfl
@[simp] theorem Tb.bo30 : isBool Tryz.prog 30 = false := by kernel_rfl
@[simp] theorem Tb.in30 : intT Tryz.prog 30 = none := by kernel_rfl
@[simp] theorem Tb.un30 : (Tryz.prog.underlying 30).isSome = true := by kernel_rfl
@[simp] theorem Tb.zr30 : zrT Tryz.prog 30 = [.nilFunc] := by kernel_rfl
@[simp] theorem Tb.za30 : (Tryz.prog.info? 30).any (·.zero.isSome) = true := by kernel_rfl
@[simp] theorem Tb.zb30 : ((Tryz.prog.info? 30).bind (·.zero)).isSome = true := by kernel_rfl
@[simp] theorem Tb.el30 : elOK Tryz.prog 30 := elOK_of (by kernel_rfl)
@[simp] theorem Tb.tk31 : tk Tryz.prog 31 = 1 := by kernel_rfl
@[simp] theorem Tb.sz31 : Program.cellsOf Tryz.prog 31 = 1 := by kernel_rfl
@[simp] theorem Tb.sl31 : slT Tryz.prog 31 = none := by kernel_rfl
@[simp] theorem Tb.st31 : isStr Tryz.prog 31 = false := by kernel_rfl
@[simp] theorem Tb.bo31 : isBool Tryz.prog 31 = false := by kernel_rfl
@[simp] theorem Tb.in31 : intT Tryz.prog 31 = none := by kernel_rfl
@[simp] theorem Tb.un31 : (Tryz.prog.underlying 31).isSome = true := by kernel_rfl
@[simp] theorem Tb.zr31 : zrT Tryz.prog 31 = [.nilFunc] := by kernel_rfl
@[simp] theorem Tb.za31 : (Tryz.prog.info? 31).any (·.zero.isSome) = true := by kernel_rfl
@[simp] theorem Tb.zb31 : ((Tryz.prog.info? 31).bind (·.zero)).isSome = true := by kernel_rfl
@[simp] theorem Tb.el31 : elOK Tryz.prog 31 := elOK_of (by kernel_rfl)
@[simp] theorem Tb.tk32 : tk Tryz.prog 32 = 1 := by kernel_rfl
@[simp] theorem Tb.sz32 : Program.cellsOf Tryz.prog 32 = 1 := by kernel_rfl
@[simp] theorem Tb.sl32 : slT Tryz.prog 32 = none := by kernel_rfl
@[simp] theorem Tb.st32 : isStr Tryz.prog 32 = false := by kernel_rfl
@[simp] theorem Tb.bo32 : isBool Tryz.prog 32 = false := by kernel_rfl
@[simp] theorem Tb.in32 : intT Tryz.prog 32 = some .i64 := by kernel_rfl
@[simp] theorem Tb.un32 : (Tryz.prog.underlying 32).isSome = true := by kernel_rfl
@[simp] theorem Tb.zr32 : zrT Tryz.prog 32 = [.int .i64 0] := by kernel_rfl
@[simp] theorem Tb.za32 : (Tryz.prog.info? 32).any (·.zero.isSome) = true := by kernel_rfl
@[simp] theorem Tb.zb32 : ((Tryz.prog.info? 32).bind (·.zero)).isSome = true := by kernel_rfl
@[simp] theorem Tb.el32 : elOK Tryz.prog 32 := elOK_of (by kernel_rfl)
@[simp] theorem Tb.tk34 : tk Tryz.prog 34 = 1 := by kernel_rfl
@[simp] theorem Tb.sz34 : Program.cellsOf Tryz.prog 34 = 1 := by kernel_rfl
@[simp] theorem Tb.sl34 : slT Tryz.prog 34 = none := by kernel_rfl
@[simp] theorem Tb.st34 : isStr Tryz.prog 34 = false := by kernel_rfl
@[simp] theorem Tb.bo34 : isBool Tryz.prog 34 = false := by kernel_rfl
@[simp] theorem Tb.in34 : intT Tryz.prog 34 = none := by kernel_rfl
@[simp] theorem Tb.un34 : (Tryz.prog.underlying 34).isSome = true := by kernel_rfl
@[simp] theorem Tb.zr34 : zrT Tryz.prog 34 = [.nilFunc] := by kernel_rfl
@[simp] theorem Tb.za34 : (Tryz.prog.info? 34).any (·.zero.isSome) = true := by kernel_rfl
@[simp] theorem Tb.zb34 : ((Tryz.prog.info? 34).bind (·.zero)).isSome = true := by kernel_rfl
@[simp] theorem Tb.el34 : elOK Tryz.prog 34 := elOK_of (by kernel_rfl)
@[simp] theorem Tb.tk35 : tk Tryz.prog 35 = 1 := by kernel_rfl
@[simp] theorem Tb.sz35 : Program.cellsOf Tryz.prog 35 = 1 := by kernel_rfl
@[simp] theorem Tb.sl35 : slT Tryz.prog 35 = none := by kernel_rfl
@[simp] theorem Tb.st35 : isStr Tryz.prog 35 = false := by kernel_rfl
@[simp] theorem Tb.bo35 : isBool Tryz.prog 35 = false := by kernel_rfl
@[simp] theorem Tb.in35 : intT Tryz.prog 35 = none := by kernel_rfl
@[simp] theorem Tb.un35 : (Tryz.prog.underlying 35).isSome = true := by kernel_rfl
@[simp] theorem Tb.zr35 : zrT Tryz.prog 35 = [.nilFunc] := by kernel_rfl
@[simp] theorem Tb.za35 : (Tryz.prog.info? 35).any (·.zero.isSome) = true := by kernel_rfl
@[simp] theorem Tb.zb35 : ((Tryz.prog.info? 35).bind (·.zero)).isSome = true := by kernel_rfl
@[simp] theorem Tb.el35 : elOK Tryz.prog 35 := elOK_of (by kernel_rfl)
@[simp] theorem Tb.tk36 : tk Tryz.prog 36 = 1 := by kernel_rfl
@[simp] theorem Tb.sz36 : Program.cellsOf Tryz.prog 36 = 1 := by kernel_rfl
@[simp] theorem Tb.sl36 : slT Tryz.prog 36 = none := by kernel_rfl
@[simp] theorem Tb.st36 : isStr Tryz.prog 36 = false := by kernel_rfl
@[simp] theorem Tb.bo36 : isBool Tryz.prog 36 = false := by kernel_rfl
@[simp] theorem Tb.in36 : intT Tryz.prog 36 = none := by kernel_rfl
@[simp] theorem Tb.un36 : (Tryz.prog.underlying 36).isSome = true := by kernel_rfl
@[simp] theorem Tb.zr36 : zrT Tryz.prog 36 = [.nilFunc] := by kernel_rfl
@[simp] theorem Tb.za36 : (Tryz.prog.info? 36).any (·.zero.isSome) = true := by kernel_rfl
@[simp] theorem Tb.zb36 : ((Tryz.prog.info? 36).bind (·.zero)).isSome = true := by kernel_rfl
@[simp] theorem Tb.el36 : elOK Tryz.prog 36 := elOK_of (by kernel_rfl)
@[simp] theorem Tb.tk37 : tk Tryz.prog 37 = 1 := by kernel_rfl
@[simp] theorem Tb.sz37 : Program.cellsOf Tryz.prog 37 = 1 := by kernel_rfl
@[simp] theorem Tb.sl37 : slT Tryz.prog 37 = none := by kernel_rfl
@[simp] theorem Tb.st37 : isStr Tryz.prog 37 = false := by kernel_rfl
@[simp] theorem Tb.bo37 : isBool Tryz.prog 37 = false := by kernel_rfl
@[simp] theorem Tb.in37 : intT Tryz.prog 37 = none := by kernel_rfl
@[simp] theorem Tb.un37 : (Tryz.prog.underlying 37).isSome = true := by kernel_rfl
@[simp] theorem Tb.zr37 : zrT Tryz.prog 37 = [.nilFunc] := by kernel_rfl
@[simp] theorem Tb.za37 : (Tryz.prog.info? 37).any (·.zero.isSome) = true := by kernel_rfl
@[simp] theorem Tb.zb37 : ((Tryz.prog.info? 37).bind (·.zero)).isSome = true := by kernel_rfl
@[simp] theorem Tb.el37 : elOK Tryz.prog 37 := elOK_of (by kernel_rfl)
@[simp] theorem Tb.tk39 : tk Tryz.prog 39 = 1 := by kernel_rfl
@[simp] theorem Tb.sz39 : Program.cellsOf Tryz.prog 39 = 1 := by kernel_rfl
@[simp] theorem Tb.sl39 : slT Tryz.prog 39 = none := by kernel_rfl
@[simp] theorem Tb.st39 : isStr Tryz.prog 39 = false := by kernel_rfl
@[simp] theorem Tb.bo39 : isBool Tryz.prog 39 = false := by kernel_rfl
@[simp] theorem Tb.in39 : intT Tryz.prog 39 = none := by kernel_rfl
@[simp] theorem Tb.un39 : (Tryz.prog.underlying 39).isSome = true := by kernel_rfl
@[simp] theorem Tb.zr39 : zrT Tryz.prog 39 = [.nilFunc] := by kernel_rfl
@[simp] theorem Tb.za39 : (Tryz.prog.info? 39).any (·.zero.isSome) = true := by kernel_rfl
@[simp] theorem Tb.zb39 : ((Tryz.prog.info? 39).bind (·.zero)).isSome = true := by kernel_rfl
@[simp] theorem Tb.el39 : elOK Tryz.prog 39 := elOK_of (by kernel_rfl)
@[simp] theorem Tb.tk40 : tk Tryz.prog 40 = 1 := by kernel_rfl
@[simp] theorem Tb.sz40 : Program.cellsOf Tryz.prog 40 = 1 := by kernel_rfl
@[simp] theorem Tb.sl40 : slT Tryz.prog 40 = some 29 := by kernel_rfl
@[simp] theorem Tb.st40 : isStr Tryz.prog 40 = false := by kernel_rfl
@[simp] theorem Tb.bo40 : isBool Tryz.prog 40 = false := by kernel_rfl
@[simp] theorem Tb.in40 : intT Tryz.prog 40 = none := by kernel_rfl
@[simp] theorem Tb.un40 : (Tryz.prog.underlying 40).isSome = true := by kernel_rfl
@[simp] theorem Tb.zr40 : zrT Tryz.prog 40 = [.slice none 0 0] := by kernel_rfl
@[simp] theorem Tb.za40 : (Tryz.prog.info? 40).any (·.zero.isSome) = true := by kernel_rfl
@[simp] theorem Tb.zb40 : ((Tryz.prog.info? 40).bind (·.zero)).isSome = true := by kernel_rfl
@[simp] theorem Tb.el40 : elOK Tryz.prog 40 := elOK_of (by kernel_rfl)
@[simp] theorem Tb.tk42 : tk Tryz.prog 42 = 1 := by kernel_rfl
@[simp] theorem Tb.sz42 : Program.cellsOf Tryz.prog 42 = 1 := by kernel_rfl
@[simp] theorem Tb.sl42 : slT Tryz.prog 42 = none := by kernel_rfl
@[simp] theorem Tb.st42 : isStr Tryz.prog 42 = false := by kernel_rfl
@[simp] theorem Tb.bo42 : isBool Tryz.prog 42 = false := by kernel_rfl
@[simp] theorem Tb.in42 : intT Tryz.prog 42 = none := by kernel_rfl
@[simp] theorem Tb.un42 : (Tryz.prog.underlying 42).isSome = true := by kernel_rfl
@[simp] theorem Tb.zr42 : zrT Tryz.prog 42 = [.nilFunc] := by kernel_rfl
@[simp] theorem Tb.za42 : (Tryz.prog.info? 42).any (·.zero.isSome) = true := by kernel_rfl
@[simp] theorem Tb.zb42 : ((Tryz.prog.info? 42).bind (·.zero)).isSome = true := by kernel_rfl
@[simp] theorem Tb.el42 : elOK Tryz.prog 42 := elOK_of (by kernel_rfl)
@[simp] theorem Tb.tk44 : tk Tryz.prog 44 = 1 := by kernel_rfl
@[simp] theorem Tb.sz44 : Program.cellsOf Tryz.prog 44 = 1 := by kernel_rfl
@[simp] theorem Tb.sl44 : slT Tryz.prog 44 = none := by kernel_rfl
@[simp] theorem Tb.st44 : isStr Tryz.prog 44 = false := by kernel_rfl
@[simp] theorem Tb.bo44 : isBool Tryz.prog 44 = false := by kernel_rfl
@[simp] theorem Tb.in44 : intT Tryz.prog 44 = none := by kernel_rfl
@[simp] theorem Tb.un44 : (Tryz.prog.underlying 44).isSome = true := by kernel_rfl
@[simp] theorem Tb.zr44 : zrT Tryz.prog 44 = [.nilFunc] := by kernel_rfl
@[simp] theorem Tb.za44 : (Tryz.prog.info? 44).any (·.zero.isSome) = true := by kernel_rfl
@[simp] theorem Tb.zb44 : ((Tryz.prog.info? 44).bind (·.zero)).isSome = true := by kernel_rfl
@[simp] theorem Tb.el44 : elOK Tryz.prog 44 := elOK_of (by kernel_rfl)
@[simp] theorem Tb.tk45 : tk Tryz.prog 45 = 1 := by kernel_rfl
@[simp] theorem Tb.sz45 : Program.cellsOf Tryz.prog 45 = 1 := by kernel_rfl
@[simp] theorem Tb.sl45 : slT Tryz.prog 45 = some 47 := by kernel_rfl
@[simp] theorem Tb.st45 : isStr Tryz.prog 45 = false := by kernel_rfl
@[simp] theorem Tb.bo45 : isBool Tryz.prog 45 = false := by kernel_rfl
@[simp] theorem Tb.in45 : intT Tryz.prog 45 = none := by kernel_rfl
@[simp] theorem Tb.un45 : (Tryz.prog.underlying 45).isSome = true := by kernel_rfl
@[simp] theorem Tb.zr45 : zrT Tryz.prog 45 = [.slice none 0 0] := by kernel_rfl
@[simp] theorem Tb.za45 : (Tryz.prog.info? 45).any (·.zero.isSome) = true := by kernel_rfl
@[simp] theorem Tb.zb45 : ((Tryz.prog.info? 45).bind (·.zero)).isSome = true := by kernel_rfl
@[simp] theorem Tb.el45 : elOK Tryz.prog 45 := elOK_of (by kernel_rfl)
@[simp] theorem Tb.tk46 : tk Tryz.prog 46 = 2 := by kernel_rfl
@[simp] theorem Tb.sz46 : Program.cellsOf Tryz.prog 46 = 3 := by kernel_rfl
@[simp] theorem Tb.ff46_0 : foff Tryz.prog 46 0 = some (0, 3) := by kernel_rfl
@[simp] theorem Tb.ff46_1 : foff Tryz.prog 46 1 = some (1, 3) := by kernel_rfl
@[simp] theorem Tb.ff46_2 : foff Tryz.prog 46 2 = some (2, 45) := by kernel_rfl
@[simp] theorem Tb.cm46 : cmpT Tryz.prog 46 = none := by kernel_rfl
@[simp] theorem Tb.sl46 : slT Tryz.prog 46 = none := by kernel_rfl
@[simp] theorem Tb.st46 : isStr Tryz.prog 46 = false := by kernel_rfl
@[simp] theorem Tb.bo46 : isBool Tryz.prog 46 = false := by kernel_rfl
@[simp] theorem Tb.in46 : intT Tryz.prog 46 = none := by kernel_rfl
@[simp] theorem Tb.un46 : (Tryz.prog.underlying 46).isSome = true := by kernel_rfl
@[simp] theorem Tb.zr46 : zrT Tryz.prog 46 = [.int .i64 0, .int .i64 0, .slice none 0 0] := by kernel_rfl
@[simp] theorem Tb.za46 : (Tryz.prog.info? 46).any (·.zero.isSome) = true := by kernel_rfl
@[simp] theorem Tb.zb46 : ((Tryz.prog.info? 46).bind (·.zero)).isSome = true := by kernel_rfl
@[simp] theorem Tb.el46 : elOK Tryz.prog 46 := elOK_of (by kernel_rfl)
@[simp] theorem Tb.bl46 : bldT Tryz.prog 46 = some ([.int .i64 0, .int .i64 0, .slice none 0 0], [(0, 1), (1, 1), (2, 1)]) := by kernel_rfl
@[simp] theorem Tb.tk47 : tk Tryz.prog 47 = 2 := by kernel_rfl
@[simp] theorem Tb.sz47 : Program.cellsOf Tryz.prog 47 = 3 := by kernel_rfl
@[simp] theorem Tb.ff47_0 : foff Tryz.prog 47 0 = some (0, 3) := by kernel_rfl
@[simp] theorem Tb.ff47_1 : foff Tryz.prog 47 1 = some (1, 3) := by kernel_rfl
@[simp] theorem Tb.ff47_2 : foff Tryz.prog 47 2 = some (2, 45) := by kernel_rfl
@[simp] theorem Tb.cm47 : cmpT Tryz.prog 47 = none := by kernel_rfl
@[simp] theorem Tb.sl47 : slT Tryz.prog 47 = none := by kernel_rfl
@[simp] theorem Tb.st47 : isStr Tryz.prog 47 = false := by kernel_rfl
@[simp] theorem Tb.bo47 : isBool Tryz.prog 47 = false := by kernel_rfl
@[simp] theorem Tb.in47 : intT Tryz.prog 47 = none := by kernel_rfl
@[simp] theorem Tb.un47 : (Tryz.prog.underlying 47).isSome = true := by kernel_rfl
@[simp] theorem Tb.zr47 : zrT Tryz.prog 47 = [.int .i64 0, .int .i64 0, .slice none 0 0] := by kernel_rfl
@[simp] theorem Tb.za47 : (Tryz.prog.info? 47).any (·.zero.isSome) = true := by kernel_rfl
@[simp] theorem Tb.zb47 : ((Tryz.prog.info? 47).bind (·.zero)).isSome = true := by kernel_rfl
@[simp] theorem Tb.el47 : elOK Tryz.prog 47 := elOK_of (by kernel_rfl)
@[simp] theorem Tb.bl47 : bldT Tryz.prog 47 = some ([.int .i64 0, .int .i64 0, .slice none 0 0], [(0, 1), (1, 1), (2, 1)]) := by kernel_rfl
@[simp] theorem Tb.tk48 : tk Tryz.prog 48 = 2 := by kernel_rfl
@[simp] theorem Tb.sz48 : Program.cellsOf Tryz.prog 48 = 10 := by kernel_rfl
@[simp] theorem Tb.ff48_0 : foff Tryz.prog 48 0 = some (0, 9) := by kernel_rfl
@[simp] theorem Tb.ff48_1 : foff Tryz.prog 48 1 = some (1, 3) := by kernel_rfl
@[simp] theorem Tb.ff48_2 : foff Tryz.prog 48 2 = some (2, 47) := by kernel_rfl
@[simp] theorem Tb.ff48_3 : foff Tryz.prog 48 3 = some (5, 47) := by kernel_rfl
@[simp] theorem Tb.ff48_4 : foff Tryz.prog 48 4 = some (8, 3) := by kernel_rfl
@[simp] theorem Tb.ff48_5 : foff Tryz.prog 48 5 = some (9, 4) := by kernel_rfl
@[simp] theorem Tb.cm48 : cmpT Tryz.prog 48 = none := by kernel_rfl
@[simp] theorem Tb.sl48 : slT Tryz.prog 48 = none := by kernel_rfl
@[simp] theorem Tb.st48 : isStr Tryz.prog 48 = false := by kernel_rfl
@[simp] theorem Tb.bo48 : isBool Tryz.prog 48 = false := by kernel_rfl
@[simp] theorem Tb.in48 : intT Tryz.prog 48 = none := by kernel_rfl
@[simp] theorem Tb.un48 : (Tryz.prog.underlying 48).isSome = true := by kernel_rfl
@[simp] theorem Tb.zr48 : zrT Tryz.prog 48 = [.string ⟨#[]⟩, .int .i64 0, .int .i64 0, .int .i64 0, .slice none 0 0, .int .i64 0, .int .i64 0, .slice none 0 0, .int .i64 0, .bool false] := by kernel_rfl
@[simp] theorem Tb.za48 : (Tryz.prog.info? 48).any (·.zero.isSome) = true := by kernel_rfl
@[simp] theorem Tb.zb48 : ((Tryz.prog.info? 48).bind (·.zero)).isSome = true := by kernel_rfl
@[simp] theorem Tb.el48 : elOK Tryz.prog 48 := elOK_of (by kernel_rfl)
@[simp] theorem Tb.bl48 : bldT Tryz.prog 48 = some ([.string ⟨#[]⟩, .int .i64 0, .int .i64 0, .int .i64 0, .slice none 0 0, .int .i64 0, .int .i64 0, .slice none 0 0, .int .i64 0, .bool false], [(0, 1), (1, 1), (2, 3), (5, 3), (8, 1), (9, 1)]) := by kernel_rfl
@[simp] theorem Tb.tk49 : tk Tryz.prog 49 = 2 := by kernel_rfl
@[simp] theorem Tb.sz49 : Program.cellsOf Tryz.prog 49 = 10 := by kernel_rfl
@[simp] theorem Tb.ff49_0 : foff Tryz.prog 49 0 = some (0, 9) := by kernel_rfl
@[simp] theorem Tb.ff49_1 : foff Tryz.prog 49 1 = some (1, 3) := by kernel_rfl
@[simp] theorem Tb.ff49_2 : foff Tryz.prog 49 2 = some (2, 47) := by kernel_rfl
@[simp] theorem Tb.ff49_3 : foff Tryz.prog 49 3 = some (5, 47) := by kernel_rfl
@[simp] theorem Tb.ff49_4 : foff Tryz.prog 49 4 = some (8, 3) := by kernel_rfl
@[simp] theorem Tb.ff49_5 : foff Tryz.prog 49 5 = some (9, 4) := by kernel_rfl
@[simp] theorem Tb.cm49 : cmpT Tryz.prog 49 = none := by kernel_rfl
@[simp] theorem Tb.sl49 : slT Tryz.prog 49 = none := by kernel_rfl
@[simp] theorem Tb.st49 : isStr Tryz.prog 49 = false := by kernel_rfl
@[simp] theorem Tb.bo49 : isBool Tryz.prog 49 = false := by kernel_rfl
@[simp] theorem Tb.in49 : intT Tryz.prog 49 = none := by kernel_rfl
@[simp] theorem Tb.un49 : (Tryz.prog.underlying 49).isSome = true := by kernel_rfl
@[simp] theorem Tb.zr49 : zrT Tryz.prog 49 = [.string ⟨#[]⟩, .int .i64 0, .int .i64 0, .int .i64 0, .slice none 0 0, .int .i64 0, .int .i64 0, .slice none 0 0, .int .i64 0, .bool false] := by kernel_rfl
@[simp] theorem Tb.za49 : (Tryz.prog.info? 49).any (·.zero.isSome) = true := by kernel_rfl
@[simp] theorem Tb.zb49 : ((Tryz.prog.info? 49).bind (·.zero)).isSome = true := by kernel_rfl
@[simp] theorem Tb.el49 : elOK Tryz.prog 49 := elOK_of (by kernel_rfl)
@[simp] theorem Tb.bl49 : bldT Tryz.prog 49 = some ([.string ⟨#[]⟩, .int .i64 0, .int .i64 0, .int .i64 0, .slice none 0 0, .int .i64 0, .int .i64 0, .slice none 0 0, .int .i64 0, .bool false], [(0, 1), (1, 1), (2, 3), (5, 3), (8, 1), (9, 1)]) := by kernel_rfl
@[simp] theorem Tb.tk50 : tk Tryz.prog 50 = 1 := by kernel_rfl
@[simp] theorem Tb.sz50 : Program.cellsOf Tryz.prog 50 = 1 := by kernel_rfl
@[simp] theorem Tb.sl50 : slT Tryz.prog 50 = none := by kernel_rfl
@[simp] theorem Tb.st50 : isStr Tryz.prog 50 = false := by kernel_rfl
@[simp] theorem Tb.bo50 : isBool Tryz.prog 50 = false := by kernel_rfl
@[simp] theorem Tb.in50 : intT Tryz.prog 50 = none := by kernel_rfl
@[simp] theorem Tb.un50 : (Tryz.prog.underlying 50).isSome = true := by kernel_rfl
@[simp] theorem Tb.zr50 : zrT Tryz.prog 50 = [.nilFunc] := by kernel_rfl
@[simp] theorem Tb.za50 : (Tryz.prog.info? 50).any (·.zero.isSome) = true := by kernel_rfl
@[simp] theorem Tb.zb50 : ((Tryz.prog.info? 50).bind (·.zero)).isSome = true := by kernel_rfl
@[simp] theorem Tb.el50 : elOK Tryz.prog 50 := elOK_of (by kernel_rfl)
@[simp] theorem Tb.tk52 : tk Tryz.prog 52 = 1 := by kernel_rfl
@[simp] theorem Tb.sz52 : Program.cellsOf Tryz.prog 52 = 1 := by kernel_rfl
@[simp] theorem Tb.sl52 : slT Tryz.prog 52 = none := by kernel_rfl
@[simp] theorem Tb.st52 : isStr Tryz.prog 52 = false := by kernel_rfl
@[simp] theorem Tb.bo52 : isBool Tryz.prog 52 = false := by kernel_rfl
@[simp] theorem Tb.in52 : intT Tryz.prog 52 = none := by kernel_rfl
@[simp] theorem Tb.un52 : (Tryz.prog.underlying 52).isSome = true := by kernel_rfl
@[simp] theorem Tb.zr52 : zrT Tryz.prog 52 = [.nilFunc] := by kernel_rfl
@[simp] theorem Tb.za52 : (Tryz.prog.info? 52).any (·.zero.isSome) = true := by kernel_rfl
@[simp] theorem Tb.zb52 : ((Tryz.prog.info? 52).bind (·.zero)).isSome = true := by kernel_rfl
@[simp] theorem Tb.el52 : elOK Tryz.prog 52 := elOK_of (by kernel_rfl)
@[simp] theorem Tb.tk54 : tk Tryz.prog 54 = 1 := by kernel_rfl
@[simp] theorem Tb.sz54 : Program.cellsOf Tryz.prog 54 = 1 := by kernel_rfl
@[simp] theorem Tb.sl54 : slT Tryz.prog 54 = none := by kernel_rfl
@[simp] theorem Tb.st54 : isStr Tryz.prog 54 = false := by kernel_rfl
@[simp] theorem Tb.bo54 : isBool Tryz.prog 54 = false := by kernel_rfl
@[simp] theorem Tb.in54 : intT Tryz.prog 54 = none := by kernel_rfl
@[simp] theorem Tb.un54 : (Tryz.prog.underlying 54).isSome = true := by kernel_rfl
@[simp] theorem Tb.zr54 : zrT Tryz.prog 54 = [.nilFunc] := by kernel_rfl
@[simp] theorem Tb.za54 : (Tryz.prog.info? 54).any (·.zero.isSome) = true := by kernel_rfl
@[simp] theorem Tb.zb54 : ((Tryz.prog.info? 54).bind (·.zero)).isSome = true := by kernel_rfl
@[simp] theorem Tb.el54 : elOK Tryz.prog 54 := elOK_of (by kernel_rfl)
@[simp] theorem Tb.tk55 : tk Tryz.prog 55 = 1 := by kernel_rfl
@[simp] theorem Tb.sz55 : Program.cellsOf Tryz.prog 55 = 1 := by kernel_rfl
@[simp] theorem Tb.sl55 : slT Tryz.prog 55 = none := by kernel_rfl
@[simp] theorem Tb.st55 : isStr Tryz.prog 55 = false := by kernel_rfl
@[simp] theorem Tb.bo55 : isBool Tryz.prog 55 = false := by kernel_rfl
@[simp] theorem Tb.in55 : intT Tryz.prog 55 = none := by kernel_rfl
@[simp] theorem Tb.un55 : (Tryz.prog.underlying 55).isSome = true := by kernel_rfl
@[simp] theorem Tb.zr55 : zrT Tryz.prog 55 = [.nilFunc] := by kernel_rfl
@[simp] theorem Tb.za55 : (Tryz.prog.info? 55).any (·.zero.isSome) = true := by kernel_rfl
@[simp] theorem Tb.zb55 : ((Tryz.prog.info? 55).bind (·.zero)).isSome = true := by kernel_rfl
@[simp] theorem Tb.el55 : elOK Tryz.prog 55 := elOK_of (by kernel_rfl)
@[simp] theorem Tb.tk56 : tk Tryz.prog 56 = 1 := by kernel_rfl
@[simp] theorem Tb.sz56 : Program.cellsOf Tryz.prog 56 = 1 := by kernel_rfl
@[simp] theorem Tb.sl56 : slT Tryz.prog 56 = none := by kernel_rfl
@[simp] theorem Tb.st56 : isStr Tryz.prog 56 = false := by kernel_rfl
@[simp] theorem Tb.bo56 : isBool Tryz.prog 56 = false := by kernel_rfl
@[simp] theorem Tb.in56 : intT Tryz.prog 56 = none := by kernel_rfl
@[simp] theorem Tb.un56 : (Tryz.prog.underlying 56).isSome = true := by kernel_rfl
@[simp] theorem Tb.zr56 : zrT Tryz.prog 56 = [.nilFunc] := by kernel_rfl
@[simp] theorem Tb.za56 : (Tryz.prog.info? 56).any (·.zero.isSome) = true := by kernel_rfl
@[simp] theorem Tb.zb56 : ((Tryz.prog.info? 56).bind (·.zero)).isSome = true := by kernel_rfl
@[simp] theorem Tb.el56 : elOK Tryz.prog 56 := elOK_of (by kernel_rfl)
@[simp] theorem Tb.tk57 : tk Tryz.prog 57 = 1 := by kernel_rfl
@[simp] theorem Tb.sz57 : Program.cellsOf Tryz.prog 57 = 1 := by kernel_rfl
@[simp] theorem Tb.sl57 : slT Tryz.prog 57 = none := by kernel_rfl
@[simp] theorem Tb.st57 : isStr Tryz.prog 57 = false := by kernel_rfl
@[simp] theorem Tb.bo57 : isBool Tryz.prog 57 = false := by kernel_rfl
@[simp] theorem Tb.in57 : intT Tryz.prog 57 = none := by kernel_rfl
@[simp] theorem Tb.un57 : (Tryz.prog.underlying 57).isSome = true := by kernel_rfl
@[simp] theorem Tb.zr57 : zrT Tryz.prog 57 = [.nilFunc] := by kernel_rfl
@[simp] theorem Tb.za57 : (Tryz.prog.info? 57).any (·.zero.isSome) = true := by kernel_rfl
@[simp] theorem Tb.zb57 : ((Tryz.prog.info? 57).bind (·.zero)).isSome = true := by kernel_rfl
@[simp] theorem Tb.el57 : elOK Tryz.prog 57 := elOK_of (by kernel_rfl)
@[simp] theorem Tb.tk59 : tk Tryz.prog 59 = 1 := by kernel_rfl
@[simp] theorem Tb.sz59 : Program.cellsOf Tryz.prog 59 = 1 := by kernel_rfl
@[simp] theorem Tb.sl59 : slT Tryz.prog 59 = none := by kernel_rfl
@[simp] theorem Tb.st59 : isStr Tryz.prog 59 = false := by kernel_rfl
@[simp] theorem Tb.bo59 : isBool Tryz.prog 59 = false := by kernel_rfl
@[simp] theorem Tb.in59 : intT Tryz.prog 59 = none := by kernel_rfl
@[simp] theorem Tb.un59 : (Tryz.prog.underlying 59).isSome = true := by kernel_rfl
@[simp] theorem Tb.zr59 : zrT Tryz.prog 59 = [.nilFunc] := by kernel_rfl
@[simp] theorem Tb.za59 : (Tryz.prog.info? 59).any (·.zero.isSome) = true := by kernel_rfl
@[simp] theorem Tb.zb59 : ((Tryz.prog.info? 59).bind (·.zero)).isSome = true := by kernel_rfl
@[simp] theorem Tb.el59 : elOK Tryz.prog 59 := elOK_of (by kernel_rfl)
@[simp] theorem Tb.tk60 : tk Tryz.prog 60 = 1 := by kernel_rfl
@[simp] theorem Tb.sz60 : Program.cellsOf Tryz.prog 60 = 1 := by kernel_rfl
@[simp] theorem Tb.sl60 : slT Tryz.prog 60 = none := by kernel_rfl
@[simp] theorem Tb.st60 : isStr Tryz.prog 60 = false := by kernel_rfl
@[simp] theorem Tb.bo60 : isBool Tryz.prog 60 = false := by kernel_rfl
@[simp] theorem Tb.in60 : intT Tryz.prog 60 = none := by kernel_rfl
@[simp] theorem Tb.un60 : (Tryz.prog.underlying 60).isSome = true := by kernel_rfl
@[simp] theorem Tb.zr60 : zrT Tryz.prog 60 = [.nilFunc] := by kernel_rfl
@[simp] theorem Tb.za60 : (Tryz.prog.info? 60).any (·.zero.isSome) = true := by kernel_rfl
@[simp] theorem Tb.zb60 : ((Tryz.prog.info? 60).bind (·.zero)).isSome = true := by kernel_rfl
@[simp] theorem Tb.el60 : elOK Tryz.prog 60 := elOK_of (by kernel_rfl)
@[simp] theorem Tb.tk61 : tk Tryz.prog 61 = 1 := by kernel_rfl
@[simp] theorem Tb.sz61 : Program.cellsOf Tryz.prog 61 = 1 := by kernel_rfl
@[simp] theorem Tb.sl61 : slT Tryz.prog 61 = none := by kernel_rfl
@[simp] theorem Tb.st61 : isStr Tryz.prog 61 = false := by kernel_rfl
@[simp] theorem Tb.bo61 : isBool Tryz.prog 61 = false := by kernel_rfl
@[simp] theorem Tb.in61 : intT Tryz.prog 61 = none := by kernel_rfl
@[simp] theorem Tb.un61 : (Tryz.prog.underlying 61).isSome = true := by kernel_rfl
@[simp] theorem Tb.zr61 : zrT Tryz.prog 61 = [.nilFunc] := by kernel_rfl
@[simp] theorem Tb.za61 : (Tryz.prog.info? 61).any (·.zero.isSome) = true := by kernel_rfl
@[simp] theorem Tb.zb61 : ((Tryz.prog.info? 61).bind (·.zero)).isSome = true := by kernel_rfl
@[simp] theorem Tb.el61 : elOK Tryz.prog 61 := elOK_of (by kernel_rfl)
@[simp] theorem Tb.tk63 : tk Tryz.prog 63 = 1 := by kernel_rfl
@[simp] theorem Tb.sz63 : Program.cellsOf Tryz.prog 63 = 1 := by kernel_rfl
@[simp] theorem Tb.sl63 : slT Tryz.prog 63 = none := by kernel_rfl
@[simp] theorem Tb.st63 : isStr Tryz.prog 63 = false := by kernel_rfl
@[simp] theorem Tb.bo63 : isBool Tryz.prog 63 = false := by kernel_rfl
@[simp] theorem Tb.in63 : intT Tryz.prog 63 = none := by kernel_rfl
@[simp] theorem Tb.un63 : (Tryz.prog.underlying 63).isSome = true := by kernel_rfl
@[simp] theorem Tb.zr63 : zrT Tryz.prog 63 = [.nilFunc] := by kernel_rfl
@[simp] theorem Tb.za63 : (Tryz.prog.info? 63).any (·.zero.isSome) = true := by kernel_rfl
@[simp] theorem Tb.zb63 : ((Tryz.prog.info? 63).bind (·.zero)).isSome = true := by kernel_rfl
@[simp] theorem Tb.el63 : elOK Tryz.prog 63 := elOK_of (by kernel_rfl)
@[simp] theorem Tb.tk65 : tk Tryz.prog 65 = 1 := by kernel_rfl
@[simp] theorem Tb.sz65 : Program.cellsOf Tryz.prog 65 = 1 := by kernel_rfl
@[simp] theorem Tb.sl65 : slT Tryz.prog 65 = none := by kernel_rfl
@[simp] theorem Tb.st65 : isStr Tryz.prog 65 = false := by kernel_rfl
@[simp] theorem Tb.bo65 : isBool Tryz.prog 65 = false := by kernel_rfl
@[simp] theorem Tb.in65 : intT Tryz.prog 65 = none := by kernel_rfl
@[simp] theorem Tb.un65 : (Tryz.prog.underlying 65).isSome = true := by kernel_rfl
@[simp] theorem Tb.zr65 : zrT Tryz.prog 65 = [.nilFunc] := by kernel_rfl
@[simp] theorem Tb.za65 : (Tryz.prog.info? 65).any (·.zero.isSome) = true := by kernel_rfl
@[simp] theorem Tb.zb65 : ((Tryz.prog.info? 65).bind (·.zero)).isSome = true := by kernel_rfl
@[simp] theorem Tb.el65 : elOK Tryz.prog 65 := elOK_of (by kernel_rfl)
@[simp] theorem Tb.tk66 : tk Tryz.prog 66 = 1 := by kernel_rfl
@[simp] theorem Tb.sz66 : Program.cellsOf Tryz.prog 66 = 1 := by kernel_rfl
@[simp] theorem Tb.sl66 : slT Tryz.prog 66 = none := by kernel_rfl
@[simp] theorem Tb.st66 : isStr Tryz.prog 66 = false := by kernel_rfl
@[simp] theorem Tb.bo66 : isBool Tryz.prog 66 = false := by kernel_rfl
@[simp] theorem Tb.in66 : intT Tryz.prog 66 = none := by kernel_rfl
@[simp] theorem Tb.un66 : (Tryz.prog.underlying 66).isSome = true := by kernel_rfl
@[simp] theorem Tb.zr66 : zrT Tryz.prog 66 = [.nilFunc] := by kernel_rfl
@[simp] theorem Tb.za66 : (Tryz.prog.info? 66).any (·.zero.isSome) = true := by kernel_rfl
@[simp] theorem Tb.zb66 : ((Tryz.prog.info? 66).bind (·.zero)).isSome = true := by kernel_rfl
@[simp] theorem Tb.el66 : elOK Tryz.prog 66 := elOK_of (by kernel_rfl)
@[simp] theorem Tb.tk67 : tk Tryz.prog 67 = 1 := by kernel_rfl
@[simp] theorem Tb.sz67 : Program.cellsOf Tryz.prog 67 = 1 := by kernel_rfl
@[simp] theorem Tb.sl67 : slT Tryz.prog 67 = none := by kernel_rfl
@[simp] theorem Tb.st67 : isStr Tryz.prog 67 = false := by kernel_rfl
@[simp] theorem Tb.bo67 : isBool Tryz.prog 67 = false := by kernel_rfl
@[simp] theorem Tb.in67 : intT Tryz.prog 67 = none := by kernel_rfl
@[simp] theorem Tb.un67 : (Tryz.prog.underlying 67).isSome = true := by kernel_rfl
@[simp] theorem Tb.zr67 : zrT Tryz.prog 67 = [.nilFunc] := by kernel_rfl
@[simp] theorem Tb.za67 : (Tryz.prog.info? 67).any (·.zero.isSome) = true := by kernel_rfl
@[simp] theorem Tb.zb67 : ((Tryz.prog.info? 67).bind (·.zero)).isSome = true := by kernel_rfl
@[simp] theorem Tb.el67 : elOK Tryz.prog 67 := elOK_of (by kernel_rfl)
@[simp] theorem Tb.tk68 : tk Tryz.prog 68 = 1 := by kernel_rfl
@[simp] theorem Tb.sz68 : Program.cellsOf Tryz.prog 68 = 1 := by kernel_rfl
@[simp] theorem Tb.sl68 : slT Tryz.prog 68 = none := by kernel_rfl
@[simp] theorem Tb.st68 : isStr Tryz.prog 68 = false := by kernel_rfl
@[simp] theorem Tb.bo68 : isBool Tryz.prog 68 = false := by kernel_rfl
@[simp] theorem Tb.in68 : intT Tryz.prog 68 = none := by kernel_rfl
@[simp] theorem Tb.un68 : (Tryz.prog.underlying 68).isSome = true := by kernel_rfl
@[simp] theorem Tb.zr68 : zrT Tryz.prog 68 = [.nilFunc] := by kernel_rfl
@[simp] theorem Tb.za68 : (Tryz.prog.info? 68).any (·.zero.isSome) = true := by kernel_rfl
@[simp] theorem Tb.zb68 : ((Tryz.prog.info? 68).bind (·.zero)).isSome = true := by kernel_rfl
@[simp] theorem Tb.el68 : elOK Tryz.prog 68 := elOK_of (by kernel_rfl)
@[simp] theorem Tb.tk70 : tk Tryz.prog 70 = 1 := by kernel_rfl
@[simp] theorem Tb.sz70 : Program.cellsOf Tryz.prog 70 = 1 := by kernel_rfl
@[simp] theorem Tb.sl70 : slT Tryz.prog 70 = none := by kernel_rfl
@[simp] theorem Tb.st70 : isStr Tryz.prog 70 = false := by kernel_rfl
@[simp] theorem Tb.bo70 : isBool Tryz.prog 70 = false := by kernel_rfl
@[simp] theorem Tb.in70 : intT Tryz.prog 70 = none := by kernel_rfl
@[simp] theorem Tb.un70 : (Tryz.prog.underlying 70).isSome = true := by kernel_rfl
@[simp] theorem Tb.zr70 : zrT Tryz.prog 70 = [.nilFunc] := by kernel_rfl
@[simp] theorem Tb.za70 : (Tryz.prog.info? 70).any (·.zero.isSome) = true := by kernel_rfl
@[simp] theorem Tb.zb70 : ((Tryz.prog.info? 70).bind (·.zero)).isSome = true := by kernel_rfl
@[simp] theorem Tb.el70 : elOK Tryz.prog 70 := elOK_of (by kernel_rfl)
@[simp] theorem Tb.tk71 : tk Tryz.prog 71 = 1 := by kernel_rfl
@[simp] theorem Tb.sz71 : Program.cellsOf Tryz.prog 71 = 1 := by kernel_rfl
@[simp] theorem Tb.sl71 : slT Tryz.prog 71 = none := by kernel_rfl
@[simp] theorem Tb.st71 : isStr Tryz.prog 71 = false := by kernel_rfl
@[simp] theorem Tb.bo71 : isBool Tryz.prog 71 = false := by kernel_rfl
@[simp] theorem Tb.in71 : intT Tryz.prog 71 = none := by kernel_rfl
@[simp] theorem Tb.un71 : (Tryz.prog.underlying 71).isSome = true := by kernel_rfl
@[simp] theorem Tb.zr71 : zrT Tryz.prog 71 = [.nilFunc] := by kernel_rfl
@[simp] theorem Tb.za71 : (Tryz.prog.info? 71).any (·.zero.isSome) = true := by kernel_rfl
@[simp] theorem Tb.zb71 : ((Tryz.prog.info? 71).bind (·.zero)).isSome = true := by kernel_rfl
@[simp] theorem Tb.el71 : elOK Tryz.prog 71 := elOK_of (by kernel_rfl)
@[simp] theorem Tb.tk72 : tk Tryz.prog 72 = 1 := by kernel_rfl
@[simp] theorem Tb.sz72 : Program.cellsOf Tryz.prog 72 = 1 := by kernel_rfl
@[simp] theorem Tb.sl72 : slT Tryz.prog 72 = none := by kernel_rfl
@[simp] theorem Tb.st72 : isStr Tryz.prog 72 = false := by kernel_rfl
@[simp] theorem Tb.bo72 : isBool Tryz.prog 72 = false := by kernel_rfl
@[simp] theorem Tb.in72 : intT Tryz.prog 72 = none := by kernel_rfl
@[simp] theorem Tb.un72 : (Tryz.prog.underlying 72).isSome = true := by kernel_rfl
@[simp] theorem Tb.zr72 : zrT Tryz.prog 72 = [.nilFunc] := by kernel_rfl
@[simp] theorem Tb.za72 : (Tryz.prog.info? 72).any (·.zero.isSome) = true := by kernel_rfl
@[simp] theorem Tb.zb72 : ((Tryz.prog.info? 72).bind (·.zero)).isSome = true := by kernel_rfl
@[simp] theorem Tb.el72 : elOK Tryz.prog 72 := elOK_of (by kernel_rfl)
@[simp] theorem Tb.tk73 : tk Tryz.prog 73 = 1 := by kernel_rfl
@[simp] theorem Tb.sz73 : Program.cellsOf Tryz.prog 73 = 1 := by kernel_rfl
@[simp] theorem Tb.sl73 : slT Tryz.prog 73 = none := by kernel_rfl
@[simp] theorem Tb.st73 : isStr Tryz.prog 73 = false := by kernel_rfl
@[simp] theorem Tb.bo73 : isBool Tryz.prog 73 = false := by kernel_rfl
@[simp] theorem Tb.in73 : intT Tryz.prog 73 = none := by kernel_rfl
@[simp] theorem Tb.un73 : (Tryz.prog.underlying 73).isSome = true := by kernel_rfl
@[simp] theorem Tb.zr73 : zrT Tryz.prog 73 = [.nilFunc] := by kernel_rfl
@[simp] theorem Tb.za73 : (Tryz.prog.info? 73).any (·.zero.isSome) = true := by kernel_rfl
@[simp] theorem Tb.zb73 : ((Tryz.prog.info? 73).bind (·.zero)).isSome = true := by kernel_rfl
@[simp] theorem Tb.el73 : elOK Tryz.prog 73 := elOK_of (by kernel_rfl)
@[simp] theorem Tb.tk75 : tk Tryz.prog 75 = 1 := by kernel_rfl
@[simp] theorem Tb.sz75 : Program.cellsOf Tryz.prog 75 = 1 := by kernel_rfl
@[simp] theorem Tb.sl75 : slT Tryz.prog 75 = none := by kernel_rfl
@[simp] theorem Tb.st75 : isStr Tryz.prog 75 = false := by kernel_rfl
@[simp] theorem Tb.bo75 : isBool Tryz.prog 75 = false := by kernel_rfl
@[simp] theorem Tb.in75 : intT Tryz.prog 75 = none := by kernel_rfl
@[simp] theorem Tb.un75 : (Tryz.prog.underlying 75).isSome = true := by kernel_rfl
@[simp] theorem Tb.zr75 : zrT Tryz.prog 75 = [.nilFunc] := by kernel_rfl
@[simp] theorem Tb.za75 : (Tryz.prog.info? 75).any (·.zero.isSome) = true := by kernel_rfl
@[simp] theorem Tb.zb75 : ((Tryz.prog.info? 75).bind (·.zero)).isSome = true := by kernel_rfl
@[simp] theorem Tb.el75 : elOK Tryz.prog 75 := elOK_of (by kernel_rfl)
@[simp] theorem Tb.tk77 : tk Tryz.prog 77 = 1 := by kernel_rfl
@[simp] theorem Tb.sz77 : Program.cellsOf Tryz.prog 77 = 1 := by kernel_rfl
@[simp] theorem Tb.sl77 : slT Tryz.prog 77 = none := by kernel_rfl
@[simp] theorem Tb.st77 : isStr Tryz.prog 77 = false := by kernel_rfl
@[simp] theorem Tb.bo77 : isBool Tryz.prog 77 = false := by kernel_rfl
@[simp] theorem Tb.in77 : intT Tryz.prog 77 = none := by kernel_rfl
@[simp] theorem Tb.un77 : (Tryz.prog.underlying 77).isSome = true := by kernel_rfl
@[simp] theorem Tb.zr77 : zrT Tryz.prog 77 = [.nilFunc] := by kernel_rfl
@[simp] theorem Tb.za77 : (Tryz.prog.info? 77).any (·.zero.isSome) = true := by kernel_rfl
@[simp] theorem Tb.zb77 : ((Tryz.prog.info? 77).bind (·.zero)).isSome = true := by kernel_rfl
@[simp] theorem Tb.el77 : elOK Tryz.prog 77 := elOK_of (by kernel_rfl)
@[simp] theorem Tb.tk78 : tk Tryz.prog 78 = 1 := by kernel_rfl
@[simp] theorem Tb.sz78 : Program.cellsOf Tryz.prog 78 = 1 := by kernel_rfl
@[simp] theorem Tb.sl78 : slT Tryz.prog 78 = none := by kernel_rfl
@[simp] theorem Tb.st78 : isStr Tryz.prog 78 = false := by kernel_rfl
@[simp] theorem Tb.bo78 : isBool Tryz.prog 78 = false := by kernel_rfl
@[simp] theorem Tb.in78 : intT Tryz.prog 78 = none := by kernel_rfl
@[simp] theorem Tb.un78 : (Tryz.prog.underlying 78).isSome = true := by kernel_rfl
@[simp] theorem Tb.zr78 : zrT Tryz.prog 78 = [.pointer none] := by kernel_rfl
@[simp] theorem Tb.za78 : (Tryz.prog.info? 78).any (·.zero.isSome) = true := by kernel_rfl
@[simp] theorem Tb.zb78 : ((Tryz.prog.info? 78).bind (·.zero)).isSome = true := by kernel_rfl
@[simp] theorem Tb.el78 : elOK Tryz.prog 78 := elOK_of (by kernel_rfl)
@[simp] theorem Tb.tk80 : tk Tryz.prog 80 = 1 := by kernel_rfl
@[simp] theorem Tb.sz80 : Program.cellsOf Tryz.prog 80 = 1 := by kernel_rfl
@[simp] theorem Tb.sl80 : slT Tryz.prog 80 = none := by kernel_rfl
@[simp] theorem Tb.st80 : isStr Tryz.prog 80 = false := by kernel_rfl
@[simp] theorem Tb.bo80 : isBool Tryz.prog 80 = false := by kernel_rfl
@[simp] theorem Tb.in80 : intT Tryz.prog 80 = none := by kernel_rfl
@[simp] theorem Tb.un80 : (Tryz.prog.underlying 80).isSome = true := by kernel_rfl
@[simp] theorem Tb.zr80 : zrT Tryz.prog 80 = [.nilFunc] := by kernel_rfl
@[simp] theorem Tb.za80 : (Tryz.prog.info? 80).any (·.zero.isSome) = true := by kernel_rfl
@[simp] theorem Tb.zb80 : ((Tryz.prog.info? 80).bind (·.zero)).isSome = true := by kernel_rfl
@[simp] theorem Tb.el80 : elOK Tryz.prog 80 := elOK_of (by kernel_rfl)
@[simp] theorem Tb.tk81 : tk Tryz.prog 81 = 1 := by kernel_rfl
@[simp] theorem Tb.sz81 : Program.cellsOf Tryz.prog 81 = 1 := by kernel_rfl
@[simp] theorem Tb.sl81 : slT Tryz.prog 81 = none := by kernel_rfl
@[simp] theorem Tb.st81 : isStr Tryz.prog 81 = false := by kernel_rfl
@[simp] theorem Tb.bo81 : isBool Tryz.prog 81 = false := by kernel_rfl
@[simp] theorem Tb.in81 : intT Tryz.prog 81 = none := by kernel_rfl
@[simp] theorem Tb.un81 : (Tryz.prog.underlying 81).isSome = true := by kernel_rfl
@[simp] theorem Tb.zr81 : zrT Tryz.prog 81 = [.nilFunc] := by kernel_rfl
@[simp] theorem Tb.za81 : (Tryz.prog.info? 81).any (·.zero.isSome) = true := by kernel_rfl
@[simp] theorem Tb.zb81 : ((Tryz.prog.info? 81).bind (·.zero)).isSome = true := by kernel_rfl
@[simp] theorem Tb.el81 : elOK Tryz.prog 81 := elOK_of (by kernel_rfl)
@[simp] theorem Tb.tk82 : tk Tryz.prog 82 = 1 := by kernel_rfl
@[simp] theorem Tb.sz82 : Program.cellsOf Tryz.prog 82 = 1 := by kernel_rfl
@[simp] theorem Tb.sl82 : slT Tryz.prog 82 = none := by kernel_rfl
@[simp] theorem Tb.st82 : isStr Tryz.prog 82 = false := by kernel_rfl
@[simp] theorem Tb.bo82 : isBool Tryz.prog 82 = false := by kernel_rfl
@[simp] theorem Tb.in82 : intT Tryz.prog 82 = none := by kernel_rfl
@[simp] theorem Tb.un82 : (Tryz.prog.underlying 82).isSome = true := by kernel_rfl
@[simp] theorem Tb.zr82 : zrT Tryz.prog 82 = [.nilFunc] := by kernel_rfl
@[simp] theorem Tb.za82 : (Tryz.prog.info? 82).any (·.zero.isSome) = true := by kernel_rfl
@[simp] theorem Tb.zb82 : ((Tryz.prog.info? 82).bind (·.zero)).isSome = true := by kernel_rfl
@[simp] theorem Tb.el82 : elOK Tryz.prog 82 := elOK_of (by kernel_rfl)
@[simp] theorem Tb.tk83 : tk Tryz.prog 83 = 1 := by kernel_rfl
@[simp] theorem Tb.sz83 : Program.cellsOf Tryz.prog 83 = 1 := by kernel_rfl
@[simp] theorem Tb.sl83 : slT Tryz.prog 83 = none := by kernel_rfl
@[simp] theorem Tb.st83 : isStr Tryz.prog 83 = false := by kernel_rfl
@[simp] theorem Tb.bo83 : isBool Tryz.prog 83 = false := by kernel_rfl
@[simp] theorem Tb.in83 : intT Tryz.prog 83 = none := by kernel_rfl
@[simp] theorem Tb.un83 : (Tryz.prog.underlying 83).isSome = true := by kernel_rfl
@[simp] theorem Tb.zr83 : zrT Tryz.prog 83 = [.nilFunc] := by kernel_rfl
@[simp] theorem Tb.za83 : (Tryz.prog.info? 83).any (·.zero.isSome) = true := by kernel_rfl
@[simp] theorem Tb.zb83 : ((Tryz.prog.info? 83).bind (·.zero)).isSome = true := by kernel_rfl
@[simp] theorem Tb.el83 : elOK Tryz.prog 83 := elOK_of (by kernel_rfl)
@[simp] theorem Tb.tk84 : tk Tryz.prog 84 = 2 := by kernel_rfl
@[simp] theorem Tb.sz84 : Program.cellsOf Tryz.prog 84 = 11 := by kernel_rfl
@[simp] theorem Tb.ff84_0 : foff Tryz.prog 84 0 = some (0, 26) := by kernel_rfl
@[simp] theorem Tb.ff84_1 : foff Tryz.prog 84 1 = some (5, 29) := by kernel_rfl
@[simp] theorem Tb.ff84_2 : foff Tryz.prog 84 2 = some (10, 3) := by kernel_rfl
@[simp] theorem Tb.cm84 : cmpT Tryz.prog 84 = none := by kernel_rfl
@[simp] theorem Tb.sl84 : slT Tryz.prog 84 = none := by kernel_rfl
@[simp] theorem Tb.st84 : isStr Tryz.prog 84 = false := by kernel_rfl
@[simp] theorem Tb.bo84 : isBool Tryz.prog 84 = false := by kernel_rfl
@[simp] theorem Tb.in84 : intT Tryz.prog 84 = none := by kernel_rfl
@[simp] theorem Tb.un84 : (Tryz.prog.underlying 84).isSome = true := by kernel_rfl
@[simp] theorem Tb.zr84 : zrT Tryz.prog 84 = [.int .i64 0, .slice none 0 0, .slice none 0 0, .slice none 0 0, .slice none 0 0, .slice none 0 0, .slice none 0 0, .slice none 0 0, .slice none 0 0, .slice none 0 0, .int .i64 0] := by kernel_rfl
@[simp] theorem Tb.za84 : (Tryz.prog.info? 84).any (·.zero.isSome) = true := by kernel_rfl
@[simp] theorem Tb.zb84 : ((Tryz.prog.info? 84).bind (·.zero)).isSome = true := by kernel_rfl
@[simp] theorem Tb.el84 : elOK Tryz.prog 84 := elOK_of (by kernel_rfl)
@[simp] theorem Tb.bl84 : bldT Tryz.prog 84 = some ([.int .i64 0, .slice none 0 0, .slice none 0 0, .slice none 0 0, .slice none 0 0, .slice none 0 0, .slice none 0 0, .slice none 0 0, .slice none 0 0, .slice none 0 0, .int .i64 0], [(0, 5), (5, 5), (10, 1)]) := by kernel_rfl
@[simp] theorem Tb.tk85 : tk Tryz.prog 85 = 2 := by kernel_rfl
@[simp] theorem Tb.sz85 : Program.cellsOf Tryz.prog 85 = 11 := by kernel_rfl
@[simp] theorem Tb.ff85_0 : foff Tryz.prog 85 0 = some (0, 26) := by kernel_rfl
@[simp] theorem Tb.ff85_1 : foff Tryz.prog 85 1 = some (5, 29) := by kernel_rfl
@[simp] theorem Tb.ff85_2 : foff Tryz.prog 85 2 = some (10, 3) := by kernel_rfl
@[simp] theorem Tb.cm85 : cmpT Tryz.prog 85 = none := by kernel_rfl
@[simp] theorem Tb.sl85 : slT Tryz.prog 85 = none := by kernel_rfl
@[simp] theorem Tb.st85 : isStr Tryz.prog 85 = false := by kernel_rfl
@[simp] theorem Tb.bo85 : isBool Tryz.prog 85 = false := by kernel_rfl
@[simp] theorem Tb.in85 : intT Tryz.prog 85 = none := by kernel_rfl
@[simp] theorem Tb.un85 : (Tryz.prog.underlying 85).isSome = true := by kernel_rfl
@[simp] theorem Tb.zr85 : zrT Tryz.prog 85 = [.int .i64 0, .slice none 0 0, .slice none 0 0, .slice none 0 0, .slice none 0 0, .slice none 0 0, .slice none 0 0, .slice none 0 0, .slice none 0 0, .slice none 0 0, .int .i64 0] := by kernel_rfl
@[simp] theorem Tb.za85 : (Tryz.prog.info? 85).any (·.zero.isSome) = true := by kernel_rfl
@[simp] theorem Tb.zb85 : ((Tryz.prog.info? 85).bind (·.zero)).isSome = true := by kernel_rfl
@[simp] theorem Tb.el85 : elOK Tryz.prog 85 := elOK_of (by kernel_rfl)
@[simp] theorem Tb.bl85 : bldT Tryz.prog 85 = some ([.int .i64 0, .slice none 0 0, .slice none 0 0, .slice none 0 0, .slice none 0 0, .slice none 0 0, .slice none 0 0, .slice none 0 0, .slice none 0 0, .slice none 0 0, .int .i64 0], [(0, 5), (5, 5), (10, 1)]) := by kernel_rfl
@[simp] theorem Tb.tk86 : tk Tryz.prog 86 = 1 := by kernel_rfl
@[simp] theorem Tb.sz86 : Program.cellsOf Tryz.prog 86 = 1 := by kernel_rfl
@[simp] theorem Tb.sl86 : slT Tryz.prog 86 = none := by kernel_rfl
@[simp] theorem Tb.st86 : isStr Tryz.prog 86 = false := by kernel_rfl
@[simp] theorem Tb.bo86 : isBool Tryz.prog 86 = false := by kernel_rfl
@[simp] theorem Tb.in86 : intT Tryz.prog 86 = none := by kernel_rfl
@[simp] theorem Tb.un86 : (Tryz.prog.underlying 86).isSome = true := by kernel_rfl
@[simp] theorem Tb.zr86 : zrT Tryz.prog 86 = [.nilFunc] := by kernel_rfl
@[simp] theorem Tb.za86 : (Tryz.prog.info? 86).any (·.zero.isSome) = true := by kernel_rfl
@[simp] theorem Tb.zb86 : ((Tryz.prog.info? 86).bind (·.zero)).isSome = true := by kernel_rfl
@[simp] theorem Tb.el86 : elOK Tryz.prog 86 := elOK_of (by kernel_rfl)
@[simp] theorem Tb.tk87 : tk Tryz.prog 87 = 1 := by kernel_rfl
@[simp] theorem Tb.sz87 : Program.cellsOf Tryz.prog 87 = 1 := by kernel_rfl
@[simp] theorem Tb.sl87 : slT Tryz.prog 87 = none := by kernel_rfl
@[simp] theorem Tb.st87 : isStr Tryz.prog 87 = false := by kernel_rfl
@[simp] theorem Tb.bo87 : isBool Tryz.prog 87 = false := by kernel_rfl
@[simp] theorem Tb.in87 : intT Tryz.prog 87 = none := by kernel_rfl
@[simp] theorem Tb.un87 : (Tryz.prog.underlying 87).isSome = true := by kernel_rfl
@[simp] theorem Tb.zr87 : zrT Tryz.prog 87 = [.nilFunc] := by kernel_rfl
@[simp] theorem Tb.za87 : (Tryz.prog.info? 87).any (·.zero.isSome) = true := by kernel_rfl
@[simp] theorem Tb.zb87 : ((Tryz.prog.info? 87).bind (·.zero)).isSome = true := by kernel_rfl
@[simp] theorem Tb.el87 : elOK Tryz.prog 87 := elOK_of (by kernel_rfl)
@[simp] theorem Tb.tk88 : tk Tryz.prog 88 = 1 := by kernel_rfl
@[simp] theorem Tb.sz88 : Program.cellsOf Tryz.prog 88 = 1 := by kernel_rfl
@[simp] theorem Tb.sl88 : slT Tryz.prog 88 = some 91 := by kernel_rfl
@[simp] theorem Tb.st88 : isStr Tryz.prog 88 = false := by kernel_rfl
@[simp] theorem Tb.bo88 : isBool Tryz.prog 88 = false := by kernel_rfl
@[simp] theorem Tb.in88 : intT Tryz.prog 88 = none := by kernel_rfl
@[simp] theorem Tb.un88 : (Tryz.prog.underlying 88).isSome = true := by kernel_rfl
@[simp] theorem Tb.zr88 : zrT Tryz.prog 88 = [.slice none 0 0] := by kernel_rfl
@[simp] theorem Tb.za88 : (Tryz.prog.info? 88).any (·.zero.isSome) = true := by kernel_rfl
@[simp] theorem Tb.zb88 : ((Tryz.prog.info? 88).bind (·.zero)).isSome = true := by kernel_rfl
@[simp] theorem Tb.el88 : elOK Tryz.prog 88 := elOK_of (by kernel_rfl)
@[simp] theorem Tb.tk89 : tk Tryz.prog 89 = 1 := by kernel_rfl
@[simp] theorem Tb.sz89 : Program.cellsOf Tryz.prog 89 = 1 := by kernel_rfl
@[simp] theorem Tb.sl89 : slT Tryz.prog 89 = none := by kernel_rfl
@[simp] theorem Tb.st89 : isStr Tryz.prog 89 = false := by kernel_rfl
@[simp] theorem Tb.bo89 : isBool Tryz.prog 89 = false := by kernel_rfl
@[simp] theorem Tb.in89 : intT Tryz.prog 89 = none := by kernel_rfl
@[simp] theorem Tb.un89 : (Tryz.prog.underlying 89).isSome = true := by kernel_rfl
@[simp] theorem Tb.zr89 : zrT Tryz.prog 89 = [.nilFunc] := by kernel_rfl
@[simp] theorem Tb.za89 : (Tryz.prog.info? 89).any (·.zero.isSome) = true := by kernel_rfl
@[simp] theorem Tb.zb89 : ((Tryz.prog.info? 89).bind (·.zero)).isSome = true := by kernel_rfl
@[simp] theorem Tb.el89 : elOK Tryz.prog 89 := elOK_of (by kernel_rfl)
@[simp] theorem Tb.tk90 : tk Tryz.prog 90 = 2 := by kernel_rfl
@[simp] theorem Tb.sz90 : Program.cellsOf Tryz.prog 90 = 3 := by kernel_rfl
@[simp] theorem Tb.ff90_0 : foff Tryz.prog 90 0 = some (0, 3) := by kernel_rfl
@[simp] theorem Tb.ff90_1 : foff Tryz.prog 90 1 = some (1, 3) := by kernel_rfl
@[simp] theorem Tb.ff90_2 : foff Tryz.prog 90 2 = some (2, 4) := by kernel_rfl
@[simp] theorem Tb.cm90 : cmpT Tryz.prog 90 = some [.int .i64, .int .i64, .bool] := by kernel_rfl
@[simp] theorem Tb.sl90 : slT Tryz.prog 90 = none := by kernel_rfl
@[simp] theorem Tb.st90 : isStr Tryz.prog 90 = false := by kernel_rfl
@[simp] theorem Tb.bo90 : isBool Tryz.prog 90 = false := by kernel_rfl
@[simp] theorem Tb.in90 : intT Tryz.prog 90 = none := by kernel_rfl
@[simp] theorem Tb.un90 : (Tryz.prog.underlying 90).isSome = true := by kernel_rfl
@[simp] theorem Tb.zr90 : zrT Tryz.prog 90 = [.int .i64 0, .int .i64 0, .bool false] := by kernel_rfl
@[simp] theorem Tb.za90 : (Tryz.prog.info? 90).any (·.zero.isSome) = true := by kernel_rfl
@[simp] theorem Tb.zb90 : ((Tryz.prog.info? 90).bind (·.zero)).isSome = true := by kernel_rfl
@[simp] theorem Tb.el90 : elOK Tryz.prog 90 := elOK_of (by kernel_rfl)
@[simp] theorem Tb.bl90 : bldT Tryz.prog 90 = some ([.int .i64 0, .int .i64 0, .bool false], [(0, 1), (1, 1), (2, 1)]) := by kernel_rfl
@[simp] theorem Tb.tk91 : tk Tryz.prog 91 = 2 := by kernel_rfl
@[simp] theorem Tb.sz91 : Program.cellsOf Tryz.prog 91 = 3 := by kernel_rfl
@[simp] theorem Tb.ff91_0 : foff Tryz.prog 91 0 = some (0, 3) := by kernel_rfl
@[simp] theorem Tb.ff91_1 : foff Tryz.prog 91 1 = some (1, 3) := by kernel_rfl
@[simp] theorem Tb.ff91_2 : foff Tryz.prog 91 2 = some (2, 4) := by kernel_rfl
@[simp] theorem Tb.cm91 : cmpT Tryz.prog 91 = some [.int .i64, .int .i64, .bool] := by kernel_rfl
@[simp] theorem Tb.sl91 : slT Tryz.prog 91 = none := by kernel_rfl
@[simp] theorem Tb.st91 : isStr Tryz.prog 91 = false := by kernel_rfl
@[simp] theorem Tb.bo91 : isBool Tryz.prog 91 = false := by kernel_rfl
@[simp] theorem Tb.in91 : intT Tryz.prog 91 = none := by kernel_rfl
@[simp] theorem Tb.un91 : (Tryz.prog.underlying 91).isSome = true := by kernel_rfl
@[simp] theorem Tb.zr91 : zrT Tryz.prog 91 = [.int .i64 0, .int .i64 0, .bool false] := by kernel_rfl
@[simp] theorem Tb.za91 : (Tryz.prog.info? 91).any (·.zero.isSome) = true := by kernel_rfl
@[simp] theorem Tb.zb91 : ((Tryz.prog.info? 91).bind (·.zero)).isSome = true := by kernel_rfl
@[simp] theorem Tb.el91 : elOK Tryz.prog 91 := elOK_of (by kernel_rfl)
@[simp] theorem Tb.bl91 : bldT Tryz.prog 91 = some ([.int .i64 0, .int .i64 0, .bool false], [(0, 1), (1, 1), (2, 1)]) := by kernel_rfl
@[simp] theorem Tb.tk92 : tk Tryz.prog 92 = 1 := by kernel_rfl
@[simp] theorem Tb.sz92 : Program.cellsOf Tryz.prog 92 = 1 := by kernel_rfl
@[simp] theorem Tb.sl92 : slT Tryz.prog 92 = none := by kernel_rfl
@[simp] theorem Tb.st92 : isStr Tryz.prog 92 = false := by kernel_rfl
@[simp] theorem Tb.bo92 : isBool Tryz.prog 92 = false := by kernel_rfl
@[simp] theorem Tb.in92 : intT Tryz.prog 92 = none := by kernel_rfl
@[simp] theorem Tb.un92 : (Tryz.prog.underlying 92).isSome = true := by kernel_rfl
@[simp] theorem Tb.zr92 : zrT Tryz.prog 92 = [.nilFunc] := by kernel_rfl
@[simp] theorem Tb.za92 : (Tryz.prog.info? 92).any (·.zero.isSome) = true := by kernel_rfl
@[simp] theorem Tb.zb92 : ((Tryz.prog.info? 92).bind (·.zero)).isSome = true := by kernel_rfl
@[simp] theorem Tb.el92 : elOK Tryz.prog 92 := elOK_of (by kernel_rfl)
@[simp] theorem Tb.tk93 : tk Tryz.prog 93 = 1 := by kernel_rfl
@[simp] theorem Tb.sz93 : Program.cellsOf Tryz.prog 93 = 1 := by kernel_rfl
@[simp] theorem Tb.sl93 : slT Tryz.prog 93 = none := by kernel_rfl
@[simp] theorem Tb.st93 : isStr Tryz.prog 93 = false := by kernel_rfl
@[simp] theorem Tb.bo93 : isBool Tryz.prog 93 = false := by kernel_rfl
@[simp] theorem Tb.in93 : intT Tryz.prog 93 = none := by kernel_rfl
@[simp] theorem Tb.un93 : (Tryz.prog.underlying 93).isSome = true := by kernel_rfl
@[simp] theorem Tb.zr93 : zrT Tryz.prog 93 = [.nilFunc] := by kernel_rfl
@[simp] theorem Tb.za93 : (Tryz.prog.info? 93).any (·.zero.isSome) = true := by kernel_rfl
@[simp] theorem Tb.zb93 : ((Tryz.prog.info? 93).bind (·.zero)).isSome = true := by kernel_rfl
@[simp] theorem Tb.el93 : elOK Tryz.prog 93 := elOK_of (by kernel_rfl)
@[simp] theorem Tb.tk94 : tk Tryz.prog 94 = 1 := by kernel_rfl
@[simp] theorem Tb.sz94 : Program.cellsOf Tryz.prog 94 = 1 := by kernel_rfl
@[simp] theorem Tb.sl94 : slT Tryz.prog 94 = none := by kernel_rfl
@[simp] theorem Tb.st94 : isStr Tryz.prog 94 = false := by kernel_rfl
@[simp] theorem Tb.bo94 : isBool Tryz.prog 94 = false := by kernel_rfl
@[simp] theorem Tb.in94 : intT Tryz.prog 94 = none := by kernel_rfl
@[simp] theorem Tb.un94 : (Tryz.prog.underlying 94).isSome = true := by kernel_rfl
@[simp] theorem Tb.zr94 : zrT Tryz.prog 94 = [.nilFunc] := by kernel_rfl
@[simp] theorem Tb.za94 : (Tryz.prog.info? 94).any (·.zero.isSome) = true := by kernel_rfl
@[simp] theorem Tb.zb94 : ((Tryz.prog.info? 94).bind (·.zero)).isSome = true := by kernel_rfl
@[simp] theorem Tb.el94 : elOK Tryz.prog 94 := elOK_of (by kernel_rfl)
@[simp] theorem Tb.tk95 : tk Tryz.prog 95 = 1 := by kernel_rfl
@[simp] theorem Tb.sz95 : Program.cellsOf Tryz.prog 95 = 1 := by kernel_rfl
@[simp] theorem Tb.sl95 : slT Tryz.prog 95 = none := by kernel_rfl
@[simp] theorem Tb.st95 : isStr Tryz.prog 95 = false := by kernel_rfl
@[simp] theorem Tb.bo95 : isBool Tryz.prog 95 = false := by kernel_rfl
@[simp] theorem Tb.in95 : intT Tryz.prog 95 = none := by kernel_rfl
@[simp] theorem Tb.un95 : (Tryz.prog.underlying 95).isSome = true := by kernel_rfl
@[simp] theorem Tb.zr95 : zrT Tryz.prog 95 = [.pointer none] := by kernel_rfl
@[simp] theorem Tb.za95 : (Tryz.prog.info? 95).any (·.zero.isSome) = true := by kernel_rfl
@[simp] theorem Tb.zb95 : ((Tryz.prog.info? 95).bind (·.zero)).isSome = true := by kernel_rfl
@[simp] theorem Tb.el95 : elOK Tryz.prog 95 := elOK_of (by kernel_rfl)
@[simp] theorem Tb.tk97 : tk Tryz.prog 97 = 1 := by kernel_rfl
@[simp] theorem Tb.sz97 : Program.cellsOf Tryz.prog 97 = 1 := by kernel_rfl
@[simp] theorem Tb.sl97 : slT Tryz.prog 97 = none := by kernel_rfl
@[simp] theorem Tb.st97 : isStr Tryz.prog 97 = false := by kernel_rfl
@[simp] theorem Tb.bo97 : isBool Tryz.prog 97 = false := by kernel_rfl
@[simp] theorem Tb.in97 : intT Tryz.prog 97 = none := by kernel_rfl
@[simp] theorem Tb.un97 : (Tryz.prog.underlying 97).isSome = true := by kernel_rfl
@[simp] theorem Tb.zr97 : zrT Tryz.prog 97 = [.nilFunc] := by kernel_rfl
@[simp] theorem Tb.za97 : (Tryz.prog.info? 97).any (·.zero.isSome) = true := by kernel_rfl
@[simp] theorem Tb.zb97 : ((Tryz.prog.info? 97).bind (·.zero)).isSome = true := by kernel_rfl
@[simp] theorem Tb.el97 : elOK Tryz.prog 97 := elOK_of (by kernel_rfl)
@[simp] theorem Tb.tk98 : tk Tryz.prog 98 = 1 := by kernel_rfl
@[simp] theorem Tb.sz98 : Program.cellsOf Tryz.prog 98 = 1 := by kernel_rfl
@[simp] theorem Tb.sl98 : slT Tryz.prog 98 = none := by kernel_rfl
@[simp] theorem Tb.st98 : isStr Tryz.prog 98 = false := by kernel_rfl
@[simp] theorem Tb.bo98 : isBool Tryz.prog 98 = false := by kernel_rfl
@[simp] theorem Tb.in98 : intT Tryz.prog 98 = none := by kernel_rfl
@[simp] theorem Tb.un98 : (Tryz.prog.underlying 98).isSome = true := by kernel_rfl
@[simp] theorem Tb.zr98 : zrT Tryz.prog 98 = [.nilFunc] := by kernel_rfl
@[simp] theorem Tb.za98 : (Tryz.prog.info? 98).any (·.zero.isSome) = true := by kernel_rfl
@[simp] theorem Tb.zb98 : ((Tryz.prog.info? 98).bind (·.zero)).isSome = true := by kernel_rfl
@[simp] theorem Tb.el98 : elOK Tryz.prog 98 := elOK_of (by kernel_rfl)
@[simp] theorem Tb.tk99 : tk Tryz.prog 99 = 1 := by kernel_rfl
@[simp] theorem Tb.sz99 : Program.cellsOf Tryz.prog 99 = 1 := by kernel_rfl
@[simp] theorem Tb.sl99 : slT Tryz.prog 99 = none := by kernel_rfl
@[simp] theorem Tb.st99 : isStr Tryz.prog 99 = false := by kernel_rfl
@[simp] theorem Tb.bo99 : isBool Tryz.prog 99 = false := by kernel_rfl
@[simp] theorem Tb.in99 : intT Tryz.prog 99 = none := by kernel_rfl
@[simp] theorem Tb.un99 : (Tryz.prog.underlying 99).isSome = true := by kernel_rfl
@[simp] theorem Tb.zr99 : zrT Tryz.prog 99 = [.nilFunc] := by kernel_rfl
@[simp] theorem Tb.za99 : (Tryz.prog.info? 99).any (·.zero.isSome) = true := by kernel_rfl
@[simp] theorem Tb.zb99 : ((Tryz.prog.info? 99).bind (·.zero)).isSome = true := by kernel_rfl
@[simp] theorem Tb.el99 : elOK Tryz.prog 99 := elOK_of (by kernel_rfl)
@[simp] theorem Tb.tk100 : tk Tryz.prog 100 = 1 := by kernel_rfl
@[simp] theorem Tb.sz100 : Program.cellsOf Tryz.prog 100 = 1 := by kernel_rfl
@[simp] theorem Tb.sl100 : slT Tryz.prog 100 = none := by kernel_rfl
@[simp] theorem Tb.st100 : isStr Tryz.prog 100 = false := by kernel_rfl
@[simp] theorem Tb.bo100 : isBool Tryz.prog 100 = false := by kernel_rfl
@[simp] theorem Tb.in100 : intT Tryz.prog 100 = none := by kernel_rfl
@[simp] theorem Tb.un100 : (Tryz.prog.underlying 100).isSome = true := by kernel_rfl
@[simp] theorem Tb.zr100 : zrT Tryz.prog 100 = [.nilFunc] := by kernel_rfl
@[simp] theorem Tb.za100 : (Tryz.prog.info? 100).any (·.zero.isSome) = true := by kernel_rfl
@[simp] theorem Tb.zb100 : ((Tryz.prog.info? 100).bind (·.zero)).isSome = true := by kernel_rfl
@[simp] theorem Tb.el100 : elOK Tryz.prog 100 := elOK_of (by kernel_rfl)
@[simp] theorem Tb.tk101 : tk Tryz.prog 101 = 1 := by kernel_rfl
@[simp] theorem Tb.sz101 : Program.cellsOf Tryz.prog 101 = 1 := by kernel_rfl
@[simp] theorem Tb.sl101 : slT Tryz.prog 101 = none := by kernel_rfl
@[simp] theorem Tb.st101 : isStr Tryz.prog 101 = false := by kernel_rfl
@[simp] theorem Tb.bo101 : isBool Tryz.prog 101 = false := by kernel_rfl
@[simp] theorem Tb.in101 : intT Tryz.prog 101 = none := by kernel_rfl
@[simp] theorem Tb.un101 : (Tryz.prog.underlying 101).isSome = true := by kernel_rfl
@[simp] theorem Tb.zr101 : zrT Tryz.prog 101 = [.nilFunc] := by kernel_rfl
@[simp] theorem Tb.za101 : (Tryz.prog.info? 101).any (·.zero.isSome) = true := by kernel_rfl
@[simp] theorem Tb.zb101 : ((Tryz.prog.info? 101).bind (·.zero)).isSome = true := by kernel_rfl
@[simp] theorem Tb.el101 : elOK Tryz.prog 101 := elOK_of (by kernel_rfl)
@[simp] theorem Tb.tk102 : tk Tryz.prog 102 = 1 := by kernel_rfl
@[simp] theorem Tb.sz102 : Program.cellsOf Tryz.prog 102 = 1 := by kernel_rfl
@[simp] theorem Tb.sl102 : slT Tryz.prog 102 = none := by kernel_rfl
@[simp] theorem Tb.st102 : isStr Tryz.prog 102 = false := by kernel_rfl
@[simp] theorem Tb.bo102 : isBool Tryz.prog 102 = false := by kernel_rfl
@[simp] theorem Tb.in102 : intT Tryz.prog 102 = none := by kernel_rfl
@[simp] theorem Tb.un102 : (Tryz.prog.underlying 102).isSome = true := by kernel_rfl
@[simp] theorem Tb.zr102 : zrT Tryz.prog 102 = [.nilFunc] := by kernel_rfl
@[simp] theorem Tb.za102 : (Tryz.prog.info? 102).any (·.zero.isSome) = true := by kernel_rfl
@[simp] theorem Tb.zb102 : ((Tryz.prog.info? 102).bind (·.zero)).isSome = true := by kernel_rfl
@[simp] theorem Tb.el102 : elOK Tryz.prog 102 := elOK_of (by kernel_rfl)
@[simp] theorem Tb.tk103 : tk Tryz.prog 103 = 1 := by kernel_rfl
@[simp] theorem Tb.sz103 : Program.cellsOf Tryz.prog 103 = 1 := by kernel_rfl
@[simp] theorem Tb.sl103 : slT Tryz.prog 103 = some 105 := by kernel_rfl
@[simp] theorem Tb.st103 : isStr Tryz.prog 103 = false := by kernel_rfl
@[simp] theorem Tb.bo103 : isBool Tryz.prog 103 = false := by kernel_rfl
@[simp] theorem Tb.in103 : intT Tryz.prog 103 = none := by kernel_rfl
@[simp] theorem Tb.un103 : (Tryz.prog.underlying 103).isSome = true := by kernel_rfl
@[simp] theorem Tb.zr103 : zrT Tryz.prog 103 = [.slice none 0 0] := by kernel_rfl
@[simp] theorem Tb.za103 : (Tryz.prog.info? 103).any (·.zero.isSome) = true := by kernel_rfl
@[simp] theorem Tb.zb103 : ((Tryz.prog.info? 103).bind (·.zero)).isSome = true := by kernel_rfl
@[simp] theorem Tb.el103 : elOK Tryz.prog 103 := elOK_of (by kernel_rfl)
@[simp] theorem Tb.tk104 : tk Tryz.prog 104 = 2 := by kernel_rfl
@[simp] theorem Tb.sz104 : Program.cellsOf Tryz.prog 104 = 9 := by kernel_rfl
@[simp] theorem Tb.ff104_0 : foff Tryz.prog 104 0 = some (0, 29) := by kernel_rfl
@[simp] theorem Tb.ff104_1 : foff Tryz.prog 104 1 = some (5, 3) := by kernel_rfl
@[simp] theorem Tb.ff104_2 : foff Tryz.prog 104 2 = some (6, 3) := by kernel_rfl
@[simp] theorem Tb.ff104_3 : foff Tryz.prog 104 3 = some (7, 24) := by kernel_rfl
@[simp] theorem Tb.ff104_4 : foff Tryz.prog 104 4 = some (8, 4) := by kernel_rfl
@[simp] theorem Tb.cm104 : cmpT Tryz.prog 104 = none := by kernel_rfl
@[simp] theorem Tb.sl104 : slT Tryz.prog 104 = none := by kernel_rfl
@[simp] theorem Tb.st104 : isStr Tryz.prog 104 = false := by kernel_rfl
@[simp] theorem Tb.bo104 : isBool Tryz.prog 104 = false := by kernel_rfl
@[simp] theorem Tb.in104 : intT Tryz.prog 104 = none := by kernel_rfl
@[simp] theorem Tb.un104 : (Tryz.prog.underlying 104).isSome = true := by kernel_rfl
@[simp] theorem Tb.zr104 : zrT Tryz.prog 104 = [.slice none 0 0, .slice none 0 0, .slice none 0 0, .slice none 0 0, .slice none 0 0, .int .i64 0, .int .i64 0, .slice none 0 0, .bool false] := by kernel_rfl
@[simp] theorem Tb.za104 : (Tryz.prog.info? 104).any (·.zero.isSome) = true := by kernel_rfl
@[simp] theorem Tb.zb104 : ((Tryz.prog.info? 104).bind (·.zero)).isSome = true := by kernel_rfl
@[simp] theorem Tb.el104 : elOK Tryz.prog 104 := elOK_of (by kernel_rfl)
@[simp] theorem Tb.bl104 : bldT Tryz.prog 104 = some ([.slice none 0 0, .slice none 0 0, .slice none 0 0, .slice none 0 0, .slice none 0 0, .int .i64 0, .int .i64 0, .slice none 0 0, .bool false], [(0, 5), (5, 1), (6, 1), (7, 1), (8, 1)]) := by kernel_rfl
@[simp] theorem Tb.tk105 : tk Tryz.prog 105 = 2 := by kernel_rfl
@[simp] theorem Tb.sz105 : Program.cellsOf Tryz.prog 105 = 9 := by kernel_rfl
@[simp] theorem Tb.ff105_0 : foff Tryz.prog 105 0 = some (0, 29) := by kernel_rfl
@[simp] theorem Tb.ff105_1 : foff Tryz.prog 105 1 = some (5, 3) := by kernel_rfl
@[simp] theorem Tb.ff105_2 : foff Tryz.prog 105 2 = some (6, 3) := by kernel_rfl
@[simp] theorem Tb.ff105_3 : foff Tryz.prog 105 3 = some (7, 24) := by kernel_rfl
@[simp] theorem Tb.ff105_4 : foff Tryz.prog 105 4 = some (8, 4) := by kernel_rfl
@[simp] theorem Tb.cm105 : cmpT Tryz.prog 105 = none := by kernel_rfl
@[simp] theorem Tb.sl105 : slT Tryz.prog 105 = none := by kernel_rfl
@[simp] theorem Tb.st105 : isStr Tryz.prog 105 = false := by kernel_rfl
@[simp] theorem Tb.bo105 : isBool Tryz.prog 105 = false := by kernel_rfl
@[simp] theorem Tb.in105 : intT Tryz.prog 105 = none := by kernel_rfl
@[simp] theorem Tb.un105 : (Tryz.prog.underlying 105).isSome = true := by kernel_rfl
@[simp] theorem Tb.zr105 : zrT Tryz.prog 105 = [.slice none 0 0, .slice none 0 0, .slice none 0 0, .slice none 0 0, .slice none 0 0, .int .i64 0, .int .i64 0, .slice none 0 0, .bool false] := by kernel_rfl
@[simp] theorem Tb.za105 : (Tryz.prog.info? 105).any (·.zero.isSome) = true := by kernel_rfl
@[simp] theorem Tb.zb105 : ((Tryz.prog.info? 105).bind (·.zero)).isSome = true := by kernel_rfl
@[simp] theorem Tb.el105 : elOK Tryz.prog 105 := elOK_of (by kernel_rfl)
@[simp] theorem Tb.bl105 : bldT Tryz.prog 105 = some ([.slice none 0 0, .slice none 0 0, .slice none 0 0, .slice none 0 0, .slice none 0 0, .int .i64 0, .int .i64 0, .slice none 0 0, .bool false], [(0, 5), (5, 1), (6, 1), (7, 1), (8, 1)]) := by kernel_rfl
@[simp] theorem Tb.tk106 : tk Tryz.prog 106 = 2 := by kernel_rfl
@[simp] theorem Tb.sz106 : Program.cellsOf Tryz.prog 106 = 1 := by kernel_rfl
@[simp] theorem Tb.ff106_0 : foff Tryz.prog 106 0 = some (0, 103) := by kernel_rfl
@[simp] theorem Tb.cm106 : cmpT Tryz.prog 106 = none := by kernel_rfl
@[simp] theorem Tb.sl106 : slT Tryz.prog 106 = none := by kernel_rfl
@[simp] theorem Tb.st106 : isStr Tryz.prog 106 = false := by kernel_rfl
@[simp] theorem Tb.bo106 : isBool Tryz.prog 106 = false := by kernel_rfl
@[simp] theorem Tb.in106 : intT Tryz.prog 106 = none := by kernel_rfl
@[simp] theorem Tb.un106 : (Tryz.prog.underlying 106).isSome = true := by kernel_rfl
@[simp] theorem Tb.zr106 : zrT Tryz.prog 106 = [.slice none 0 0] := by kernel_rfl
@[simp] theorem Tb.za106 : (Tryz.prog.info? 106).any (·.zero.isSome) = true := by kernel_rfl
@[simp] theorem Tb.zb106 : ((Tryz.prog.info? 106).bind (·.zero)).isSome = true := by kernel_rfl
@[simp] theorem Tb.el106 : elOK Tryz.prog 106 := elOK_of (by kernel_rfl)
@[simp] theorem Tb.bl106 : bldT Tryz.prog 106 = some ([.slice none 0 0], [(0, 1)]) := by kernel_rfl
@[simp] theorem Tb.tk107 : tk Tryz.prog 107 = 2 := by kernel_rfl
@[simp] theorem Tb.sz107 : Program.cellsOf Tryz.prog 107 = 1 := by kernel_rfl
@[simp] theorem Tb.ff107_0 : foff Tryz.prog 107 0 = some (0, 103) := by kernel_rfl
@[simp] theorem Tb.cm107 : cmpT Tryz.prog 107 = none := by kernel_rfl
@[simp] theorem Tb.sl107 : slT Tryz.prog 107 = none := by kernel_rfl
@[simp] theorem Tb.st107 : isStr Tryz.prog 107 = false := by kernel_rfl
@[simp] theorem Tb.bo107 : isBool Tryz.prog 107 = false := by kernel_rfl
@[simp] theorem Tb.in107 : intT Tryz.prog 107 = none := by kernel_rfl
@[simp] theorem Tb.un107 : (Tryz.prog.underlying 107).isSome = true := by kernel_rfl
@[simp] theorem Tb.zr107 : zrT Tryz.prog 107 = [.slice none 0 0] := by kernel_rfl
@[simp] theorem Tb.za107 : (Tryz.prog.info? 107).any (·.zero.isSome) = true := by kernel_rfl
@[simp] theorem Tb.zb107 : ((Tryz.prog.info? 107).bind (·.zero)).isSome = true := by kernel_rfl
@[simp] theorem Tb.el107 : elOK Tryz.prog 107 := elOK_of (by kernel_rfl)
@[simp] theorem Tb.bl107 : bldT Tryz.prog 107 = some ([.slice none 0 0], [(0, 1)]) := by kernel_rfl
@[simp] theorem Tb.tk108 : tk Tryz.prog 108 = 1 := by kernel_rfl
@[simp] theorem Tb.sz108 : Program.cellsOf Tryz.prog 108 = 1 := by kernel_rfl
@[simp] theorem Tb.sl108 : slT Tryz.prog 108 = none := by kernel_rfl
@[simp] theorem Tb.st108 : isStr Tryz.prog 108 = false := by kernel_rfl
@[simp] theorem Tb.bo108 : isBool Tryz.prog 108 = false := by kernel_rfl
@[simp] theorem Tb.in108 : intT Tryz.prog 108 = none := by kernel_rfl
@[simp] theorem Tb.un108 : (Tryz.prog.underlying 108).isSome = true := by kernel_rfl
@[simp] theorem Tb.zr108 : zrT Tryz.prog 108 = [.nilFunc] := by kernel_rfl
@[simp] theorem Tb.za108 : (Tryz.prog.info? 108).any (·.zero.isSome) = true := by kernel_rfl
@[simp] theorem Tb.zb108 : ((Tryz.prog.info? 108).bind (·.zero)).isSome = true := by kernel_rfl
@[simp] theorem Tb.el108 : elOK Tryz.prog 108 := elOK_of (by kernel_rfl)
@[simp] theorem Tb.tk109 : tk Tryz.prog 109 = 1 := by kernel_rfl
@[simp] theorem Tb.sz109 : Program.cellsOf Tryz.prog 109 = 1 := by kernel_rfl
@[simp] theorem Tb.sl109 : slT Tryz.prog 109 = none := by kernel_rfl
@[simp] theorem Tb.st109 : isStr Tryz.prog 109 = false := by kernel_rfl
@[simp] theorem Tb.bo109 : isBool Tryz.prog 109 = false := by kernel_rfl
@[simp] theorem Tb.in109 : intT Tryz.prog 109 = none := by kernel_rfl
@[simp] theorem Tb.un109 : (Tryz.prog.underlying 109).isSome = true := by kernel_rfl
@[simp] theorem Tb.zr109 : zrT Tryz.prog 109 = [.nilFunc] := by kernel_rfl
@[simp] theorem Tb.za109 : (Tryz.prog.info? 109).any (·.zero.isSome) = true := by kernel_rfl
@[simp] theorem Tb.zb109 : ((Tryz.prog.info? 109).bind (·.zero)).isSome = true := by kernel_rfl
@[simp] theorem Tb.el109 : elOK Tryz.prog 109 := elOK_of (by kernel_rfl)
@[simp] theorem Tb.tk110 : tk Tryz.prog 110 = 1 := by kernel_rfl
@[simp] theorem Tb.sz110 : Program.cellsOf Tryz.prog 110 = 1 := by kernel_rfl
@[simp] theorem Tb.sl110 : slT Tryz.prog 110 = some 24 := by kernel_rfl
@[simp] theorem Tb.st110 : isStr Tryz.prog 110 = false := by kernel_rfl
@[simp] theorem Tb.bo110 : isBool Tryz.prog 110 = false := by kernel_rfl
@[simp] theorem Tb.in110 : intT Tryz.prog 110 = none := by kernel_rfl
@[simp] theorem Tb.un110 : (Tryz.prog.underlying 110).isSome = true := by kernel_rfl
@[simp] theorem Tb.zr110 : zrT Tryz.prog 110 = [.slice none 0 0] := by kernel_rfl
@[simp] theorem Tb.za110 : (Tryz.prog.info? 110).any (·.zero.isSome) = true := by kernel_rfl
@[simp] theorem Tb.zb110 : ((Tryz.prog.info? 110).bind (·.zero)).isSome = true := by kernel_rfl
@[simp] theorem Tb.el110 : elOK Tryz.prog 110 := elOK_of (by kernel_rfl)
@[simp] theorem Tb.tk112 : tk Tryz.prog 112 = 1 := by kernel_rfl
@[simp] theorem Tb.sz112 : Program.cellsOf Tryz.prog 112 = 1 := by kernel_rfl
@[simp] theorem Tb.sl112 : slT Tryz.prog 112 = none := by kernel_rfl
@[simp] theorem Tb.st112 : isStr Tryz.prog 112 = false := by kernel_rfl
@[simp] theorem Tb.bo112 : isBool Tryz.prog 112 = false := by kernel_rfl
@[simp] theorem Tb.in112 : intT Tryz.prog 112 = none := by kernel_rfl
@[simp] theorem Tb.un112 : (Tryz.prog.underlying 112).isSome = true := by kernel_rfl
@[simp] theorem Tb.zr112 : zrT Tryz.prog 112 = [.nilFunc] := by kernel_rfl
@[simp] theorem Tb.za112 : (Tryz.prog.info? 112).any (·.zero.isSome) = true := by kernel_rfl
@[simp] theorem Tb.zb112 : ((Tryz.prog.info? 112).bind (·.zero)).isSome = true := by kernel_rfl
@[simp] theorem Tb.el112 : elOK Tryz.prog 112 := elOK_of (by kernel_rfl)
@[simp] theorem Tb.tk113 : tk Tryz.prog 113 = 1 := by kernel_rfl
@[simp] theorem Tb.sz113 : Program.cellsOf Tryz.prog 113 = 1 := by kernel_rfl
@[simp] theorem Tb.sl113 : slT Tryz.prog 113 = none := by kernel_rfl
@[simp] theorem Tb.st113 : isStr Tryz.prog 113 = false := by kernel_rfl
@[simp] theorem Tb.bo113 : isBool Tryz.prog 113 = false := by kernel_rfl
@[simp] theorem Tb.in113 : intT Tryz.prog 113 = none := by kernel_rfl
@[simp] theorem Tb.un113 : (Tryz.prog.underlying 113).isSome = true := by kernel_rfl
@[simp] theorem Tb.zr113 : zrT Tryz.prog 113 = [.nilFunc] := by kernel_rfl
@[simp] theorem Tb.za113 : (Tryz.prog.info? 113).any (·.zero.isSome) = true := by kernel_rfl
@[simp] theorem Tb.zb113 : ((Tryz.prog.info? 113).bind (·.zero)).isSome = true := by kernel_rfl
@[simp] theorem Tb.el113 : elOK Tryz.prog 113 := elOK_of (by kernel_rfl)
@[simp] theorem Tb.tk114 : tk Tryz.prog 114 = 1 := by kernel_rfl
@[simp] theorem Tb.sz114 : Program.cellsOf Tryz.prog 114 = 1 := by kernel_rfl
@[simp] theorem Tb.sl114 : slT Tryz.prog 114 = none := by kernel_rfl
@[simp] theorem Tb.st114 : isStr Tryz.prog 114 = false := by kernel_rfl
@[simp] theorem Tb.bo114 : isBool Tryz.prog 114 = false := by kernel_rfl
@[simp] theorem Tb.in114 : intT Tryz.prog 114 = none := by kernel_rfl
@[simp] theorem Tb.un114 : (Tryz.prog.underlying 114).isSome = true := by kernel_rfl
@[simp] theorem Tb.zr114 : zrT Tryz.prog 114 = [.nilFunc] := by kernel_rfl
@[simp] theorem Tb.za114 : (Tryz.prog.info? 114).any (·.zero.isSome) = true := by kernel_rfl
@[simp] theorem Tb.zb114 : ((Tryz.prog.info? 114).bind (·.zero)).isSome = true := by kernel_rfl
@[simp] theorem Tb.el114 : elOK Tryz.prog 114 := elOK_of (by kernel_rfl)
@[simp] theorem Tb.tk115 : tk Tryz.prog 115 = 1 := by kernel_rfl
@[simp] theorem Tb.sz115 : Program.cellsOf Tryz.prog 115 = 1 := by kernel_rfl
@[simp] theorem Tb.sl115 : slT Tryz.prog 115 = none := by kernel_rfl
@[simp] theorem Tb.st115 : isStr Tryz.prog 115 = false := by kernel_rfl
@[simp] theorem Tb.bo115 : isBool Tryz.prog 115 = false := by kernel_rfl
@[simp] theorem Tb.in115 : intT Tryz.prog 115 = none := by kernel_rfl
@[simp] theorem Tb.un115 : (Tryz.prog.underlying 115).isSome = true := by kernel_rfl
@[simp] theorem Tb.zr115 : zrT Tryz.prog 115 = [.nilFunc] := by kernel_rfl
@[simp] theorem Tb.za115 : (Tryz.prog.info? 115).any (·.zero.isSome) = true := by kernel_rfl
@[simp] theorem Tb.zb115 : ((Tryz.prog.info? 115).bind (·.zero)).isSome = true := by kernel_rfl
@[simp] theorem Tb.el115 : elOK Tryz.prog 115 := elOK_of (by kernel_rfl)
@[simp] theorem Tb.tk116 : tk Tryz.prog 116 = 1 := by kernel_rfl
@[simp] theorem Tb.sz116 : Program.cellsOf Tryz.prog 116 = 1 := by kernel_rfl
@[simp] theorem Tb.sl116 : slT Tryz.prog 116 = none := by kernel_rfl
@[simp] theorem Tb.st116 : isStr Tryz.prog 116 = false := by kernel_rfl
@[simp] theorem Tb.bo116 : isBool Tryz.prog 116 = false := by kernel_rfl
@[simp] theorem Tb.in116 : intT Tryz.prog 116 = none := by kernel_rfl
@[simp] theorem Tb.un116 : (Tryz.prog.underlying 116).isSome = true := by kernel_rfl
@[simp] theorem Tb.zr116 : zrT Tryz.prog 116 = [.nilFunc] := by kernel_rfl
@[simp] theorem Tb.za116 : (Tryz.prog.info? 116).any (·.zero.isSome) = true := by kernel_rfl
@[simp] theorem Tb.zb116 : ((Tryz.prog.info? 116).bind (·.zero)).isSome = true := by kernel_rfl
@[simp] theorem Tb.el116 : elOK Tryz.prog 116 := elOK_of (by kernel_rfl)
@[simp] theorem Tb.tk117 : tk Tryz.prog 117 = 1 := by kernel_rfl
@[simp] theorem Tb.sz117 : Program.cellsOf Tryz.prog 117 = 1 := by kernel_rfl
@[simp] theorem Tb.sl117 : slT Tryz.prog 117 = none := by kernel_rfl
@[simp] theorem Tb.st117 : isStr Tryz.prog 117 = false := by kernel_rfl
@[simp] theorem Tb.bo117 : isBool Tryz.prog 117 = false := by kernel_rfl
@[simp] theorem Tb.in117 : intT Tryz.prog 117 = none := by kernel_rfl
@[simp] theorem Tb.un117 : (Tryz.prog.underlying 117).isSome = true := by kernel_rfl
@[simp] theorem Tb.zr117 : zrT Tryz.prog 117 = [.nilFunc] := by kernel_rfl
@[simp] theorem Tb.za117 : (Tryz.prog.info? 117).any (·.zero.isSome) = true := by kernel_rfl
@[simp] theorem Tb.zb117 : ((Tryz.prog.info? 117).bind (·.zero)).isSome = true := by kernel_rfl
@[simp] theorem Tb.el117 : elOK Tryz.prog 117 := elOK_of (by kernel_rfl)
@[simp] theorem Tb.tk118 : tk Tryz.prog 118 = 1 := by kernel_rfl
@[simp] theorem Tb.sz118 : Program.cellsOf Tryz.prog 118 = 1 := by kernel_rfl
@[simp] theorem Tb.sl118 : slT Tryz.prog 118 = none := by kernel_rfl
@[simp] theorem Tb.st118 : isStr Tryz.prog 118 = false := by kernel_rfl
@[simp] theorem Tb.bo118 : isBool Tryz.prog 118 = false := by kernel_rfl
@[simp] theorem Tb.in118 : intT Tryz.prog 118 = none := by kernel_rfl
@[simp] theorem Tb.un118 : (Tryz.prog.underlying 118).isSome = true := by kernel_rfl
@[simp] theorem Tb.zr118 : zrT Tryz.prog 118 = [.nilFunc] := by kernel_rfl
@[simp] theorem Tb.za118 : (Tryz.prog.info? 118).any (·.zero.isSome) = true := by kernel_rfl
@[simp] theorem Tb.zb118 : ((Tryz.prog.info? 118).bind (·.zero)).isSome = true := by kernel_rfl
@[simp] theorem Tb.el118 : elOK Tryz.prog 118 := elOK_of (by kernel_rfl)
@[simp] theorem Tb.tk120 : tk Tryz.prog 120 = 1 := by kernel_rfl
@[simp] theorem Tb.sz120 : Program.cellsOf Tryz.prog 120 = 1 := by kernel_rfl
@[simp] theorem Tb.sl120 : slT Tryz.prog 120 = none := by kernel_rfl
@[simp] theorem Tb.st120 : isStr Tryz.prog 120 = false := by kernel_rfl
@[simp] theorem Tb.bo120 : isBool Tryz.prog 120 = false := by kernel_rfl
@[simp] theorem Tb.in120 : intT Tryz.prog 120 = none := by kernel_rfl
@[simp] theorem Tb.un120 : (Tryz.prog.underlying 120).isSome = true := by kernel_rfl
@[simp] theorem Tb.zr120 : zrT Tryz.prog 120 = [.nilFunc] := by kernel_rfl
@[simp] theorem Tb.za120 : (Tryz.prog.info? 120).any (·.zero.isSome) = true := by kernel_rfl
@[simp] theorem Tb.zb120 : ((Tryz.prog.info? 120).bind (·.zero)).isSome = true := by kernel_rfl
@[simp] theorem Tb.el120 : elOK Tryz.prog 120 := elOK_of (by kernel_rfl)
@[simp] theorem Tb.tk121 : tk Tryz.prog 121 = 1 := by kernel_rfl
@[simp] theorem Tb.sz121 : Program.cellsOf Tryz.prog 121 = 1 := by kernel_rfl
@[simp] theorem Tb.sl121 : slT Tryz.prog 121 = none := by kernel_rfl
@[simp] theorem Tb.st121 : isStr Tryz.prog 121 = false := by kernel_rfl
@[simp] theorem Tb.bo121 : isBool Tryz.prog 121 = false := by kernel_rfl
@[simp] theorem Tb.in121 : intT Tryz.prog 121 = none := by kernel_rfl
@[simp] theorem Tb.un121 : (Tryz.prog.underlying 121).isSome = true := by kernel_rfl
@[simp] theorem Tb.zr121 : zrT Tryz.prog 121 = [.nilFunc] := by kernel_rfl
@[simp] theorem Tb.za121 : (Tryz.prog.info? 121).any (·.zero.isSome) = true := by kernel_rfl
@[simp] theorem Tb.zb121 : ((Tryz.prog.info? 121).bind (·.zero)).isSome = true := by kernel_rfl
@[simp] theorem Tb.el121 : elOK Tryz.prog 121 := elOK_of (by kernel_rfl)
@[simp] theorem Tb.tk123 : tk Tryz.prog 123 = 1 := by kernel_rfl
@[simp] theorem Tb.sz123 : Program.cellsOf Tryz.prog 123 = 1 := by kernel_rfl
@[simp] theorem Tb.sl123 : slT Tryz.prog 123 = none := by kernel_rfl
@[simp] theorem Tb.st123 : isStr Tryz.prog 123 = false := by kernel_rfl
@[simp] theorem Tb.bo123 : isBool Tryz.prog 123 = false := by kernel_rfl
@[simp] theorem Tb.in123 : intT Tryz.prog 123 = none := by kernel_rfl
@[simp] theorem Tb.un123 : (Tryz.prog.underlying 123).isSome = true := by kernel_rfl
@[simp] theorem Tb.zr123 : zrT Tryz.prog 123 = [.nilFunc] := by kernel_rfl
@[simp] theorem Tb.za123 : (Tryz.prog.info? 123).any (·.zero.isSome) = true := by kernel_rfl
@[simp] theorem Tb.zb123 : ((Tryz.prog.info? 123).bind (·.zero)).isSome = true := by kernel_rfl
@[simp] theorem Tb.el123 : elOK Tryz.prog 123 := elOK_of (by kernel_rfl)
@[simp] theorem Tb.tk124 : tk Tryz.prog 124 = 1 := by kernel_rfl
@[simp] theorem Tb.sz124 : Program.cellsOf Tryz.prog 124 = 1 := by kernel_rfl
@[simp] theorem Tb.sl124 : slT Tryz.prog 124 = none := by kernel_rfl
@[simp] theorem Tb.st124 : isStr Tryz.prog 124 = false := by kernel_rfl
@[simp] theorem Tb.bo124 : isBool Tryz.prog 124 = false := by kernel_rfl
@[simp] theorem Tb.in124 : intT Tryz.prog 124 = none := by kernel_rfl
@[simp] theorem Tb.un124 : (Tryz.prog.underlying 124).isSome = true := by kernel_rfl
@[simp] theorem Tb.zr124 : zrT Tryz.prog 124 = [.nilFunc] := by kernel_rfl
@[simp] theorem Tb.za124 : (Tryz.prog.info? 124).any (·.zero.isSome) = true := by kernel_rfl
@[simp] theorem Tb.zb124 : ((Tryz.prog.info? 124).bind (·.zero)).isSome = true := by kernel_rfl
@[simp] theorem Tb.el124 : elOK Tryz.prog 124 := elOK_of (by kernel_rfl)
@[simp] theorem Tb.tk126 : tk Tryz.prog 126 = 1 := by kernel_rfl
@[simp] theorem Tb.sz126 : Program.cellsOf Tryz.prog 126 = 1 := by kernel_rfl
@[simp] theorem Tb.sl126 : slT Tryz.prog 126 = none := by kernel_rfl
@[simp] theorem Tb.st126 : isStr Tryz.prog 126 = false := by kernel_rfl
@[simp] theorem Tb.bo126 : isBool Tryz.prog 126 = false := by kernel_rfl
@[simp] theorem Tb.in126 : intT Tryz.prog 126 = none := by kernel_rfl
@[simp] theorem Tb.un126 : (Tryz.prog.underlying 126).isSome = true := by kernel_rfl
@[simp] theorem Tb.zr126 : zrT Tryz.prog 126 = [.nilFunc] := by kernel_rfl
@[simp] theorem Tb.za126 : (Tryz.prog.info? 126).any (·.zero.isSome) = true := by kernel_rfl
@[simp] theorem Tb.zb126 : ((Tryz.prog.info? 126).bind (·.zero)).isSome = true := by kernel_rfl
@[simp] theorem Tb.el126 : elOK Tryz.prog 126 := elOK_of (by kernel_rfl)
@[simp] theorem Tb.tk127 : tk Tryz.prog 127 = 1 := by kernel_rfl
@[simp] theorem Tb.sz127 : Program.cellsOf Tryz.prog 127 = 1 := by kernel_rfl
@[simp] theorem Tb.sl127 : slT Tryz.prog 127 = none := by kernel_rfl
@[simp] theorem Tb.st127 : isStr Tryz.prog 127 = false := by kernel_rfl
@[simp] theorem Tb.bo127 : isBool Tryz.prog 127 = false := by kernel_rfl
@[simp] theorem Tb.in127 : intT Tryz.prog 127 = none := by kernel_rfl
@[simp] theorem Tb.un127 : (Tryz.prog.underlying 127).isSome = true := by kernel_rfl
@[simp] theorem Tb.zr127 : zrT Tryz.prog 127 = [.nilFunc] := by kernel_rfl
@[simp] theorem Tb.za127 : (Tryz.prog.info? 127).any (·.zero.isSome) = true := by kernel_rfl
@[simp] theorem Tb.zb127 : ((Tryz.prog.info? 127).bind (·.zero)).isSome = true := by kernel_rfl
@[simp] theorem Tb.el127 : elOK Tryz.prog 127 := elOK_of (by kernel_rfl)
@[simp] theorem Tb.tk128 : tk Tryz.prog 128 = 1 := by kernel_rfl
@[simp] theorem Tb.sz128 : Program.cellsOf Tryz.prog 128 = 1 := by kernel_rfl
@[simp] theorem Tb.sl128 : slT Tryz.prog 128 = none := by kernel_rfl
@[simp] theorem Tb.st128 : isStr Tryz.prog 128 = false := by kernel_rfl
@[simp] theorem Tb.bo128 : isBool Tryz.prog 128 = false := by kernel_rfl
@[simp] theorem Tb.in128 : intT Tryz.prog 128 = none := by kernel_rfl
@[simp] theorem Tb.un128 : (Tryz.prog.underlying 128).isSome = true := by kernel_rfl
@[simp] theorem Tb.zr128 : zrT Tryz.prog 128 = [.nilFunc] := by kernel_rfl
@[simp] theorem Tb.za128 : (Tryz.prog.info? 128).any (·.zero.isSome) = true := by kernel_rfl
@[simp] theorem Tb.zb128 : ((Tryz.prog.info? 128).bind (·.zero)).isSome = true := by kernel_rfl
@[simp] theorem Tb.el128 : elOK Tryz.prog 128 := elOK_of (by kernel_rfl)
@[simp] theorem Tb.tk129 : tk Tryz.prog 129 = 1 := by kernel_rfl
@[simp] theorem Tb.sz129 : Program.cellsOf Tryz.prog 129 = 1 := by kernel_rfl
@[simp] theorem Tb.sl129 : slT Tryz.prog 129 = none := by kernel_rfl
@[simp] theorem Tb.st129 : isStr Tryz.prog 129 = false := by kernel_rfl
@[simp] theorem Tb.bo129 : isBool Tryz.prog 129 = false := by kernel_rfl
@[simp] theorem Tb.in129 : intT Tryz.prog 129 = none := by kernel_rfl
@[simp] theorem Tb.un129 : (Tryz.prog.underlying 129).isSome = true := by kernel_rfl
@[simp] theorem Tb.zr129 : zrT Tryz.prog 129 = [.nilFunc] := by kernel_rfl
@[simp] theorem Tb.za129 : (Tryz.prog.info? 129).any (·.zero.isSome) = true := by kernel_rfl
@[simp] theorem Tb.zb129 : ((Tryz.prog.info? 129).bind (·.zero)).isSome = true := by kernel_rfl
@[simp] theorem Tb.el129 : elOK Tryz.prog 129 := elOK_of (by kernel_rfl)
@[simp] theorem Tb.tk130 : tk Tryz.prog 130 = 1 := by kernel_rfl
@[simp] theorem Tb.sz130 : Program.cellsOf Tryz.prog 130 = 1 := by kernel_rfl
@[simp] theorem Tb.sl130 : slT Tryz.prog 130 = none := by kernel_rfl
@[simp] theorem Tb.st130 : isStr Tryz.prog 130 = false := by kernel_rfl
@[simp] theorem Tb.bo130 : isBool Tryz.prog 130 = false := by kernel_rfl
@[simp] theorem Tb.in130 : intT Tryz.prog 130 = none := by kernel_rfl
@[simp] theorem Tb.un130 : (Tryz.prog.underlying 130).isSome = true := by kernel_rfl
@[simp] theorem Tb.zr130 : zrT Tryz.prog 130 = [.nilFunc] := by kernel_rfl
@[simp] theorem Tb.za130 : (Tryz.prog.info? 130).any (·.zero.isSome) = true := by kernel_rfl
@[simp] theorem Tb.zb130 : ((Tryz.prog.info? 130).bind (·.zero)).isSome = true := by kernel_rfl
@[simp] theorem Tb.el130 : elOK Tryz.prog 130 := elOK_of (by kernel_rfl)
@[simp] theorem Tb.tk131 : tk Tryz.prog 131 = 1 := by kernel_rfl
@[simp] theorem Tb.sz131 : Program.cellsOf Tryz.prog 131 = 1 := by kernel_rfl
@[simp] theorem Tb.sl131 : slT Tryz.prog 131 = none := by kernel_rfl
@[simp] theorem Tb.st131 : isStr Tryz.prog 131 = false := by kernel_rfl
@[simp] theorem Tb.bo131 : isBool Tryz.prog 131 = false := by kernel_rfl
@[simp] theorem Tb.in131 : intT Tryz.prog 131 = none := by kernel_rfl
@[simp] theorem Tb.un131 : (Tryz.prog.underlying 131).isSome = true := by kernel_rfl
@[simp] theorem Tb.zr131 : zrT Tryz.prog 131 = [.nilFunc] := by kernel_rfl
@[simp] theorem Tb.za131 : (Tryz.prog.info? 131).any (·.zero.isSome) = true := by kernel_rfl
@[simp] theorem Tb.zb131 : ((Tryz.prog.info? 131).bind (·.zero)).isSome = true := by kernel_rfl
@[simp] theorem Tb.el131 : elOK Tryz.prog 131 := elOK_of (by kernel_rfl)
@[simp] theorem Tb.tk132 : tk Tryz.prog 132 = 1 := by kernel_rfl
@[simp] theorem Tb.sz132 : Program.cellsOf Tryz.prog 132 = 1 := by kernel_rfl
@[simp] theorem Tb.sl132 : slT Tryz.prog 132 = none := by kernel_rfl
@[simp] theorem Tb.st132 : isStr Tryz.prog 132 = false := by kernel_rfl
@[simp] theorem Tb.bo132 : isBool Tryz.prog 132 = false := by kernel_rfl
@[simp] theorem Tb.in132 : intT Tryz.prog 132 = none := by kernel_rfl
@[simp] theorem Tb.un132 : (Tryz.prog.underlying 132).isSome = true := by kernel_rfl
@[simp] theorem Tb.zr132 : zrT Tryz.prog 132 = [.nilFunc] := by kernel_rfl
@[simp] theorem Tb.za132 : (Tryz.prog.info? 132).any (·.zero.isSome) = true := by kernel_rfl
@[simp] theorem Tb.zb132 : ((Tryz.prog.info? 132).bind (·.zero)).isSome = true := by kernel_rfl
@[simp] theorem Tb.el132 : elOK Tryz.prog 132 := elOK_of (by kernel_rfl)
@[simp] theorem Tb.tk133 : tk Tryz.prog 133 = 1 := by kernel_rfl
@[simp] theorem Tb.sz133 : Program.cellsOf Tryz.prog 133 = 1 := by kernel_rfl
@[simp] theorem Tb.sl133 : slT Tryz.prog 133 = none := by kernel_rfl
@[simp] theorem Tb.st133 : isStr Tryz.prog 133 = false := by kernel_rfl
@[simp] theorem Tb.bo133 : isBool Tryz.prog 133 = false := by kernel_rfl
@[simp] theorem Tb.in133 : intT Tryz.prog 133 = none := by kernel_rfl
@[simp] theorem Tb.un133 : (Tryz.prog.underlying 133).isSome = true := by kernel_rfl
@[simp] theorem Tb.zr133 : zrT Tryz.prog 133 = [.nilFunc] := by kernel_rfl
@[simp] theorem Tb.za133 : (Tryz.prog.info? 133).any (·.zero.isSome) = true := by kernel_rfl
@[simp] theorem Tb.zb133 : ((Tryz.prog.info? 133).bind (·.zero)).isSome = true := by kernel_rfl
@[simp] theorem Tb.el133 : elOK Tryz.prog 133 := elOK_of (by kernel_rfl)
@[simp] theorem Tb.tk134 : tk Tryz.prog 134 = 1 := by kernel_rfl
@[simp] theorem Tb.sz134 : Program.cellsOf Tryz.prog 134 = 1 := by kernel_rfl
@[simp] theorem Tb.sl134 : slT Tryz.prog 134 = none := by kernel_rfl
@[simp] theorem Tb.st134 : isStr Tryz.prog 134 = false := by kernel_rfl
@[simp] theorem Tb.bo134 : isBool Tryz.prog 134 = false := by kernel_rfl
@[simp] theorem Tb.in134 : intT Tryz.prog 134 = none := by kernel_rfl
@[simp] theorem Tb.un134 : (Tryz.prog.underlying 134).isSome = true := by kernel_rfl
@[simp] theorem Tb.zr134 : zrT Tryz.prog 134 = [.nilFunc] := by kernel_rfl
@[simp] theorem Tb.za134 : (Tryz.prog.info? 134).any (·.zero.isSome) = true := by kernel_rfl
@[simp] theorem Tb.zb134 : ((Tryz.prog.info? 134).bind (·.zero)).isSome = true := by kernel_rfl
@[simp] theorem Tb.el134 : elOK Tryz.prog 134 := elOK_of (by kernel_rfl)
@[simp] theorem Tb.tk135 : tk Tryz.prog 135 = 1 := by kernel_rfl
@[simp] theorem Tb.sz135 : Program.cellsOf Tryz.prog 135 = 1 := by kernel_rfl
@[simp] theorem Tb.sl135 : slT Tryz.prog 135 = none := by kernel_rfl
@[simp] theorem Tb.st135 : isStr Tryz.prog 135 = false := by kernel_rfl
@[simp] theorem Tb.bo135 : isBool Tryz.prog 135 = false := by kernel_rfl
@[simp] theorem Tb.in135 : intT Tryz.prog 135 = none := by kernel_rfl
@[simp] theorem Tb.un135 : (Tryz.prog.underlying 135).isSome = true := by kernel_rfl
@[simp] theorem Tb.zr135 : zrT Tryz.prog 135 = [.nilFunc] := by kernel_rfl
@[simp] theorem Tb.za135 : (Tryz.prog.info? 135).any (·.zero.isSome) = true := by kernel_rfl
@[simp] theorem Tb.zb135 : ((Tryz.prog.info? 135).bind (·.zero)).isSome = true := by kernel_rfl
@[simp] theorem Tb.el135 : elOK Tryz.prog 135 := elOK_of (by kernel_rfl)
@[simp] theorem Tb.tk136 : tk Tryz.prog 136 = 1 := by kernel_rfl
@[simp] theorem Tb.sz136 : Program.cellsOf Tryz.prog 136 = 1 := by kernel_rfl
@[simp] theorem Tb.sl136 : slT Tryz.prog 136 = none := by kernel_rfl
@[simp] theorem Tb.st136 : isStr Tryz.prog 136 = false := by kernel_rfl
@[simp] theorem Tb.bo136 : isBool Tryz.prog 136 = false := by kernel_rfl
@[simp] theorem Tb.in136 : intT Tryz.prog 136 = none := by kernel_rfl
@[simp] theorem Tb.un136 : (Tryz.prog.underlying 136).isSome = true := by kernel_rfl
@[simp] theorem Tb.zr136 : zrT Tryz.prog 136 = [.nilFunc] := by kernel_rfl
@[simp] theorem Tb.za136 : (Tryz.prog.info? 136).any (·.zero.isSome) = true := by kernel_rfl
@[simp] theorem Tb.zb136 : ((Tryz.prog.info? 136).bind (·.zero)).isSome = true := by kernel_rfl
@[simp] theorem Tb.el136 : elOK Tryz.prog 136 := elOK_of (by kernel_rfl)
@[simp] theorem Tb.tk137 : tk Tryz.prog 137 = 1 := by kernel_rfl
@[simp] theorem Tb.sz137 : Program.cellsOf Tryz.prog 137 = 1 := by kernel_rfl
@[simp] theorem Tb.sl137 : slT Tryz.prog 137 = none := by kernel_rfl
@[simp] theorem Tb.st137 : isStr Tryz.prog 137 = false := by kernel_rfl
@[simp] theorem Tb.bo137 : isBool Tryz.prog 137 = false := by kernel_rfl
@[simp] theorem Tb.in137 : intT Tryz.prog 137 = none := by kernel_rfl
@[simp] theorem Tb.un137 : (Tryz.prog.underlying 137).isSome = true := by kernel_rfl
@[simp] theorem Tb.zr137 : zrT Tryz.prog 137 = [.nilFunc] := by kernel_rfl
@[simp] theorem Tb.za137 : (Tryz.prog.info? 137).any (·.zero.isSome) = true := by kernel_rfl
@[simp] theorem Tb.zb137 : ((Tryz.prog.info? 137).bind (·.zero)).isSome = true := by kernel_rfl
@[simp] theorem Tb.el137 : elOK Tryz.prog 137 := elOK_of (by kernel_rfl)
@[simp] theorem Tb.tk138 : tk Tryz.prog 138 = 1 := by kernel_rfl
@[simp] theorem Tb.sz138 : Program.cellsOf Tryz.prog 138 = 1 := by kernel_rfl
@[simp] theorem Tb.sl138 : slT Tryz.prog 138 = none := by kernel_rfl
@[simp] theorem Tb.st138 : isStr Tryz.prog 138 = false := by kernel_rfl
@[simp] theorem Tb.bo138 : isBool Tryz.prog 138 = false := by kernel_rfl
@[simp] theorem Tb.in138 : intT Tryz.prog 138 = none := by kernel_rfl
@[simp] theorem Tb.un138 : (Tryz.prog.underlying 138).isSome = true := by kernel_rfl
@[simp] theorem Tb.zr138 : zrT Tryz.prog 138 = [.nilFunc] := by kernel_rfl
@[simp] theorem Tb.za138 : (Tryz.prog.info? 138).any (·.zero.isSome) = true := by kernel_rfl
@[simp] theorem Tb.zb138 : ((Tryz.prog.info? 138).bind (·.zero)).isSome = true := by kernel_rfl
@[simp] theorem Tb.el138 : elOK Tryz.prog 138 := elOK_of (by kernel_rfl)
@[simp] theorem Tb.tk139 : tk Tryz.prog 139 = 1 := by kernel_rfl
@[simp] theorem Tb.sz139 : Program.cellsOf Tryz.prog 139 = 1 := by kernel_rfl
@[simp] theorem Tb.sl139 : slT Tryz.prog 139 = none := by kernel_rfl
@[simp] theorem Tb.st139 : isStr Tryz.prog 139 = false := by kernel_rfl
@[simp] theorem Tb.bo139 : isBool Tryz.prog 139 = false := by kernel_rfl
@[simp] theorem Tb.in139 : intT Tryz.prog 139 = none := by kernel_rfl
@[simp] theorem Tb.un139 : (Tryz.prog.underlying 139).isSome = true := by kernel_rfl
@[simp] theorem Tb.zr139 : zrT Tryz.prog 139 = [.nilFunc] := by kernel_rfl
@[simp] theorem Tb.za139 : (Tryz.prog.info? 139).any (·.zero.isSome) = true := by kernel_rfl
@[simp] theorem Tb.zb139 : ((Tryz.prog.info? 139).bind (·.zero)).isSome = true := by kernel_rfl
@[simp] theorem Tb.el139 : elOK Tryz.prog 139 := elOK_of (by kernel_rfl)
@[simp] theorem Tb.tk140 : tk Tryz.prog 140 = 1 := by kernel_rfl
@[simp] theorem Tb.sz140 : Program.cellsOf Tryz.prog 140 = 1 := by kernel_rfl
@[simp] theorem Tb.sl140 : slT Tryz.prog 140 = none := by kernel_rfl
@[simp] theorem Tb.st140 : isStr Tryz.prog 140 = false := by kernel_rfl
@[simp] theorem Tb.bo140 : isBool Tryz.prog 140 = false := by kernel_rfl
@[simp] theorem Tb.in140 : intT Tryz.prog 140 = none := by kernel_rfl
@[simp] theorem Tb.un140 : (Tryz.prog.underlying 140).isSome = true := by kernel_rfl
@[simp] theorem Tb.zr140 : zrT Tryz.prog 140 = [.nilFunc] := by kernel_rfl
@[simp] theorem Tb.za140 : (Tryz.prog.info? 140).any (·.zero.isSome) = true := by kernel_rfl
@[simp] theorem Tb.zb140 : ((Tryz.prog.info? 140).bind (·.zero)).isSome = true := by kernel_rfl
@[simp] theorem Tb.el140 : elOK Tryz.prog 140 := elOK_of (by kernel_rfl)
@[simp] theorem Tb.tk141 : tk Tryz.prog 141 = 1 := by kernel_rfl
@[simp] theorem Tb.sz141 : Program.cellsOf Tryz.prog 141 = 1 := by kernel_rfl
@[simp] theorem Tb.sl141 : slT Tryz.prog 141 = none := by kernel_rfl
@[simp] theorem Tb.st141 : isStr Tryz.prog 141 = false := by kernel_rfl
@[simp] theorem Tb.bo141 : isBool Tryz.prog 141 = false := by kernel_rfl
@[simp] theorem Tb.in141 : intT Tryz.prog 141 = none := by kernel_rfl
@[simp] theorem Tb.un141 : (Tryz.prog.underlying 141).isSome = true := by kernel_rfl
@[simp] theorem Tb.zr141 : zrT Tryz.prog 141 = [.nilFunc] := by kernel_rfl
@[simp] theorem Tb.za141 : (Tryz.prog.info? 141).any (·.zero.isSome) = true := by kernel_rfl
@[simp] theorem Tb.zb141 : ((Tryz.prog.info? 141).bind (·.zero)).isSome = true := by kernel_rfl
@[simp] theorem Tb.el141 : elOK Tryz.prog 141 := elOK_of (by kernel_rfl)
@[simp] theorem Tb.tk142 : tk Tryz.prog 142 = 1 := by kernel_rfl
@[simp] theorem Tb.sz142 : Program.cellsOf Tryz.prog 142 = 1 := by kernel_rfl
@[simp] theorem Tb.sl142 : slT Tryz.prog 142 = none := by kernel_rfl
@[simp] theorem Tb.st142 : isStr Tryz.prog 142 = false := by kernel_rfl
@[simp] theorem Tb.bo142 : isBool Tryz.prog 142 = false := by kernel_rfl
@[simp] theorem Tb.in142 : intT Tryz.prog 142 = none := by kernel_rfl
@[simp] theorem Tb.un142 : (Tryz.prog.underlying 142).isSome = true := by kernel_rfl
@[simp] theorem Tb.zr142 : zrT Tryz.prog 142 = [.nilFunc] := by kernel_rfl
@[simp] theorem Tb.za142 : (Tryz.prog.info? 142).any (·.zero.isSome) = true := by kernel_rfl
@[simp] theorem Tb.zb142 : ((Tryz.prog.info? 142).bind (·.zero)).isSome = true := by kernel_rfl
@[simp] theorem Tb.el142 : elOK Tryz.prog 142 := elOK_of (by kernel_rfl)
@[simp] theorem Tb.tk143 : tk Tryz.prog 143 = 1 := by kernel_rfl
@[simp] theorem Tb.sz143 : Program.cellsOf Tryz.prog 143 = 1 := by kernel_rfl
@[simp] theorem Tb.sl143 : slT Tryz.prog 143 = none := by kernel_rfl
@[simp] theorem Tb.st143 : isStr Tryz.prog 143 = false := by kernel_rfl
@[simp] theorem Tb.bo143 : isBool Tryz.prog 143 = false := by kernel_rfl
@[simp] theorem Tb.in143 : intT Tryz.prog 143 = none := by kernel_rfl
@[simp] theorem Tb.un143 : (Tryz.prog.underlying 143).isSome = true := by kernel_rfl
@[simp] theorem Tb.zr143 : zrT Tryz.prog 143 = [.nilFunc] := by kernel_rfl
@[simp] theorem Tb.za143 : (Tryz.prog.info? 143).any (·.zero.isSome) = true := by kernel_rfl
@[simp] theorem Tb.zb143 : ((Tryz.prog.info? 143).bind (·.zero)).isSome = true := by kernel_rfl
@[simp] theorem Tb.el143 : elOK Tryz.prog 143 := elOK_of (by kernel_rfl)
@[simp] theorem Tb.tk145 : tk Tryz.prog 145 = 1 := by kernel_rfl
@[simp] theorem Tb.sz145 : Program.cellsOf Tryz.prog 145 = 1 := by kernel_rfl
@[simp] theorem Tb.sl145 : slT Tryz.prog 145 = none := by kernel_rfl
@[simp] theorem Tb.st145 : isStr Tryz.prog 145 = false := by kernel_rfl
@[simp] theorem Tb.bo145 : isBool Tryz.prog 145 = false := by kernel_rfl
@[simp] theorem Tb.in145 : intT Tryz.prog 145 = none := by kernel_rfl
@[simp] theorem Tb.un145 : (Tryz.prog.underlying 145).isSome = true := by kernel_rfl
@[simp] theorem Tb.zr145 : zrT Tryz.prog 145 = [.nilFunc] := by kernel_rfl
@[simp] theorem Tb.za145 : (Tryz.prog.info? 145).any (·.zero.isSome) = true := by kernel_rfl
@[simp] theorem Tb.zb145 : ((Tryz.prog.info? 145).bind (·.zero)).isSome = true := by kernel_rfl
@[simp] theorem Tb.el145 : elOK Tryz.prog 145 := elOK_of (by kernel_rfl)
@[simp] theorem Tb.tk146 : tk Tryz.prog 146 = 1 := by kernel_rfl
@[simp] theorem Tb.sz146 : Program.cellsOf Tryz.prog 146 = 1 := by kernel_rfl
@[simp] theorem Tb.sl146 : slT Tryz.prog 146 = none := by kernel_rfl
@[simp] theorem Tb.st146 : isStr Tryz.prog 146 = false := by kernel_rfl
@[simp] theorem Tb.bo146 : isBool Tryz.prog 146 = false := by kernel_rfl
@[simp] theorem Tb.in146 : intT Tryz.prog 146 = none := by kernel_rfl
@[simp] theorem Tb.un146 : (Tryz.prog.underlying 146).isSome = true := by kernel_rfl
@[simp] theorem Tb.zr146 : zrT Tryz.prog 146 = [.nilFunc] := by kernel_rfl
@[simp] theorem Tb.za146 : (Tryz.prog.info? 146).any (·.zero.isSome) = true := by kernel_rfl
@[simp] theorem Tb.zb146 : ((Tryz.prog.info? 146).bind (·.zero)).isSome = true := by kernel_rfl
@[simp] theorem Tb.el146 : elOK Tryz.prog 146 := elOK_of (by kernel_rfl)
@[simp] theorem Tb.tk147 : tk Tryz.prog 147 = 1 := by kernel_rfl
@[simp] theorem Tb.sz147 : Program.cellsOf Tryz.prog 147 = 1 := by kernel_rfl
@[simp] theorem Tb.sl147 : slT Tryz.prog 147 = none := by kernel_rfl
@[simp] theorem Tb.st147 : isStr Tryz.prog 147 = false := by kernel_rfl
@[simp] theorem Tb.bo147 : isBool Tryz.prog 147 = false := by kernel_rfl
@[simp] theorem Tb.in147 : intT Tryz.prog 147 = none := by kernel_rfl
@[simp] theorem Tb.un147 : (Tryz.prog.underlying 147).isSome = true := by kernel_rfl
@[simp] theorem Tb.zr147 : zrT Tryz.prog 147 = [.nilFunc] := by kernel_rfl
@[simp] theorem Tb.za147 : (Tryz.prog.info? 147).any (·.zero.isSome) = true := by kernel_rfl
@[simp] theorem Tb.zb147 : ((Tryz.prog.info? 147).bind (·.zero)).isSome = true := by kernel_rfl
@[simp] theorem Tb.el147 : elOK Tryz.prog 147 := elOK_of (by kernel_rfl)
@[simp] theorem Tb.tk148 : tk Tryz.prog 148 = 2 := by kernel_rfl
@[simp] theorem Tb.sz148 : Program.cellsOf Tryz.prog 148 = 3 := by kernel_rfl
@[simp] theorem Tb.sl148 : slT Tryz.prog 148 = none := by kernel_rfl
@[simp] theorem Tb.ar148 : arT Tryz.prog 148 = some (3, 147) := by kernel_rfl
@[simp] theorem Tb.st148 : isStr Tryz.prog 148 = false := by kernel_rfl
@[simp] theorem Tb.bo148 : isBool Tryz.prog 148 = false := by kernel_rfl
@[simp] theorem Tb.in148 : intT Tryz.prog 148 = none := by kernel_rfl
@[simp] theorem Tb.un148 : (Tryz.prog.underlying 148).isSome = true := by kernel_rfl
@[simp] theorem Tb.zr148 : zrT Tryz.prog 148 = [.nilFunc, .nilFunc, .nilFunc] := by kernel_rfl
@[simp] theorem Tb.za148 : (Tryz.prog.info? 148).any (·.zero.isSome) = true := by kernel_rfl
@[simp] theorem Tb.zb148 : ((Tryz.prog.info? 148).bind (·.zero)).isSome = true := by kernel_rfl
@[simp] theorem Tb.el148 : elOK Tryz.prog 148 := elOK_of (by kernel_rfl)
@[simp] theorem Tb.bl148 : bldT Tryz.prog 148 = some ([.nilFunc, .nilFunc, .nilFunc], [(0, 1), (1, 1), (2, 1)]) := by kernel_rfl
@[simp] theorem Tb.tk149 : tk Tryz.prog 149 = 1 := by kernel_rfl
@[simp] theorem Tb.sz149 : Program.cellsOf Tryz.prog 149 = 1 := by kernel_rfl
@[simp] theorem Tb.sl149 : slT Tryz.prog 149 = none := by kernel_rfl
@[simp] theorem Tb.st149 : isStr Tryz.prog 149 = false := by kernel_rfl
@[simp] theorem Tb.bo149 : isBool Tryz.prog 149 = false := by kernel_rfl
@[simp] theorem Tb.in149 : intT Tryz.prog 149 = none := by kernel_rfl
@[simp] theorem Tb.un149 : (Tryz.prog.underlying 149).isSome = true := by kernel_rfl
@[simp] theorem Tb.zr149 : zrT Tryz.prog 149 = [.nilFunc] := by kernel_rfl
@[simp] theorem Tb.za149 : (Tryz.prog.info? 149).any (·.zero.isSome) = true := by kernel_rfl
@[simp] theorem Tb.zb149 : ((Tryz.prog.info? 149).bind (·.zero)).isSome = true := by kernel_rfl
@[simp] theorem Tb.el149 : elOK Tryz.prog 149 := elOK_of (by kernel_rfl)
@[simp] theorem Tb.tk150 : tk Tryz.prog 150 = 2 := by kernel_rfl
@[simp] theorem Tb.sz150 : Program.cellsOf Tryz.prog 150 = 3 := by kernel_rfl
@[simp] theorem Tb.ff150_0 : foff Tryz.prog 150 0 = some (0, 4) := by kernel_rfl
@[simp] theorem Tb.ff150_1 : foff Tryz.prog 150 1 = some (1, 3) := by kernel_rfl
@[simp] theorem Tb.ff150_2 : foff Tryz.prog 150 2 = some (2, 4) := by kernel_rfl
@[simp] theorem Tb.cm150 : cmpT Tryz.prog 150 = some [.bool, .int .i64, .bool] := by kernel_rfl
@[simp] theorem Tb.sl150 : slT Tryz.prog 150 = none := by kernel_rfl
@[simp] theorem Tb.st150 : isStr Tryz.prog 150 = false := by kernel_rfl
@[simp] theorem Tb.bo150 : isBool Tryz.prog 150 = false := by kernel_rfl
@[simp] theorem Tb.in150 : intT Tryz.prog 150 = none := by kernel_rfl
@[simp] theorem Tb.un150 : (Tryz.prog.underlying 150).isSome = true := by kernel_rfl
@[simp] theorem Tb.zr150 : zrT Tryz.prog 150 = [.bool false, .int .i64 0, .bool false] := by kernel_rfl
@[simp] theorem Tb.za150 : (Tryz.prog.info? 150).any (·.zero.isSome) = true := by kernel_rfl
@[simp] theorem Tb.zb150 : ((Tryz.prog.info? 150).bind (·.zero)).isSome = true := by kernel_rfl
@[simp] theorem Tb.el150 : elOK Tryz.prog 150 := elOK_of (by kernel_rfl)
@[simp] theorem Tb.bl150 : bldT Tryz.prog 150 = some ([.bool false, .int .i64 0, .bool false], [(0, 1), (1, 1), (2, 1)]) := by kernel_rfl
@[simp] theorem Tb.tk151 : tk Tryz.prog 151 = 2 := by kernel_rfl
@[simp] theorem Tb.sz151 : Program.cellsOf Tryz.prog 151 = 3 := by kernel_rfl
@[simp] theorem Tb.ff151_0 : foff Tryz.prog 151 0 = some (0, 4) := by kernel_rfl
@[simp] theorem Tb.ff151_1 : foff Tryz.prog 151 1 = some (1, 3) := by kernel_rfl
@[simp] theorem Tb.ff151_2 : foff Tryz.prog 151 2 = some (2, 4) := by kernel_rfl
@[simp] theorem Tb.cm151 : cmpT Tryz.prog 151 = some [.bool, .int .i64, .bool] := by kernel_rfl
@[simp] theorem Tb.sl151 : slT Tryz.prog 151 = none := by kernel_rfl
@[simp] theorem Tb.st151 : isStr Tryz.prog 151 = false := by kernel_rfl
@[simp] theorem Tb.bo151 : isBool Tryz.prog 151 = false := by kernel_rfl
@[simp] theorem Tb.in151 : intT Tryz.prog 151 = none := by kernel_rfl
@[simp] theorem Tb.un151 : (Tryz.prog.underlying 151).isSome = true := by kernel_rfl
@[simp] theorem Tb.zr151 : zrT Tryz.prog 151 = [.bool false, .int .i64 0, .bool false] := by kernel_rfl
@[simp] theorem Tb.za151 : (Tryz.prog.info? 151).any (·.zero.isSome) = true := by kernel_rfl
@[simp] theorem Tb.zb151 : ((Tryz.prog.info? 151).bind (·.zero)).isSome = true := by kernel_rfl
@[simp] theorem Tb.el151 : elOK Tryz.prog 151 := elOK_of (by kernel_rfl)
@[simp] theorem Tb.bl151 : bldT Tryz.prog 151 = some ([.bool false, .int .i64 0, .bool false], [(0, 1), (1, 1), (2, 1)]) := by kernel_rfl
@[simp] theorem Tb.tk152 : tk Tryz.prog 152 = 1 := by kernel_rfl
@[simp] theorem Tb.sz152 : Program.cellsOf Tryz.prog 152 = 1 := by kernel_rfl
@[simp] theorem Tb.sl152 : slT Tryz.prog 152 = some 27 := by kernel_rfl
@[simp] theorem Tb.st152 : isStr Tryz.prog 152 = false := by kernel_rfl
@[simp] theorem Tb.bo152 : isBool Tryz.prog 152 = false := by kernel_rfl
@[simp] theorem Tb.in152 : intT Tryz.prog 152 = none := by kernel_rfl
@[simp] theorem Tb.un152 : (Tryz.prog.underlying 152).isSome = true := by kernel_rfl
@[simp] theorem Tb.zr152 : zrT Tryz.prog 152 = [.slice none 0 0] := by kernel_rfl
@[simp] theorem Tb.za152 : (Tryz.prog.info? 152).any (·.zero.isSome) = true := by kernel_rfl
@[simp] theorem Tb.zb152 : ((Tryz.prog.info? 152).bind (·.zero)).isSome = true := by kernel_rfl
@[simp] theorem Tb.el152 : elOK Tryz.prog 152 := elOK_of (by kernel_rfl)
@[simp] theorem Tb.tk153 : tk Tryz.prog 153 = 1 := by kernel_rfl
@[simp] theorem Tb.sz153 : Program.cellsOf Tryz.prog 153 = 1 := by kernel_rfl
@[simp] theorem Tb.sl153 : slT Tryz.prog 153 = none := by kernel_rfl
@[simp] theorem Tb.st153 : isStr Tryz.prog 153 = false := by kernel_rfl
@[simp] theorem Tb.bo153 : isBool Tryz.prog 153 = false := by kernel_rfl
@[simp] theorem Tb.in153 : intT Tryz.prog 153 = none := by kernel_rfl
@[simp] theorem Tb.un153 : (Tryz.prog.underlying 153).isSome = true := by kernel_rfl
@[simp] theorem Tb.zr153 : zrT Tryz.prog 153 = [.nilFunc] := by kernel_rfl
@[simp] theorem Tb.za153 : (Tryz.prog.info? 153).any (·.zero.isSome) = true := by kernel_rfl
@[simp] theorem Tb.zb153 : ((Tryz.prog.info? 153).bind (·.zero)).isSome = true := by kernel_rfl
@[simp] theorem Tb.el153 : elOK Tryz.prog 153 := elOK_of (by kernel_rfl)
@[simp] theorem Tb.tk154 : tk Tryz.prog 154 = 1 := by kernel_rfl
@[simp] theorem Tb.sz154 : Program.cellsOf Tryz.prog 154 = 1 := by kernel_rfl
@[simp] theorem Tb.sl154 : slT Tryz.prog 154 = none := by kernel_rfl
@[simp] theorem Tb.mp154 : mpT Tryz.prog 154 = some (.string, .int .i64 0) := by kernel_rfl
@[simp] theorem Tb.st154 : isStr Tryz.prog 154 = false := by kernel_rfl
@[simp] theorem Tb.bo154 : isBool Tryz.prog 154 = false := by kernel_rfl
@[simp] theorem Tb.in154 : intT Tryz.prog 154 = none := by kernel_rfl
@[simp] theorem Tb.un154 : (Tryz.prog.underlying 154).isSome = true := by kernel_rfl
@[simp] theorem Tb.zr154 : zrT Tryz.prog 154 = [.map none] := by kernel_rfl
@[simp] theorem Tb.za154 : (Tryz.prog.info? 154).any (·.zero.isSome) = true := by kernel_rfl
@[simp] theorem Tb.zb154 : ((Tryz.prog.info? 154).bind (·.zero)).isSome = true := by kernel_rfl
@[simp] theorem Tb.el154 : elOK Tryz.prog 154 := elOK_of (by kernel_rfl)
@[simp] theorem Tb.tk156 : tk Tryz.prog 156 = 1 := by kernel_rfl
@[simp] theorem Tb.sz156 : Program.cellsOf Tryz.prog 156 = 1 := by kernel_rfl
@[simp] theorem Tb.sl156 : slT Tryz.prog 156 = none := by kernel_rfl
@[simp] theorem Tb.st156 : isStr Tryz.prog 156 = false := by kernel_rfl
@[simp] theorem Tb.bo156 : isBool Tryz.prog 156 = false := by kernel_rfl
@[simp] theorem Tb.in156 : intT Tryz.prog 156 = none := by kernel_rfl
@[simp] theorem Tb.un156 : (Tryz.prog.underlying 156).isSome = true := by kernel_rfl
@[simp] theorem Tb.zr156 : zrT Tryz.prog 156 = [.nilFunc] := by kernel_rfl
@[simp] theorem Tb.za156 : (Tryz.prog.info? 156).any (·.zero.isSome) = true := by kernel_rfl
@[simp] theorem Tb.zb156 : ((Tryz.prog.info? 156).bind (·.zero)).isSome = true := by kernel_rfl
@[simp] theorem Tb.el156 : elOK Tryz.prog 156 := elOK_of (by kernel_rfl)
@[simp] theorem Tb.tk157 : tk Tryz.prog 157 = 1 := by kernel_rfl
@[simp] theorem Tb.sz157 : Program.cellsOf Tryz.prog 157 = 1 := by kernel_rfl
@[simp] theorem Tb.sl157 : slT Tryz.prog 157 = none := by kernel_rfl
@[simp] theorem Tb.st157 : isStr Tryz.prog 157 = false := by kernel_rfl
@[simp] theorem Tb.bo157 : isBool Tryz.prog 157 = false := by kernel_rfl
@[simp] theorem Tb.in157 : intT Tryz.prog 157 = none := by kernel_rfl
@[simp] theorem Tb.un157 : (Tryz.prog.underlying 157).isSome = true := by kernel_rfl
@[simp] theorem Tb.zr157 : zrT Tryz.prog 157 = [.nilFunc] := by kernel_rfl
@[simp] theorem Tb.za157 : (Tryz.prog.info? 157).any (·.zero.isSome) = true := by kernel_rfl
@[simp] theorem Tb.zb157 : ((Tryz.prog.info? 157).bind (·.zero)).isSome = true := by kernel_rfl
@[simp] theorem Tb.el157 : elOK Tryz.prog 157 := elOK_of (by kernel_rfl)
@[simp] theorem Tb.tk158 : tk Tryz.prog 158 = 1 := by kernel_rfl
@[simp] theorem Tb.sz158 : Program.cellsOf Tryz.prog 158 = 1 := by kernel_rfl
@[simp] theorem Tb.sl158 : slT Tryz.prog 158 = none := by kernel_rfl
@[simp] theorem Tb.st158 : isStr Tryz.prog 158 = false := by kernel_rfl
@[simp] theorem Tb.bo158 : isBool Tryz.prog 158 = false := by kernel_rfl
@[simp] theorem Tb.in158 : intT Tryz.prog 158 = none := by kernel_rfl
@[simp] theorem Tb.un158 : (Tryz.prog.underlying 158).isSome = true := by kernel_rfl
@[simp] theorem Tb.zr158 : zrT Tryz.prog 158 = [.nilFunc] := by kernel_rfl
@[simp] theorem Tb.za158 : (Tryz.prog.info? 158).any (·.zero.isSome) = true := by kernel_rfl
@[simp] theorem Tb.zb158 : ((Tryz.prog.info? 158).bind (·.zero)).isSome = true := by kernel_rfl
@[simp] theorem Tb.el158 : elOK Tryz.prog 158 := elOK_of (by kernel_rfl)
@[simp] theorem Tb.tk159 : tk Tryz.prog 159 = 1 := by kernel_rfl
@[simp] theorem Tb.sz159 : Program.cellsOf Tryz.prog 159 = 1 := by kernel_rfl
@[simp] theorem Tb.sl159 : slT Tryz.prog 159 = none := by kernel_rfl
@[simp] theorem Tb.st159 : isStr Tryz.prog 159 = false := by kernel_rfl
@[simp] theorem Tb.bo159 : isBool Tryz.prog 159 = false := by kernel_rfl
@[simp] theorem Tb.in159 : intT Tryz.prog 159 = none := by kernel_rfl
@[simp] theorem Tb.un159 : (Tryz.prog.underlying 159).isSome = true := by kernel_rfl
@[simp] theorem Tb.zr159 : zrT Tryz.prog 159 = [.nilFunc] := by kernel_rfl
@[simp] theorem Tb.za159 : (Tryz.prog.info? 159).any (·.zero.isSome) = true := by kernel_rfl
@[simp] theorem Tb.zb159 : ((Tryz.prog.info? 159).bind (·.zero)).isSome = true := by kernel_rfl
@[simp] theorem Tb.el159 : elOK Tryz.prog 159 := elOK_of (by kernel_rfl)
@[simp] theorem Tb.tk160 : tk Tryz.prog 160 = 1 := by kernel_rfl
@[simp] theorem Tb.sz160 : Program.cellsOf Tryz.prog 160 = 1 := by kernel_rfl
@[simp] theorem Tb.sl160 : slT Tryz.prog 160 = none := by kernel_rfl
@[simp] theorem Tb.st160 : isStr Tryz.prog 160 = false := by kernel_rfl
@[simp] theorem Tb.bo160 : isBool Tryz.prog 160 = false := by kernel_rfl
@[simp] theorem Tb.in160 : intT Tryz.prog 160 = none := by kernel_rfl
@[simp] theorem Tb.un160 : (Tryz.prog.underlying 160).isSome = true := by kernel_rfl
@[simp] theorem Tb.zr160 : zrT Tryz.prog 160 = [.nilFunc] := by kernel_rfl
@[simp] theorem Tb.za160 : (Tryz.prog.info? 160).any (·.zero.isSome) = true := by kernel_rfl
@[simp] theorem Tb.zb160 : ((Tryz.prog.info? 160).bind (·.zero)).isSome = true := by kernel_rfl
@[simp] theorem Tb.el160 : elOK Tryz.prog 160 := elOK_of (by kernel_rfl)
@[simp] theorem Tb.tk161 : tk Tryz.prog 161 = 1 := by kernel_rfl
@[simp] theorem Tb.sz161 : Program.cellsOf Tryz.prog 161 = 1 := by kernel_rfl
@[simp] theorem Tb.sl161 : slT Tryz.prog 161 = none := by kernel_rfl
@[simp] theorem Tb.st161 : isStr Tryz.prog 161 = false := by kernel_rfl
@[simp] theorem Tb.bo161 : isBool Tryz.prog 161 = false := by kernel_rfl
@[simp] theorem Tb.in161 : intT Tryz.prog 161 = none := by kernel_rfl
@[simp] theorem Tb.un161 : (Tryz.prog.underlying 161).isSome = true := by kernel_rfl
@[simp] theorem Tb.zr161 : zrT Tryz.prog 161 = [.nilFunc] := by kernel_rfl
@[simp] theorem Tb.za161 : (Tryz.prog.info? 161).any (·.zero.isSome) = true := by kernel_rfl
@[simp] theorem Tb.zb161 : ((Tryz.prog.info? 161).bind (·.zero)).isSome = true := by kernel_rfl
@[simp] theorem Tb.el161 : elOK Tryz.prog 161 := elOK_of (by kernel_rfl)
@[simp] theorem Tb.tk163 : tk Tryz.prog 163 = 1 := by kernel_rfl
@[simp] theorem Tb.sz163 : Program.cellsOf Tryz.prog 163 = 1 := by kernel_rfl
@[simp] theorem Tb.sl163 : slT Tryz.prog 163 = none := by kernel_rfl
@[simp] theorem Tb.st163 : isStr Tryz.prog 163 = false := by kernel_rfl
@[simp] theorem Tb.bo163 : isBool Tryz.prog 163 = false := by kernel_rfl
@[simp] theorem Tb.in163 : intT Tryz.prog 163 = none := by kernel_rfl
@[simp] theorem Tb.un163 : (Tryz.prog.underlying 163).isSome = true := by kernel_rfl
@[simp] theorem Tb.zr163 : zrT Tryz.prog 163 = [.nilFunc] := by kernel_rfl
@[simp] theorem Tb.za163 : (Tryz.prog.info? 163).any (·.zero.isSome) = true := by kernel_rfl
@[simp] theorem Tb.zb163 : ((Tryz.prog.info? 163).bind (·.zero)).isSome = true := by kernel_rfl
@[simp] theorem Tb.el163 : elOK Tryz.prog 163 := elOK_of (by kernel_rfl)
@[simp] theorem Tb.tk164 : tk Tryz.prog 164 = 1 := by kernel_rfl
@[simp] theorem Tb.sz164 : Program.cellsOf Tryz.prog 164 = 1 := by kernel_rfl
@[simp] theorem Tb.sl164 : slT Tryz.prog 164 = none := by kernel_rfl
@[simp] theorem Tb.st164 : isStr Tryz.prog 164 = false := by kernel_rfl
@[simp] theorem Tb.bo164 : isBool Tryz.prog 164 = false := by kernel_rfl
@[simp] theorem Tb.in164 : intT Tryz.prog 164 = none := by kernel_rfl
@[simp] theorem Tb.un164 : (Tryz.prog.underlying 164).isSome = true := by kernel_rfl
@[simp] theorem Tb.zr164 : zrT Tryz.prog 164 = [.nilFunc] := by kernel_rfl
@[simp] theorem Tb.za164 : (Tryz.prog.info? 164).any (·.zero.isSome) = true := by kernel_rfl
@[simp] theorem Tb.zb164 : ((Tryz.prog.info? 164).bind (·.zero)).isSome = true := by kernel_rfl
@[simp] theorem Tb.el164 : elOK Tryz.prog 164 := elOK_of (by kernel_rfl)
@[simp] theorem Tb.tk165 : tk Tryz.prog 165 = 1 := by kernel_rfl
@[simp] theorem Tb.sz165 : Program.cellsOf Tryz.prog 165 = 1 := by kernel_rfl
@[simp] theorem Tb.sl165 : slT Tryz.prog 165 = none := by kernel_rfl
@[simp] theorem Tb.st165 : isStr Tryz.prog 165 = false := by kernel_rfl
@[simp] theorem Tb.bo165 : isBool Tryz.prog 165 = false := by kernel_rfl
@[simp] theorem Tb.in165 : intT Tryz.prog 165 = some .u64 := by kernel_rfl
@[simp] theorem Tb.un165 : (Tryz.prog.underlying 165).isSome = true := by kernel_rfl
@[simp] theorem Tb.zr165 : zrT Tryz.prog 165 = [.int .u64 0] := by kernel_rfl
@[simp] theorem Tb.za165 : (Tryz.prog.info? 165).any (·.zero.isSome) = true := by kernel_rfl
@[simp] theorem Tb.zb165 : ((Tryz.prog.info? 165).bind (·.zero)).isSome = true := by kernel_rfl
@[simp] theorem Tb.el165 : elOK Tryz.prog 165 := elOK_of (by kernel_rfl)
@[simp] theorem Tb.tk166 : tk Tryz.prog 166 = 1 := by kernel_rfl
@[simp] theorem Tb.sz166 : Program.cellsOf Tryz.prog 166 = 1 := by kernel_rfl
@[simp] theorem Tb.sl166 : slT Tryz.prog 166 = none := by kernel_rfl
@[simp] theorem Tb.st166 : isStr Tryz.prog 166 = false := by kernel_rfl
@[simp] theorem Tb.bo166 : isBool Tryz.prog 166 = false := by kernel_rfl
@[simp] theorem Tb.in166 : intT Tryz.prog 166 = none := by kernel_rfl
@[simp] theorem Tb.un166 : (Tryz.prog.underlying 166).isSome = true := by kernel_rfl
@[simp] theorem Tb.zr166 : zrT Tryz.prog 166 = [.nilFunc] := by kernel_rfl
@[simp] theorem Tb.za166 : (Tryz.prog.info? 166).any (·.zero.isSome) = true := by kernel_rfl
@[simp] theorem Tb.zb166 : ((Tryz.prog.info? 166).bind (·.zero)).isSome = true := by kernel_rfl
@[simp] theorem Tb.el166 : elOK Tryz.prog 166 := elOK_of (by kernel_rfl)
@[simp] theorem Tb.tk167 : tk Tryz.prog 167 = 1 := by kernel_rfl
@[simp] theorem Tb.sz167 : Program.cellsOf Tryz.prog 167 = 1 := by kernel_rfl
@[simp] theorem Tb.sl167 : slT Tryz.prog 167 = none := by kernel_rfl
@[simp] theorem Tb.st167 : isStr Tryz.prog 167 = false := by kernel_rfl
@[simp] theorem Tb.bo167 : isBool Tryz.prog 167 = false := by kernel_rfl
@[simp] theorem Tb.in167 : intT Tryz.prog 167 = none := by kernel_rfl
@[simp] theorem Tb.un167 : (Tryz.prog.underlying 167).isSome = true := by kernel_rfl
@[simp] theorem Tb.zr167 : zrT Tryz.prog 167 = [.nilFunc] := by kernel_rfl
@[simp] theorem Tb.za167 : (Tryz.prog.info? 167).any (·.zero.isSome) = true := by kernel_rfl
@[simp] theorem Tb.zb167 : ((Tryz.prog.info? 167).bind (·.zero)).isSome = true := by kernel_rfl
@[simp] theorem Tb.el167 : elOK Tryz.prog 167 := elOK_of (by kernel_rfl)
@[simp] theorem Tb.tk168 : tk Tryz.prog 168 = 1 := by kernel_rfl
@[simp] theorem Tb.sz168 : Program.cellsOf Tryz.prog 168 = 1 := by kernel_rfl
@[simp] theorem Tb.sl168 : slT Tryz.prog 168 = none := by kernel_rfl
@[simp] theorem Tb.st168 : isStr Tryz.prog 168 = false := by kernel_rfl
@[simp] theorem Tb.bo168 : isBool Tryz.prog 168 = false := by kernel_rfl
@[simp] theorem Tb.in168 : intT Tryz.prog 168 = none := by kernel_rfl
@[simp] theorem Tb.un168 : (Tryz.prog.underlying 168).isSome = true := by kernel_rfl
@[simp] theorem Tb.zr168 : zrT Tryz.prog 168 = [.nilFunc] := by kernel_rfl
@[simp] theorem Tb.za168 : (Tryz.prog.info? 168).any (·.zero.isSome) = true := by kernel_rfl
@[simp] theorem Tb.zb168 : ((Tryz.prog.info? 168).bind (·.zero)).isSome = true := by kernel_rfl
@[simp] theorem Tb.el168 : elOK Tryz.prog 168 := elOK_of (by kernel_rfl)
@[simp] theorem Tb.tk169 : tk Tryz.prog 169 = 1 := by kernel_rfl
@[simp] theorem Tb.sz169 : Program.cellsOf Tryz.prog 169 = 1 := by kernel_rfl
@[simp] theorem Tb.sl169 : slT Tryz.prog 169 = none := by kernel_rfl
@[simp] theorem Tb.st169 : isStr Tryz.prog 169 = false := by kernel_rfl
@[simp] theorem Tb.bo169 : isBool Tryz.prog 169 = false := by kernel_rfl
@[simp] theorem Tb.in169 : intT Tryz.prog 169 = none := by kernel_rfl
@[simp] theorem Tb.un169 : (Tryz.prog.underlying 169).isSome = true := by kernel_rfl
@[simp] theorem Tb.zr169 : zrT Tryz.prog 169 = [.nilFunc] := by kernel_rfl
@[simp] theorem Tb.za169 : (Tryz.prog.info? 169).any (·.zero.isSome) = true := by kernel_rfl
@[simp] theorem Tb.zb169 : ((Tryz.prog.info? 169).bind (·.zero)).isSome = true := by kernel_rfl
@[simp] theorem Tb.el169 : elOK Tryz.prog 169 := elOK_of (by kernel_rfl)
@[simp] theorem Tb.tk170 : tk Tryz.prog 170 = 1 := by kernel_rfl
@[simp] theorem Tb.sz170 : Program.cellsOf Tryz.prog 170 = 1 := by kernel_rfl
@[simp] theorem Tb.sl170 : slT Tryz.prog 170 = none := by kernel_rfl
@[simp] theorem Tb.st170 : isStr Tryz.prog 170 = false := by kernel_rfl
@[simp] theorem Tb.bo170 : isBool Tryz.prog 170 = false := by kernel_rfl
@[simp] theorem Tb.in170 : intT Tryz.prog 170 = none := by kernel_rfl
@[simp] theorem Tb.un170 : (Tryz.prog.underlying 170).isSome = true := by kernel_rfl
@[simp] theorem Tb.zr170 : zrT Tryz.prog 170 = [.nilFunc] := by kernel_rfl
@[simp] theorem Tb.za170 : (Tryz.prog.info? 170).any (·.zero.isSome) = true := by kernel_rfl
@[simp] theorem Tb.zb170 : ((Tryz.prog.info? 170).bind (·.zero)).isSome = true := by kernel_rfl
@[simp] theorem Tb.el170 : elOK Tryz.prog 170 := elOK_of (by kernel_rfl)
@[simp] theorem Tb.tk171 : tk Tryz.prog 171 = 1 := by kernel_rfl
@[simp] theorem Tb.sz171 : Program.cellsOf Tryz.prog 171 = 1 := by kernel_rfl
@[simp] theorem Tb.sl171 : slT Tryz.prog 171 = none := by kernel_rfl
@[simp] theorem Tb.st171 : isStr Tryz.prog 171 = false := by kernel_rfl
@[simp] theorem Tb.bo171 : isBool Tryz.prog 171 = false := by kernel_rfl
@[simp] theorem Tb.in171 : intT Tryz.prog 171 = none := by kernel_rfl
@[simp] theorem Tb.un171 : (Tryz.prog.underlying 171).isSome = true := by kernel_rfl
@[simp] theorem Tb.zr171 : zrT Tryz.prog 171 = [.nilFunc] := by kernel_rfl
@[simp] theorem Tb.za171 : (Tryz.prog.info? 171).any (·.zero.isSome) = true := by kernel_rfl
@[simp] theorem Tb.zb171 : ((Tryz.prog.info? 171).bind (·.zero)).isSome = true := by kernel_rfl
@[simp] theorem Tb.el171 : elOK Tryz.prog 171 := elOK_of (by kernel_rfl)
@[simp] theorem Tb.tk172 : tk Tryz.prog 172 = 1 := by kernel_rfl
@[simp] theorem Tb.sz172 : Program.cellsOf Tryz.prog 172 = 1 := by kernel_rfl
@[simp] theorem Tb.sl172 : slT Tryz.prog 172 = none := by kernel_rfl
@[simp] theorem Tb.st172 : isStr Tryz.prog 172 = false := by kernel_rfl
@[simp] theorem Tb.bo172 : isBool Tryz.prog 172 = false := by kernel_rfl
@[simp] theorem Tb.in172 : intT Tryz.prog 172 = none := by kernel_rfl
@[simp] theorem Tb.un172 : (Tryz.prog.underlying 172).isSome = true := by kernel_rfl
@[simp] theorem Tb.zr172 : zrT Tryz.prog 172 = [.nilFunc] := by kernel_rfl
@[simp] theorem Tb.za172 : (Tryz.prog.info? 172).any (·.zero.isSome) = true := by kernel_rfl
@[simp] theorem Tb.zb172 : ((Tryz.prog.info? 172).bind (·.zero)).isSome = true := by kernel_rfl
@[simp] theorem Tb.el172 : elOK Tryz.prog 172 := elOK_of (by kernel_rfl)
@[simp] theorem Tb.tk173 : tk Tryz.prog 173 = 1 := by kernel_rfl
@[simp] theorem Tb.sz173 : Program.cellsOf Tryz.prog 173 = 1 := by kernel_rfl
@[simp] theorem Tb.sl173 : slT Tryz.prog 173 = none := by kernel_rfl
@[simp] theorem Tb.st173 : isStr Tryz.prog 173 = false := by kernel_rfl
@[simp] theorem Tb.bo173 : isBool Tryz.prog 173 = false := by kernel_rfl
@[simp] theorem Tb.in173 : intT Tryz.prog 173 = none := by kernel_rfl
@[simp] theorem Tb.un173 : (Tryz.prog.underlying 173).isSome = true := by kernel_rfl
@[simp] theorem Tb.zr173 : zrT Tryz.prog 173 = [.pointer none] := by kernel_rfl
@[simp] theorem Tb.za173 : (Tryz.prog.info? 173).any (·.zero.isSome) = true := by kernel_rfl
@[simp] theorem Tb.zb173 : ((Tryz.prog.info? 173).bind (·.zero)).isSome = true := by kernel_rfl
@[simp] theorem Tb.el173 : elOK Tryz.prog 173 := elOK_of (by kernel_rfl)
@[simp] theorem Tb.tk174 : tk Tryz.prog 174 = 1 := by kernel_rfl
@[simp] theorem Tb.sz174 : Program.cellsOf Tryz.prog 174 = 1 := by kernel_rfl
@[simp] theorem Tb.sl174 : slT Tryz.prog 174 = none := by kernel_rfl
@[simp] theorem Tb.st174 : isStr Tryz.prog 174 = false := by kernel_rfl
@[simp] theorem Tb.bo174 : isBool Tryz.prog 174 = false := by kernel_rfl
@[simp] theorem Tb.in174 : intT Tryz.prog 174 = none := by kernel_rfl
@[simp] theorem Tb.un174 : (Tryz.prog.underlying 174).isSome = true := by kernel_rfl
@[simp] theorem Tb.zr174 : zrT Tryz.prog 174 = [.nilFunc] := by kernel_rfl
@[simp] theorem Tb.za174 : (Tryz.prog.info? 174).any (·.zero.isSome) = true := by kernel_rfl
@[simp] theorem Tb.zb174 : ((Tryz.prog.info? 174).bind (·.zero)).isSome = true := by kernel_rfl
@[simp] theorem Tb.el174 : elOK Tryz.prog 174 := elOK_of (by kernel_rfl)
@[simp] theorem Tb.tk175 : tk Tryz.prog 175 = 2 := by kernel_rfl
@[simp] theorem Tb.sz175 : Program.cellsOf Tryz.prog 175 = 3 := by kernel_rfl
@[simp] theorem Tb.sl175 : slT Tryz.prog 175 = none := by kernel_rfl
@[simp] theorem Tb.ar175 : arT Tryz.prog 175 = some (3, 174) := by kernel_rfl
@[simp] theorem Tb.st175 : isStr Tryz.prog 175 = false := by kernel_rfl
@[simp] theorem Tb.bo175 : isBool Tryz.prog 175 = false := by kernel_rfl
@[simp] theorem Tb.in175 : intT Tryz.prog 175 = none := by kernel_rfl
@[simp] theorem Tb.un175 : (Tryz.prog.underlying 175).isSome = true := by kernel_rfl
@[simp] theorem Tb.zr175 : zrT Tryz.prog 175 = [.nilFunc, .nilFunc, .nilFunc] := by kernel_rfl
@[simp] theorem Tb.za175 : (Tryz.prog.info? 175).any (·.zero.isSome) = true := by kernel_rfl
@[simp] theorem Tb.zb175 : ((Tryz.prog.info? 175).bind (·.zero)).isSome = true := by kernel_rfl
@[simp] theorem Tb.el175 : elOK Tryz.prog 175 := elOK_of (by kernel_rfl)
@[simp] theorem Tb.bl175 : bldT Tryz.prog 175 = some ([.nilFunc, .nilFunc, .nilFunc], [(0, 1), (1, 1), (2, 1)]) := by kernel_rfl
@[simp] theorem Tb.tk176 : tk Tryz.prog 176 = 2 := by kernel_rfl
@[simp] theorem Tb.sz176 : Program.cellsOf Tryz.prog 176 = 9 := by kernel_rfl
@[simp] theorem Tb.ff176_0 : foff Tryz.prog 176 0 = some (0, 26) := by kernel_rfl
@[simp] theorem Tb.ff176_1 : foff Tryz.prog 176 1 = some (5, 154) := by kernel_rfl
@[simp] theorem Tb.ff176_2 : foff Tryz.prog 176 2 = some (6, 175) := by kernel_rfl
@[simp] theorem Tb.cm176 : cmpT Tryz.prog 176 = none := by kernel_rfl
@[simp] theorem Tb.sl176 : slT Tryz.prog 176 = none := by kernel_rfl
@[simp] theorem Tb.st176 : isStr Tryz.prog 176 = false := by kernel_rfl
@[simp] theorem Tb.bo176 : isBool Tryz.prog 176 = false := by kernel_rfl
@[simp] theorem Tb.in176 : intT Tryz.prog 176 = none := by kernel_rfl
@[simp] theorem Tb.un176 : (Tryz.prog.underlying 176).isSome = true := by kernel_rfl
@[simp] theorem Tb.zr176 : zrT Tryz.prog 176 = [.int .i64 0, .slice none 0 0, .slice none 0 0, .slice none 0 0, .slice none 0 0, .map none, .nilFunc, .nilFunc, .nilFunc] := by kernel_rfl
@[simp] theorem Tb.za176 : (Tryz.prog.info? 176).any (·.zero.isSome) = true := by kernel_rfl
@[simp] theorem Tb.zb176 : ((Tryz.prog.info? 176).bind (·.zero)).isSome = true := by kernel_rfl
@[simp] theorem Tb.el176 : elOK Tryz.prog 176 := elOK_of (by kernel_rfl)
@[simp] theorem Tb.bl176 : bldT Tryz.prog 176 = some ([.int .i64 0, .slice none 0 0, .slice none 0 0, .slice none 0 0, .slice none 0 0, .map none, .nilFunc, .nilFunc, .nilFunc], [(0, 5), (5, 1), (6, 3)]) := by kernel_rfl
@[simp] theorem Tb.tk177 : tk Tryz.prog 177 = 2 := by kernel_rfl
@[simp] theorem Tb.sz177 : Program.cellsOf Tryz.prog 177 = 9 := by kernel_rfl
@[simp] theorem Tb.ff177_0 : foff Tryz.prog 177 0 = some (0, 26) := by kernel_rfl
@[simp] theorem Tb.ff177_1 : foff Tryz.prog 177 1 = some (5, 154) := by kernel_rfl
@[simp] theorem Tb.ff177_2 : foff Tryz.prog 177 2 = some (6, 175) := by kernel_rfl
@[simp] theorem Tb.cm177 : cmpT Tryz.prog 177 = none := by kernel_rfl
@[simp] theorem Tb.sl177 : slT Tryz.prog 177 = none := by kernel_rfl
@[simp] theorem Tb.st177 : isStr Tryz.prog 177 = false := by kernel_rfl
@[simp] theorem Tb.bo177 : isBool Tryz.prog 177 = false := by kernel_rfl
@[simp] theorem Tb.in177 : intT Tryz.prog 177 = none := by kernel_rfl
@[simp] theorem Tb.un177 : (Tryz.prog.underlying 177).isSome = true := by kernel_rfl
@[simp] theorem Tb.zr177 : zrT Tryz.prog 177 = [.int .i64 0, .slice none 0 0, .slice none 0 0, .slice none 0 0, .slice none 0 0, .map none, .nilFunc, .nilFunc, .nilFunc] := by kernel_rfl
@[simp] theorem Tb.za177 : (Tryz.prog.info? 177).any (·.zero.isSome) = true := by kernel_rfl
@[simp] theorem Tb.zb177 : ((Tryz.prog.info? 177).bind (·.zero)).isSome = true := by kernel_rfl
@[simp] theorem Tb.el177 : elOK Tryz.prog 177 := elOK_of (by kernel_rfl)
@[simp] theorem Tb.bl177 : bldT Tryz.prog 177 = some ([.int .i64 0, .slice none 0 0, .slice none 0 0, .slice none 0 0, .slice none 0 0, .map none, .nilFunc, .nilFunc, .nilFunc], [(0, 5), (5, 1), (6, 3)]) := by kernel_rfl
@[simp] theorem Tb.tk178 : tk Tryz.prog 178 = 1 := by kernel_rfl
@[simp] theorem Tb.sz178 : Program.cellsOf Tryz.prog 178 = 1 := by kernel_rfl
@[simp] theorem Tb.sl178 : slT Tryz.prog 178 = none := by kernel_rfl
@[simp] theorem Tb.st178 : isStr Tryz.prog 178 = false := by kernel_rfl
@[simp] theorem Tb.bo178 : isBool Tryz.prog 178 = false := by kernel_rfl
@[simp] theorem Tb.in178 : intT Tryz.prog 178 = none := by kernel_rfl
@[simp] theorem Tb.un178 : (Tryz.prog.underlying 178).isSome = true := by kernel_rfl
@[simp] theorem Tb.zr178 : zrT Tryz.prog 178 = [.nilFunc] := by kernel_rfl
@[simp] theorem Tb.za178 : (Tryz.prog.info? 178).any (·.zero.isSome) = true := by kernel_rfl
@[simp] theorem Tb.zb178 : ((Tryz.prog.info? 178).bind (·.zero)).isSome = true := by kernel_rfl
@[simp] theorem Tb.el178 : elOK Tryz.prog 178 := elOK_of (by kernel_rfl)
@[simp] theorem Tb.tk179 : tk Tryz.prog 179 = 1 := by kernel_rfl
@[simp] theorem Tb.sz179 : Program.cellsOf Tryz.prog 179 = 1 := by kernel_rfl
@[simp] theorem Tb.sl179 : slT Tryz.prog 179 = none := by kernel_rfl
@[simp] theorem Tb.st179 : isStr Tryz.prog 179 = false := by kernel_rfl
@[simp] theorem Tb.bo179 : isBool Tryz.prog 179 = false := by kernel_rfl
@[simp] theorem Tb.in179 : intT Tryz.prog 179 = none := by kernel_rfl
@[simp] theorem Tb.un179 : (Tryz.prog.underlying 179).isSome = true := by kernel_rfl
@[simp] theorem Tb.zr179 : zrT Tryz.prog 179 = [.nilFunc] := by kernel_rfl
@[simp] theorem Tb.za179 : (Tryz.prog.info? 179).any (·.zero.isSome) = true := by kernel_rfl
@[simp] theorem Tb.zb179 : ((Tryz.prog.info? 179).bind (·.zero)).isSome = true := by kernel_rfl
@[simp] theorem Tb.el179 : elOK Tryz.prog 179 := elOK_of (by kernel_rfl)
@[simp] theorem Tb.tk180 : tk Tryz.prog 180 = 1 := by kernel_rfl
@[simp] theorem Tb.sz180 : Program.cellsOf Tryz.prog 180 = 1 := by kernel_rfl
@[simp] theorem Tb.sl180 : slT Tryz.prog 180 = none := by kernel_rfl
@[simp] theorem Tb.st180 : isStr Tryz.prog 180 = false := by kernel_rfl
@[simp] theorem Tb.bo180 : isBool Tryz.prog 180 = false := by kernel_rfl
@[simp] theorem Tb.in180 : intT Tryz.prog 180 = none := by kernel_rfl
@[simp] theorem Tb.un180 : (Tryz.prog.underlying 180).isSome = true := by kernel_rfl
@[simp] theorem Tb.zr180 : zrT Tryz.prog 180 = [.nilFunc] := by kernel_rfl
@[simp] theorem Tb.za180 : (Tryz.prog.info? 180).any (·.zero.isSome) = true := by kernel_rfl
@[simp] theorem Tb.zb180 : ((Tryz.prog.info? 180).bind (·.zero)).isSome = true := by kernel_rfl
@[simp] theorem Tb.el180 : elOK Tryz.prog 180 := elOK_of (by kernel_rfl)
@[simp] theorem Tb.tk182 : tk Tryz.prog 182 = 1 := by kernel_rfl
@[simp] theorem Tb.sz182 : Program.cellsOf Tryz.prog 182 = 1 := by kernel_rfl
@[simp] theorem Tb.sl182 : slT Tryz.prog 182 = none := by kernel_rfl
@[simp] theorem Tb.st182 : isStr Tryz.prog 182 = false := by kernel_rfl
@[simp] theorem Tb.bo182 : isBool Tryz.prog 182 = false := by kernel_rfl
@[simp] theorem Tb.in182 : intT Tryz.prog 182 = none := by kernel_rfl
@[simp] theorem Tb.un182 : (Tryz.prog.underlying 182).isSome = true := by kernel_rfl
@[simp] theorem Tb.zr182 : zrT Tryz.prog 182 = [.nilFunc] := by kernel_rfl
@[simp] theorem Tb.za182 : (Tryz.prog.info? 182).any (·.zero.isSome) = true := by kernel_rfl
@[simp] theorem Tb.zb182 : ((Tryz.prog.info? 182).bind (·.zero)).isSome = true := by kernel_rfl
@[simp] theorem Tb.el182 : elOK Tryz.prog 182 := elOK_of (by kernel_rfl)
@[simp] theorem Tb.tk183 : tk Tryz.prog 183 = 1 := by kernel_rfl
@[simp] theorem Tb.sz183 : Program.cellsOf Tryz.prog 183 = 1 := by kernel_rfl
@[simp] theorem Tb.sl183 : slT Tryz.prog 183 = none := by kernel_rfl
@[simp] theorem Tb.st183 : isStr Tryz.prog 183 = false := by kernel_rfl
@[simp] theorem Tb.bo183 : isBool Tryz.prog 183 = false := by kernel_rfl
@[simp] theorem Tb.in183 : intT Tryz.prog 183 = none := by kernel_rfl
@[simp] theorem Tb.un183 : (Tryz.prog.underlying 183).isSome = true := by kernel_rfl
@[simp] theorem Tb.zr183 : zrT Tryz.prog 183 = [.nilFunc] := by kernel_rfl
@[simp] theorem Tb.za183 : (Tryz.prog.info? 183).any (·.zero.isSome) = true := by kernel_rfl
@[simp] theorem Tb.zb183 : ((Tryz.prog.info? 183).bind (·.zero)).isSome = true := by kernel_rfl
@[simp] theorem Tb.el183 : elOK Tryz.prog 183 := elOK_of (by kernel_rfl)
@[simp] theorem Tb.tk184 : tk Tryz.prog 184 = 1 := by kernel_rfl
@[simp] theorem Tb.sz184 : Program.cellsOf Tryz.prog 184 = 1 := by kernel_rfl
@[simp] theorem Tb.sl184 : slT Tryz.prog 184 = none := by kernel_rfl
@[simp] theorem Tb.st184 : isStr Tryz.prog 184 = false := by kernel_rfl
@[simp] theorem Tb.bo184 : isBool Tryz.prog 184 = false := by kernel_rfl
@[simp] theorem Tb.in184 : intT Tryz.prog 184 = none := by kernel_rfl
@[simp] theorem Tb.un184 : (Tryz.prog.underlying 184).isSome = true := by kernel_rfl
@[simp] theorem Tb.zr184 : zrT Tryz.prog 184 = [.nilFunc] := by kernel_rfl
@[simp] theorem Tb.za184 : (Tryz.prog.info? 184).any (·.zero.isSome) = true := by kernel_rfl
@[simp] theorem Tb.zb184 : ((Tryz.prog.info? 184).bind (·.zero)).isSome = true := by kernel_rfl
@[simp] theorem Tb.el184 : elOK Tryz.prog 184 := elOK_of (by kernel_rfl)
@[simp] theorem Tb.tk185 : tk Tryz.prog 185 = 1 := by kernel_rfl
@[simp] theorem Tb.sz185 : Program.cellsOf Tryz.prog 185 = 1 := by kernel_rfl
@[simp] theorem Tb.sl185 : slT Tryz.prog 185 = none := by kernel_rfl
@[simp] theorem Tb.st185 : isStr Tryz.prog 185 = false := by kernel_rfl
@[simp] theorem Tb.bo185 : isBool Tryz.prog 185 = false := by kernel_rfl
@[simp] theorem Tb.in185 : intT Tryz.prog 185 = none := by kernel_rfl
@[simp] theorem Tb.un185 : (Tryz.prog.underlying 185).isSome = true := by kernel_rfl
@[simp] theorem Tb.zr185 : zrT Tryz.prog 185 = [.nilFunc] := by kernel_rfl
@[simp] theorem Tb.za185 : (Tryz.prog.info? 185).any (·.zero.isSome) = true := by kernel_rfl
@[simp] theorem Tb.zb185 : ((Tryz.prog.info? 185).bind (·.zero)).isSome = true := by kernel_rfl
@[simp] theorem Tb.el185 : elOK Tryz.prog 185 := elOK_of (by kernel_rfl)
@[simp] theorem Tb.tk186 : tk Tryz.prog 186 = 1 := by kernel_rfl
@[simp] theorem Tb.sz186 : Program.cellsOf Tryz.prog 186 = 1 := by kernel_rfl
@[simp] theorem Tb.sl186 : slT Tryz.prog 186 = none := by kernel_rfl
@[simp] theorem Tb.st186 : isStr Tryz.prog 186 = false := by kernel_rfl
@[simp] theorem Tb.bo186 : isBool Tryz.prog 186 = false := by kernel_rfl
@[simp] theorem Tb.in186 : intT Tryz.prog 186 = none := by kernel_rfl
@[simp] theorem Tb.un186 : (Tryz.prog.underlying 186).isSome = true := by kernel_rfl
@[simp] theorem Tb.zr186 : zrT Tryz.prog 186 = [.nilFunc] := by kernel_rfl
@[simp] theorem Tb.za186 : (Tryz.prog.info? 186).any (·.zero.isSome) = true := by kernel_rfl
@[simp] theorem Tb.zb186 : ((Tryz.prog.info? 186).bind (·.zero)).isSome = true := by kernel_rfl
@[simp] theorem Tb.el186 : elOK Tryz.prog 186 := elOK_of (by kernel_rfl)
@[simp] theorem Tb.tk187 : tk Tryz.prog 187 = 2 := by kernel_rfl
@[simp] theorem Tb.sz187 : Program.cellsOf Tryz.prog 187 = 3 := by kernel_rfl
@[simp] theorem Tb.ff187_0 : foff Tryz.prog 187 0 = some (0, 3) := by kernel_rfl
@[simp] theorem Tb.ff187_1 : foff Tryz.prog 187 1 = some (1, 3) := by kernel_rfl
@[simp] theorem Tb.ff187_2 : foff Tryz.prog 187 2 = some (2, 186) := by kernel_rfl
@[simp] theorem Tb.cm187 : cmpT Tryz.prog 187 = none := by kernel_rfl
@[simp] theorem Tb.sl187 : slT Tryz.prog 187 = none := by kernel_rfl
@[simp] theorem Tb.st187 : isStr Tryz.prog 187 = false := by kernel_rfl
@[simp] theorem Tb.bo187 : isBool Tryz.prog 187 = false := by kernel_rfl
@[simp] theorem Tb.in187 : intT Tryz.prog 187 = none := by kernel_rfl
@[simp] theorem Tb.un187 : (Tryz.prog.underlying 187).isSome = true := by kernel_rfl
@[simp] theorem Tb.zr187 : zrT Tryz.prog 187 = [.int .i64 0, .int .i64 0, .nilFunc] := by kernel_rfl
@[simp] theorem Tb.za187 : (Tryz.prog.info? 187).any (·.zero.isSome) = true := by kernel_rfl
@[simp] theorem Tb.zb187 : ((Tryz.prog.info? 187).bind (·.zero)).isSome = true := by kernel_rfl
@[simp] theorem Tb.el187 : elOK Tryz.prog 187 := elOK_of (by kernel_rfl)
@[simp] theorem Tb.bl187 : bldT Tryz.prog 187 = some ([.int .i64 0, .int .i64 0, .nilFunc], [(0, 1), (1, 1), (2, 1)]) := by kernel_rfl
@[simp] theorem Tb.tk188 : tk Tryz.prog 188 = 2 := by kernel_rfl
@[simp] theorem Tb.sz188 : Program.cellsOf Tryz.prog 188 = 3 := by kernel_rfl
@[simp] theorem Tb.ff188_0 : foff Tryz.prog 188 0 = some (0, 3) := by kernel_rfl
@[simp] theorem Tb.ff188_1 : foff Tryz.prog 188 1 = some (1, 3) := by kernel_rfl
@[simp] theorem Tb.ff188_2 : foff Tryz.prog 188 2 = some (2, 186) := by kernel_rfl
@[simp] theorem Tb.cm188 : cmpT Tryz.prog 188 = none := by kernel_rfl
@[simp] theorem Tb.sl188 : slT Tryz.prog 188 = none := by kernel_rfl
@[simp] theorem Tb.st188 : isStr Tryz.prog 188 = false := by kernel_rfl
@[simp] theorem Tb.bo188 : isBool Tryz.prog 188 = false := by kernel_rfl
@[simp] theorem Tb.in188 : intT Tryz.prog 188 = none := by kernel_rfl
@[simp] theorem Tb.un188 : (Tryz.prog.underlying 188).isSome = true := by kernel_rfl
@[simp] theorem Tb.zr188 : zrT Tryz.prog 188 = [.int .i64 0, .int .i64 0, .nilFunc] := by kernel_rfl
@[simp] theorem Tb.za188 : (Tryz.prog.info? 188).any (·.zero.isSome) = true := by kernel_rfl
@[simp] theorem Tb.zb188 : ((Tryz.prog.info? 188).bind (·.zero)).isSome = true := by kernel_rfl
@[simp] theorem Tb.el188 : elOK Tryz.prog 188 := elOK_of (by kernel_rfl)
@[simp] theorem Tb.bl188 : bldT Tryz.prog 188 = some ([.int .i64 0, .int .i64 0, .nilFunc], [(0, 1), (1, 1), (2, 1)]) := by kernel_rfl
@[simp] theorem Tb.tk189 : tk Tryz.prog 189 = 2 := by kernel_rfl
@[simp] theorem Tb.sz189 : Program.cellsOf Tryz.prog 189 = 15 := by kernel_rfl
@[simp] theorem Tb.sl189 : slT Tryz.prog 189 = none := by kernel_rfl
@[simp] theorem Tb.ar189 : arT Tryz.prog 189 = some (5, 188) := by kernel_rfl
@[simp] theorem Tb.st189 : isStr Tryz.prog 189 = false := by kernel_rfl
@[simp] theorem Tb.bo189 : isBool Tryz.prog 189 = false := by kernel_rfl
@[simp] theorem Tb.in189 : intT Tryz.prog 189 = none := by kernel_rfl
@[simp] theorem Tb.un189 : (Tryz.prog.underlying 189).isSome = true := by kernel_rfl
@[simp] theorem Tb.zr189 : zrT Tryz.prog 189 = [.int .i64 0, .int .i64 0, .nilFunc, .int .i64 0, .int .i64 0, .nilFunc, .int .i64 0, .int .i64 0, .nilFunc, .int .i64 0, .int .i64 0, .nilFunc, .int .i64 0, .int .i64 0, .nilFunc] := by kernel_rfl
@[simp] theorem Tb.za189 : (Tryz.prog.info? 189).any (·.zero.isSome) = true := by kernel_rfl
@[simp] theorem Tb.zb189 : ((Tryz.prog.info? 189).bind (·.zero)).isSome = true := by kernel_rfl
@[simp] theorem Tb.el189 : elOK Tryz.prog 189 := elOK_of (by kernel_rfl)
@[simp] theorem Tb.bl189 : bldT Tryz.prog 189 = some ([.int .i64 0, .int .i64 0, .nilFunc, .int .i64 0, .int .i64 0, .nilFunc, .int .i64 0, .int .i64 0, .nilFunc, .int .i64 0, .int .i64 0, .nilFunc, .int .i64 0, .int .i64 0, .nilFunc], [(0, 3), (3, 3), (6, 3), (9, 3), (12, 3)]) := by kernel_rfl
@[simp] theorem Tb.tk190 : tk Tryz.prog 190 = 1 := by kernel_rfl
@[simp] theorem Tb.sz190 : Program.cellsOf Tryz.prog 190 = 1 := by kernel_rfl
@[simp] theorem Tb.sl190 : slT Tryz.prog 190 = none := by kernel_rfl
@[simp] theorem Tb.st190 : isStr Tryz.prog 190 = false := by kernel_rfl
@[simp] theorem Tb.bo190 : isBool Tryz.prog 190 = false := by kernel_rfl
@[simp] theorem Tb.in190 : intT Tryz.prog 190 = none := by kernel_rfl
@[simp] theorem Tb.un190 : (Tryz.prog.underlying 190).isSome = true := by kernel_rfl
@[simp] theorem Tb.zr190 : zrT Tryz.prog 190 = [.nilFunc] := by kernel_rfl
@[simp] theorem Tb.za190 : (Tryz.prog.info? 190).any (·.zero.isSome) = true := by kernel_rfl
@[simp] theorem Tb.zb190 : ((Tryz.prog.info? 190).bind (·.zero)).isSome = true := by kernel_rfl
@[simp] theorem Tb.el190 : elOK Tryz.prog 190 := elOK_of (by kernel_rfl)
@[simp] theorem Tb.tk191 : tk Tryz.prog 191 = 1 := by kernel_rfl
@[simp] theorem Tb.sz191 : Program.cellsOf Tryz.prog 191 = 1 := by kernel_rfl
@[simp] theorem Tb.sl191 : slT Tryz.prog 191 = none := by kernel_rfl
@[simp] theorem Tb.st191 : isStr Tryz.prog 191 = false := by kernel_rfl
@[simp] theorem Tb.bo191 : isBool Tryz.prog 191 = false := by kernel_rfl
@[simp] theorem Tb.in191 : intT Tryz.prog 191 = none := by kernel_rfl
@[simp] theorem Tb.un191 : (Tryz.prog.underlying 191).isSome = true := by kernel_rfl
@[simp] theorem Tb.zr191 : zrT Tryz.prog 191 = [.nilFunc] := by kernel_rfl
@[simp] theorem Tb.za191 : (Tryz.prog.info? 191).any (·.zero.isSome) = true := by kernel_rfl
@[simp] theorem Tb.zb191 : ((Tryz.prog.info? 191).bind (·.zero)).isSome = true := by kernel_rfl
@[simp] theorem Tb.el191 : elOK Tryz.prog 191 := elOK_of (by kernel_rfl)
@[simp] theorem Tb.tk192 : tk Tryz.prog 192 = 1 := by kernel_rfl
@[simp] theorem Tb.sz192 : Program.cellsOf Tryz.prog 192 = 1 := by kernel_rfl
@[simp] theorem Tb.sl192 : slT Tryz.prog 192 = none := by kernel_rfl
@[simp] theorem Tb.st192 : isStr Tryz.prog 192 = false := by kernel_rfl
@[simp] theorem Tb.bo192 : isBool Tryz.prog 192 = false := by kernel_rfl
@[simp] theorem Tb.in192 : intT Tryz.prog 192 = none := by kernel_rfl
@[simp] theorem Tb.un192 : (Tryz.prog.underlying 192).isSome = true := by kernel_rfl
@[simp] theorem Tb.zr192 : zrT Tryz.prog 192 = [.nilFunc] := by kernel_rfl
@[simp] theorem Tb.za192 : (Tryz.prog.info? 192).any (·.zero.isSome) = true := by kernel_rfl
@[simp] theorem Tb.zb192 : ((Tryz.prog.info? 192).bind (·.zero)).isSome = true := by kernel_rfl
@[simp] theorem Tb.el192 : elOK Tryz.prog 192 := elOK_of (by kernel_rfl)
@[simp] theorem Tb.tk193 : tk Tryz.prog 193 = 1 := by kernel_rfl
@[simp] theorem Tb.sz193 : Program.cellsOf Tryz.prog 193 = 1 := by kernel_rfl
@[simp] theorem Tb.sl193 : slT Tryz.prog 193 = none := by kernel_rfl
@[simp] theorem Tb.st193 : isStr Tryz.prog 193 = false := by kernel_rfl
@[simp] theorem Tb.bo193 : isBool Tryz.prog 193 = false := by kernel_rfl
@[simp] theorem Tb.in193 : intT Tryz.prog 193 = none := by kernel_rfl
@[simp] theorem Tb.un193 : (Tryz.prog.underlying 193).isSome = true := by kernel_rfl
@[simp] theorem Tb.zr193 : zrT Tryz.prog 193 = [.pointer none] := by kernel_rfl
@[simp] theorem Tb.za193 : (Tryz.prog.info? 193).any (·.zero.isSome) = true := by kernel_rfl
@[simp] theorem Tb.zb193 : ((Tryz.prog.info? 193).bind (·.zero)).isSome = true := by kernel_rfl
@[simp] theorem Tb.el193 : elOK Tryz.prog 193 := elOK_of (by kernel_rfl)
@[simp] theorem Tb.tk194 : tk Tryz.prog 194 = 1 := by kernel_rfl
@[simp] theorem Tb.sz194 : Program.cellsOf Tryz.prog 194 = 1 := by kernel_rfl
@[simp] theorem Tb.sl194 : slT Tryz.prog 194 = some 5 := by kernel_rfl
@[simp] theorem Tb.st194 : isStr Tryz.prog 194 = false := by kernel_rfl
@[simp] theorem Tb.bo194 : isBool Tryz.prog 194 = false := by kernel_rfl
@[simp] theorem Tb.in194 : intT Tryz.prog 194 = none := by kernel_rfl
@[simp] theorem Tb.un194 : (Tryz.prog.underlying 194).isSome = true := by kernel_rfl
@[simp] theorem Tb.zr194 : zrT Tryz.prog 194 = [.slice none 0 0] := by kernel_rfl
@[simp] theorem Tb.za194 : (Tryz.prog.info? 194).any (·.zero.isSome) = true := by kernel_rfl
@[simp] theorem Tb.zb194 : ((Tryz.prog.info? 194).bind (·.zero)).isSome = true := by kernel_rfl
@[simp] theorem Tb.el194 : elOK Tryz.prog 194 := elOK_of (by kernel_rfl)
@[simp] theorem Tb.tk195 : tk Tryz.prog 195 = 2 := by kernel_rfl
@[simp] theorem Tb.sz195 : Program.cellsOf Tryz.prog 195 = 2 := by kernel_rfl
@[simp] theorem Tb.ff195_0 : foff Tryz.prog 195 0 = some (0, 193) := by kernel_rfl
@[simp] theorem Tb.ff195_1 : foff Tryz.prog 195 1 = some (1, 194) := by kernel_rfl
@[simp] theorem Tb.cm195 : cmpT Tryz.prog 195 = none := by kernel_rfl
@[simp] theorem Tb.sl195 : slT Tryz.prog 195 = none := by kernel_rfl
@[simp] theorem Tb.st195 : isStr Tryz.prog 195 = false := by kernel_rfl
@[simp] theorem Tb.bo195 : isBool Tryz.prog 195 = false := by kernel_rfl
@[simp] theorem Tb.in195 : intT Tryz.prog 195 = none := by kernel_rfl
@[simp] theorem Tb.un195 : (Tryz.prog.underlying 195).isSome = true := by kernel_rfl
@[simp] theorem Tb.zr195 : zrT Tryz.prog 195 = [.pointer none, .slice none 0 0] := by kernel_rfl
@[simp] theorem Tb.za195 : (Tryz.prog.info? 195).any (·.zero.isSome) = true := by kernel_rfl
@[simp] theorem Tb.zb195 : ((Tryz.prog.info? 195).bind (·.zero)).isSome = true := by kernel_rfl
@[simp] theorem Tb.el195 : elOK Tryz.prog 195 := elOK_of (by kernel_rfl)
@[simp] theorem Tb.bl195 : bldT Tryz.prog 195 = some ([.pointer none, .slice none 0 0], [(0, 1), (1, 1)]) := by kernel_rfl
@[simp] theorem Tb.tk196 : tk Tryz.prog 196 = 2 := by kernel_rfl
@[simp] theorem Tb.sz196 : Program.cellsOf Tryz.prog 196 = 2 := by kernel_rfl
@[simp] theorem Tb.ff196_0 : foff Tryz.prog 196 0 = some (0, 193) := by kernel_rfl
@[simp] theorem Tb.ff196_1 : foff Tryz.prog 196 1 = some (1, 194) := by kernel_rfl
@[simp] theorem Tb.cm196 : cmpT Tryz.prog 196 = none := by kernel_rfl
@[simp] theorem Tb.sl196 : slT Tryz.prog 196 = none := by kernel_rfl
@[simp] theorem Tb.st196 : isStr Tryz.prog 196 = false := by kernel_rfl
@[simp] theorem Tb.bo196 : isBool Tryz.prog 196 = false := by kernel_rfl
@[simp] theorem Tb.in196 : intT Tryz.prog 196 = none := by kernel_rfl
@[simp] theorem Tb.un196 : (Tryz.prog.underlying 196).isSome = true := by kernel_rfl
@[simp] theorem Tb.zr196 : zrT Tryz.prog 196 = [.pointer none, .slice none 0 0] := by kernel_rfl
@[simp] theorem Tb.za196 : (Tryz.prog.info? 196).any (·.zero.isSome) = true := by kernel_rfl
@[simp] theorem Tb.zb196 : ((Tryz.prog.info? 196).bind (·.zero)).isSome = true := by kernel_rfl
@[simp] theorem Tb.el196 : elOK Tryz.prog 196 := elOK_of (by kernel_rfl)
@[simp] theorem Tb.bl196 : bldT Tryz.prog 196 = some ([.pointer none, .slice none 0 0], [(0, 1), (1, 1)]) := by kernel_rfl
@[simp] theorem Tb.tk198 : tk Tryz.prog 198 = 1 := by kernel_rfl
@[simp] theorem Tb.sz198 : Program.cellsOf Tryz.prog 198 = 1 := by kernel_rfl
@[simp] theorem Tb.sl198 : slT Tryz.prog 198 = none := by kernel_rfl
@[simp] theorem Tb.st198 : isStr Tryz.prog 198 = false := by kernel_rfl
@[simp] theorem Tb.bo198 : isBool Tryz.prog 198 = false := by kernel_rfl
@[simp] theorem Tb.in198 : intT Tryz.prog 198 = none := by kernel_rfl
@[simp] theorem Tb.un198 : (Tryz.prog.underlying 198).isSome = true := by kernel_rfl
@[simp] theorem Tb.zr198 : zrT Tryz.prog 198 = [.nilIface] := by kernel_rfl
@[simp] theorem Tb.za198 : (Tryz.prog.info? 198).any (·.zero.isSome) = true := by kernel_rfl
@[simp] theorem Tb.zb198 : ((Tryz.prog.info? 198).bind (·.zero)).isSome = true := by kernel_rfl
@[simp] theorem Tb.el198 : elOK Tryz.prog 198 := elOK_of (by kernel_rfl)
@[simp] theorem Tb.tk199 : tk Tryz.prog 199 = 1 := by kernel_rfl
@[simp] theorem Tb.sz199 : Program.cellsOf Tryz.prog 199 = 1 := by kernel_rfl
@[simp] theorem Tb.sl199 : slT Tryz.prog 199 = none := by kernel_rfl
@[simp] theorem Tb.st199 : isStr Tryz.prog 199 = false := by kernel_rfl
@[simp] theorem Tb.bo199 : isBool Tryz.prog 199 = false := by kernel_rfl
@[simp] theorem Tb.in199 : intT Tryz.prog 199 = none := by kernel_rfl
@[simp] theorem Tb.un199 : (Tryz.prog.underlying 199).isSome = true := by kernel_rfl
@[simp] theorem Tb.zr199 : zrT Tryz.prog 199 = [.nilFunc] := by kernel_rfl
@[simp] theorem Tb.za199 : (Tryz.prog.info? 199).any (·.zero.isSome) = true := by kernel_rfl
@[simp] theorem Tb.zb199 : ((Tryz.prog.info? 199).bind (·.zero)).isSome = true := by kernel_rfl
@[simp] theorem Tb.el199 : elOK Tryz.prog 199 := elOK_of (by kernel_rfl)
@[simp] theorem Tb.tk200 : tk Tryz.prog 200 = 1 := by kernel_rfl
@[simp] theorem Tb.sz200 : Program.cellsOf Tryz.prog 200 = 1 := by kernel_rfl
@[simp] theorem Tb.sl200 : slT Tryz.prog 200 = none := by kernel_rfl
@[simp] theorem Tb.st200 : isStr Tryz.prog 200 = false := by kernel_rfl
@[simp] theorem Tb.bo200 : isBool Tryz.prog 200 = false := by kernel_rfl
@[simp] theorem Tb.in200 : intT Tryz.prog 200 = none := by kernel_rfl
@[simp] theorem Tb.un200 : (Tryz.prog.underlying 200).isSome = true := by kernel_rfl
@[simp] theorem Tb.zr200 : zrT Tryz.prog 200 = [.nilFunc] := by kernel_rfl
@[simp] theorem Tb.za200 : (Tryz.prog.info? 200).any (·.zero.isSome) = true := by kernel_rfl
@[simp] theorem Tb.zb200 : ((Tryz.prog.info? 200).bind (·.zero)).isSome = true := by kernel_rfl
@[simp] theorem Tb.el200 : elOK Tryz.prog 200 := elOK_of (by kernel_rfl)
@[simp] theorem Tb.tk201 : tk Tryz.prog 201 = 1 := by kernel_rfl
@[simp] theorem Tb.sz201 : Program.cellsOf Tryz.prog 201 = 1 := by kernel_rfl
@[simp] theorem Tb.sl201 : slT Tryz.prog 201 = none := by kernel_rfl
@[simp] theorem Tb.st201 : isStr Tryz.prog 201 = false := by kernel_rfl
@[simp] theorem Tb.bo201 : isBool Tryz.prog 201 = false := by kernel_rfl
@[simp] theorem Tb.in201 : intT Tryz.prog 201 = none := by kernel_rfl
@[simp] theorem Tb.un201 : (Tryz.prog.underlying 201).isSome = true := by kernel_rfl
@[simp] theorem Tb.zr201 : zrT Tryz.prog 201 = [.nilFunc] := by kernel_rfl
@[simp] theorem Tb.za201 : (Tryz.prog.info? 201).any (·.zero.isSome) = true := by kernel_rfl
@[simp] theorem Tb.zb201 : ((Tryz.prog.info? 201).bind (·.zero)).isSome = true := by kernel_rfl
@[simp] theorem Tb.el201 : elOK Tryz.prog 201 := elOK_of (by kernel_rfl)
@[simp] theorem Tb.tk202 : tk Tryz.prog 202 = 1 := by kernel_rfl
@[simp] theorem Tb.sz202 : Program.cellsOf Tryz.prog 202 = 1 := by kernel_rfl
@[simp] theorem Tb.sl202 : slT Tryz.prog 202 = none := by kernel_rfl
@[simp] theorem Tb.st202 : isStr Tryz.prog 202 = false := by kernel_rfl
@[simp] theorem Tb.bo202 : isBool Tryz.prog 202 = false := by kernel_rfl
@[simp] theorem Tb.in202 : intT Tryz.prog 202 = some .i64 := by kernel_rfl
@[simp] theorem Tb.un202 : (Tryz.prog.underlying 202).isSome = true := by kernel_rfl
@[simp] theorem Tb.zr202 : zrT Tryz.prog 202 = [.int .i64 0] := by kernel_rfl
@[simp] theorem Tb.za202 : (Tryz.prog.info? 202).any (·.zero.isSome) = true := by kernel_rfl
@[simp] theorem Tb.zb202 : ((Tryz.prog.info? 202).bind (·.zero)).isSome = true := by kernel_rfl
@[simp] theorem Tb.el202 : elOK Tryz.prog 202 := elOK_of (by kernel_rfl)
@[simp] theorem Tb.tk204 : tk Tryz.prog 204 = 1 := by kernel_rfl
@[simp] theorem Tb.sz204 : Program.cellsOf Tryz.prog 204 = 1 := by kernel_rfl
@[simp] theorem Tb.sl204 : slT Tryz.prog 204 = none := by kernel_rfl
@[simp] theorem Tb.st204 : isStr Tryz.prog 204 = false := by kernel_rfl
@[simp] theorem Tb.bo204 : isBool Tryz.prog 204 = false := by kernel_rfl
@[simp] theorem Tb.in204 : intT Tryz.prog 204 = none := by kernel_rfl
@[simp] theorem Tb.un204 : (Tryz.prog.underlying 204).isSome = true := by kernel_rfl
@[simp] theorem Tb.zr204 : zrT Tryz.prog 204 = [.nilFunc] := by kernel_rfl
@[simp] theorem Tb.za204 : (Tryz.prog.info? 204).any (·.zero.isSome) = true := by kernel_rfl
@[simp] theorem Tb.zb204 : ((Tryz.prog.info? 204).bind (·.zero)).isSome = true := by kernel_rfl
@[simp] theorem Tb.el204 : elOK Tryz.prog 204 := elOK_of (by kernel_rfl)
@[simp] theorem Tb.tk205 : tk Tryz.prog 205 = 1 := by kernel_rfl
@[simp] theorem Tb.sz205 : Program.cellsOf Tryz.prog 205 = 1 := by kernel_rfl
@[simp] theorem Tb.sl205 : slT Tryz.prog 205 = none := by kernel_rfl
@[simp] theorem Tb.st205 : isStr Tryz.prog 205 = false := by kernel_rfl
@[simp] theorem Tb.bo205 : isBool Tryz.prog 205 = false := by kernel_rfl
@[simp] theorem Tb.in205 : intT Tryz.prog 205 = none := by kernel_rfl
@[simp] theorem Tb.un205 : (Tryz.prog.underlying 205).isSome = true := by kernel_rfl
@[simp] theorem Tb.zr205 : zrT Tryz.prog 205 = [.nilFunc] := by kernel_rfl
@[simp] theorem Tb.za205 : (Tryz.prog.info? 205).any (·.zero.isSome) = true := by kernel_rfl
@[simp] theorem Tb.zb205 : ((Tryz.prog.info? 205).bind (·.zero)).isSome = true := by kernel_rfl
@[simp] theorem Tb.el205 : elOK Tryz.prog 205 := elOK_of (by kernel_rfl)
@[simp] theorem Tb.tk206 : tk Tryz.prog 206 = 1 := by kernel_rfl
@[simp] theorem Tb.sz206 : Program.cellsOf Tryz.prog 206 = 1 := by kernel_rfl
@[simp] theorem Tb.sl206 : slT Tryz.prog 206 = none := by kernel_rfl
@[simp] theorem Tb.st206 : isStr Tryz.prog 206 = false := by kernel_rfl
@[simp] theorem Tb.bo206 : isBool Tryz.prog 206 = false := by kernel_rfl
@[simp] theorem Tb.in206 : intT Tryz.prog 206 = none := by kernel_rfl
@[simp] theorem Tb.un206 : (Tryz.prog.underlying 206).isSome = true := by kernel_rfl
@[simp] theorem Tb.zr206 : zrT Tryz.prog 206 = [.nilFunc] := by kernel_rfl
@[simp] theorem Tb.za206 : (Tryz.prog.info? 206).any (·.zero.isSome) = true := by kernel_rfl
@[simp] theorem Tb.zb206 : ((Tryz.prog.info? 206).bind (·.zero)).isSome = true := by kernel_rfl
@[simp] theorem Tb.el206 : elOK Tryz.prog 206 := elOK_of (by kernel_rfl)
@[simp] theorem Tb.tk207 : tk Tryz.prog 207 = 1 := by kernel_rfl
@[simp] theorem Tb.sz207 : Program.cellsOf Tryz.prog 207 = 1 := by kernel_rfl
@[simp] theorem Tb.sl207 : slT Tryz.prog 207 = none := by kernel_rfl
@[simp] theorem Tb.st207 : isStr Tryz.prog 207 = false := by kernel_rfl
@[simp] theorem Tb.bo207 : isBool Tryz.prog 207 = false := by kernel_rfl
@[simp] theorem Tb.in207 : intT Tryz.prog 207 = none := by kernel_rfl
@[simp] theorem Tb.un207 : (Tryz.prog.underlying 207).isSome = true := by kernel_rfl
@[simp] theorem Tb.zr207 : zrT Tryz.prog 207 = [.nilFunc] := by kernel_rfl
@[simp] theorem Tb.za207 : (Tryz.prog.info? 207).any (·.zero.isSome) = true := by kernel_rfl
@[simp] theorem Tb.zb207 : ((Tryz.prog.info? 207).bind (·.zero)).isSome = true := by kernel_rfl
@[simp] theorem Tb.el207 : elOK Tryz.prog 207 := elOK_of (by kernel_rfl)
@[simp] theorem Tb.tk208 : tk Tryz.prog 208 = 1 := by kernel_rfl
@[simp] theorem Tb.sz208 : Program.cellsOf Tryz.prog 208 = 1 := by kernel_rfl
@[simp] theorem Tb.sl208 : slT Tryz.prog 208 = none := by kernel_rfl
@[simp] theorem Tb.st208 : isStr Tryz.prog 208 = false := by kernel_rfl
@[simp] theorem Tb.bo208 : isBool Tryz.prog 208 = false := by kernel_rfl
@[simp] theorem Tb.in208 : intT Tryz.prog 208 = none := by kernel_rfl
@[simp] theorem Tb.un208 : (Tryz.prog.underlying 208).isSome = true := by kernel_rfl
@[simp] theorem Tb.zr208 : zrT Tryz.prog 208 = [.nilFunc] := by kernel_rfl
@[simp] theorem Tb.za208 : (Tryz.prog.info? 208).any (·.zero.isSome) = true := by kernel_rfl
@[simp] theorem Tb.zb208 : ((Tryz.prog.info? 208).bind (·.zero)).isSome = true := by kernel_rfl
@[simp] theorem Tb.el208 : elOK Tryz.prog 208 := elOK_of (by kernel_rfl)
@[simp] theorem Tb.tk209 : tk Tryz.prog 209 = 1 := by kernel_rfl
@[simp] theorem Tb.sz209 : Program.cellsOf Tryz.prog 209 = 1 := by kernel_rfl
@[simp] theorem Tb.sl209 : slT Tryz.prog 209 = none := by kernel_rfl
@[simp] theorem Tb.st209 : isStr Tryz.prog 209 = false := by kernel_rfl
@[simp] theorem Tb.bo209 : isBool Tryz.prog 209 = false := by kernel_rfl
@[simp] theorem Tb.in209 : intT Tryz.prog 209 = some .u32 := by kernel_rfl
@[simp] theorem Tb.un209 : (Tryz.prog.underlying 209).isSome = true := by kernel_rfl
@[simp] theorem Tb.zr209 : zrT Tryz.prog 209 = [.int .u32 0] := by kernel_rfl
@[simp] theorem Tb.za209 : (Tryz.prog.info? 209).any (·.zero.isSome) = true := by kernel_rfl
@[simp] theorem Tb.zb209 : ((Tryz.prog.info? 209).bind (·.zero)).isSome = true := by kernel_rfl
@[simp] theorem Tb.el209 : elOK Tryz.prog 209 := elOK_of (by kernel_rfl)
@[simp] theorem Tb.tk210 : tk Tryz.prog 210 = 1 := by kernel_rfl
@[simp] theorem Tb.sz210 : Program.cellsOf Tryz.prog 210 = 1 := by kernel_rfl
@[simp] theorem Tb.sl210 : slT Tryz.prog 210 = none := by kernel_rfl
@[simp] theorem Tb.st210 : isStr Tryz.prog 210 = false := by kernel_rfl
@[simp] theorem Tb.bo210 : isBool Tryz.prog 210 = false := by kernel_rfl
@[simp] theorem Tb.in210 : intT Tryz.prog 210 = none := by kernel_rfl
@[simp] theorem Tb.un210 : (Tryz.prog.underlying 210).isSome = true := by kernel_rfl
@[simp] theorem Tb.zr210 : zrT Tryz.prog 210 = [.nilFunc] := by kernel_rfl
@[simp] theorem Tb.za210 : (Tryz.prog.info? 210).any (·.zero.isSome) = true := by kernel_rfl
@[simp] theorem Tb.zb210 : ((Tryz.prog.info? 210).bind (·.zero)).isSome = true := by kernel_rfl
@[simp] theorem Tb.el210 : elOK Tryz.prog 210 := elOK_of (by kernel_rfl)
@[simp] theorem Tb.tk211 : tk Tryz.prog 211 = 1 := by kernel_rfl
@[simp] theorem Tb.sz211 : Program.cellsOf Tryz.prog 211 = 1 := by kernel_rfl
@[simp] theorem Tb.sl211 : slT Tryz.prog 211 = none := by kernel_rfl
@[simp] theorem Tb.st211 : isStr Tryz.prog 211 = false := by kernel_rfl
@[simp] theorem Tb.bo211 : isBool Tryz.prog 211 = false := by kernel_rfl
@[simp] theorem Tb.in211 : intT Tryz.prog 211 = some .u64 := by kernel_rfl
@[simp] theorem Tb.un211 : (Tryz.prog.underlying 211).isSome = true := by kernel_rfl
@[simp] theorem Tb.zr211 : zrT Tryz.prog 211 = [.int .u64 0] := by kernel_rfl
@[simp] theorem Tb.za211 : (Tryz.prog.info? 211).any (·.zero.isSome) = true := by kernel_rfl
@[simp] theorem Tb.zb211 : ((Tryz.prog.info? 211).bind (·.zero)).isSome = true := by kernel_rfl
@[simp] theorem Tb.el211 : elOK Tryz.prog 211 := elOK_of (by kernel_rfl)
@[simp] theorem Tb.tk212 : tk Tryz.prog 212 = 1 := by kernel_rfl
@[simp] theorem Tb.sz212 : Program.cellsOf Tryz.prog 212 = 1 := by kernel_rfl
@[simp] theorem Tb.sl212 : slT Tryz.prog 212 = none := by kernel_rfl
@[simp] theorem Tb.st212 : isStr Tryz.prog 212 = false := by kernel_rfl
@[simp] theorem Tb.bo212 : isBool Tryz.prog 212 = false := by kernel_rfl
@[simp] theorem Tb.in212 : intT Tryz.prog 212 = none := by kernel_rfl
@[simp] theorem Tb.un212 : (Tryz.prog.underlying 212).isSome = true := by kernel_rfl
@[simp] theorem Tb.zr212 : zrT Tryz.prog 212 = [.nilFunc] := by kernel_rfl
@[simp] theorem Tb.za212 : (Tryz.prog.info? 212).any (·.zero.isSome) = true := by kernel_rfl
@[simp] theorem Tb.zb212 : ((Tryz.prog.info? 212).bind (·.zero)).isSome = true := by kernel_rfl
@[simp] theorem Tb.el212 : elOK Tryz.prog 212 := elOK_of (by kernel_rfl)
@[simp] theorem Tb.tk213 : tk Tryz.prog 213 = 1 := by kernel_rfl
@[simp] theorem Tb.sz213 : Program.cellsOf Tryz.prog 213 = 1 := by kernel_rfl
@[simp] theorem Tb.sl213 : slT Tryz.prog 213 = none := by kernel_rfl
@[simp] theorem Tb.st213 : isStr Tryz.prog 213 = false := by kernel_rfl
@[simp] theorem Tb.bo213 : isBool Tryz.prog 213 = false := by kernel_rfl
@[simp] theorem Tb.in213 : intT Tryz.prog 213 = none := by kernel_rfl
@[simp] theorem Tb.un213 : (Tryz.prog.underlying 213).isSome = true := by kernel_rfl
@[simp] theorem Tb.zr213 : zrT Tryz.prog 213 = [.nilFunc] := by kernel_rfl
@[simp] theorem Tb.za213 : (Tryz.prog.info? 213).any (·.zero.isSome) = true := by kernel_rfl
@[simp] theorem Tb.zb213 : ((Tryz.prog.info? 213).bind (·.zero)).isSome = true := by kernel_rfl
@[simp] theorem Tb.el213 : elOK Tryz.prog 213 := elOK_of (by kernel_rfl)
@[simp] theorem Tb.tk214 : tk Tryz.prog 214 = 1 := by kernel_rfl
@[simp] theorem Tb.sz214 : Program.cellsOf Tryz.prog 214 = 1 := by kernel_rfl
@[simp] theorem Tb.sl214 : slT Tryz.prog 214 = none := by kernel_rfl
@[simp] theorem Tb.st214 : isStr Tryz.prog 214 = false := by kernel_rfl
@[simp] theorem Tb.bo214 : isBool Tryz.prog 214 = false := by kernel_rfl
@[simp] theorem Tb.in214 : intT Tryz.prog 214 = none := by kernel_rfl
@[simp] theorem Tb.un214 : (Tryz.prog.underlying 214).isSome = true := by kernel_rfl
@[simp] theorem Tb.zr214 : zrT Tryz.prog 214 = [.nilFunc] := by kernel_rfl
@[simp] theorem Tb.za214 : (Tryz.prog.info? 214).any (·.zero.isSome) = true := by kernel_rfl
@[simp] theorem Tb.zb214 : ((Tryz.prog.info? 214).bind (·.zero)).isSome = true := by kernel_rfl
@[simp] theorem Tb.el214 : elOK Tryz.prog 214 := elOK_of (by kernel_rfl)
@[simp] theorem Tb.tk215 : tk Tryz.prog 215 = 1 := by kernel_rfl
@[simp] theorem Tb.sz215 : Program.cellsOf Tryz.prog 215 = 1 := by kernel_rfl
@[simp] theorem Tb.sl215 : slT Tryz.prog 215 = none := by kernel_rfl
@[simp] theorem Tb.st215 : isStr Tryz.prog 215 = false := by kernel_rfl
@[simp] theorem Tb.bo215 : isBool Tryz.prog 215 = false := by kernel_rfl
@[simp] theorem Tb.in215 : intT Tryz.prog 215 = none := by kernel_rfl
@[simp] theorem Tb.un215 : (Tryz.prog.underlying 215).isSome = true := by kernel_rfl
@[simp] theorem Tb.zr215 : zrT Tryz.prog 215 = [.nilFunc] := by kernel_rfl
@[simp] theorem Tb.za215 : (Tryz.prog.info? 215).any (·.zero.isSome) = true := by kernel_rfl
@[simp] theorem Tb.zb215 : ((Tryz.prog.info? 215).bind (·.zero)).isSome = true := by kernel_rfl
@[simp] theorem Tb.el215 : elOK Tryz.prog 215 := elOK_of (by kernel_rfl)
@[simp] theorem Tb.tk216 : tk Tryz.prog 216 = 1 := by kernel_rfl
@[simp] theorem Tb.sz216 : Program.cellsOf Tryz.prog 216 = 1 := by kernel_rfl
@[simp] theorem Tb.sl216 : slT Tryz.prog 216 = none := by kernel_rfl
@[simp] theorem Tb.st216 : isStr Tryz.prog 216 = false := by kernel_rfl
@[simp] theorem Tb.bo216 : isBool Tryz.prog 216 = false := by kernel_rfl
@[simp] theorem Tb.in216 : intT Tryz.prog 216 = none := by kernel_rfl
@[simp] theorem Tb.un216 : (Tryz.prog.underlying 216).isSome = true := by kernel_rfl
@[simp] theorem Tb.zr216 : zrT Tryz.prog 216 = [.nilFunc] := by kernel_rfl
@[simp] theorem Tb.za216 : (Tryz.prog.info? 216).any (·.zero.isSome) = true := by kernel_rfl
@[simp] theorem Tb.zb216 : ((Tryz.prog.info? 216).bind (·.zero)).isSome = true := by kernel_rfl
@[simp] theorem Tb.el216 : elOK Tryz.prog 216 := elOK_of (by kernel_rfl)
@[simp] theorem Tb.tk217 : tk Tryz.prog 217 = 1 := by kernel_rfl
@[simp] theorem Tb.sz217 : Program.cellsOf Tryz.prog 217 = 1 := by kernel_rfl
@[simp] theorem Tb.sl217 : slT Tryz.prog 217 = none := by kernel_rfl
@[simp] theorem Tb.st217 : isStr Tryz.prog 217 = false := by kernel_rfl
@[simp] theorem Tb.bo217 : isBool Tryz.prog 217 = false := by kernel_rfl
@[simp] theorem Tb.in217 : intT Tryz.prog 217 = none := by kernel_rfl
@[simp] theorem Tb.un217 : (Tryz.prog.underlying 217).isSome = true := by kernel_rfl
@[simp] theorem Tb.zr217 : zrT Tryz.prog 217 = [.nilFunc] := by kernel_rfl
@[simp] theorem Tb.za217 : (Tryz.prog.info? 217).any (·.zero.isSome) = true := by kernel_rfl
@[simp] theorem Tb.zb217 : ((Tryz.prog.info? 217).bind (·.zero)).isSome = true := by kernel_rfl
@[simp] theorem Tb.el217 : elOK Tryz.prog 217 := elOK_of (by kernel_rfl)
@[simp] theorem Tb.tk218 : tk Tryz.prog 218 = 1 := by kernel_rfl
@[simp] theorem Tb.sz218 : Program.cellsOf Tryz.prog 218 = 1 := by kernel_rfl
@[simp] theorem Tb.sl218 : slT Tryz.prog 218 = none := by kernel_rfl
@[simp] theorem Tb.st218 : isStr Tryz.prog 218 = false := by kernel_rfl
@[simp] theorem Tb.bo218 : isBool Tryz.prog 218 = false := by kernel_rfl
@[simp] theorem Tb.in218 : intT Tryz.prog 218 = none := by kernel_rfl
@[simp] theorem Tb.un218 : (Tryz.prog.underlying 218).isSome = true := by kernel_rfl
@[simp] theorem Tb.zr218 : zrT Tryz.prog 218 = [.nilFunc] := by kernel_rfl
@[simp] theorem Tb.za218 : (Tryz.prog.info? 218).any (·.zero.isSome) = true := by kernel_rfl
@[simp] theorem Tb.zb218 : ((Tryz.prog.info? 218).bind (·.zero)).isSome = true := by kernel_rfl
@[simp] theorem Tb.el218 : elOK Tryz.prog 218 := elOK_of (by kernel_rfl)
@[simp] theorem Tb.tk219 : tk Tryz.prog 219 = 1 := by kernel_rfl
@[simp] theorem Tb.sz219 : Program.cellsOf Tryz.prog 219 = 1 := by kernel_rfl
@[simp] theorem Tb.sl219 : slT Tryz.prog 219 = none := by kernel_rfl
@[simp] theorem Tb.st219 : isStr Tryz.prog 219 = false := by kernel_rfl
@[simp] theorem Tb.bo219 : isBool Tryz.prog 219 = false := by kernel_rfl
@[simp] theorem Tb.in219 : intT Tryz.prog 219 = none := by kernel_rfl
@[simp] theorem Tb.un219 : (Tryz.prog.underlying 219).isSome = true := by kernel_rfl
@[simp] theorem Tb.zr219 : zrT Tryz.prog 219 = [.nilFunc] := by kernel_rfl
@[simp] theorem Tb.za219 : (Tryz.prog.info? 219).any (·.zero.isSome) = true := by kernel_rfl
@[simp] theorem Tb.zb219 : ((Tryz.prog.info? 219).bind (·.zero)).isSome = true := by kernel_rfl
@[simp] theorem Tb.el219 : elOK Tryz.prog 219 := elOK_of (by kernel_rfl)
@[simp] theorem Tb.tk220 : tk Tryz.prog 220 = 1 := by kernel_rfl
@[simp] theorem Tb.sz220 : Program.cellsOf Tryz.prog 220 = 1 := by kernel_rfl
@[simp] theorem Tb.sl220 : slT Tryz.prog 220 = none := by kernel_rfl
@[simp] theorem Tb.st220 : isStr Tryz.prog 220 = false := by kernel_rfl
@[simp] theorem Tb.bo220 : isBool Tryz.prog 220 = false := by kernel_rfl
@[simp] theorem Tb.in220 : intT Tryz.prog 220 = none := by kernel_rfl
@[simp] theorem Tb.un220 : (Tryz.prog.underlying 220).isSome = true := by kernel_rfl
@[simp] theorem Tb.zr220 : zrT Tryz.prog 220 = [.nilFunc] := by kernel_rfl
@[simp] theorem Tb.za220 : (Tryz.prog.info? 220).any (·.zero.isSome) = true := by kernel_rfl
@[simp] theorem Tb.zb220 : ((Tryz.prog.info? 220).bind (·.zero)).isSome = true := by kernel_rfl
@[simp] theorem Tb.el220 : elOK Tryz.prog 220 := elOK_of (by kernel_rfl)
@[simp] theorem Tb.tk221 : tk Tryz.prog 221 = 1 := by kernel_rfl
@[simp] theorem Tb.sz221 : Program.cellsOf Tryz.prog 221 = 1 := by kernel_rfl
@[simp] theorem Tb.sl221 : slT Tryz.prog 221 = none := by kernel_rfl
@[simp] theorem Tb.st221 : isStr Tryz.prog 221 = false := by kernel_rfl
@[simp] theorem Tb.bo221 : isBool Tryz.prog 221 = false := by kernel_rfl
@[simp] theorem Tb.in221 : intT Tryz.prog 221 = none := by kernel_rfl
@[simp] theorem Tb.un221 : (Tryz.prog.underlying 221).isSome = true := by kernel_rfl
@[simp] theorem Tb.zr221 : zrT Tryz.prog 221 = [.nilFunc] := by kernel_rfl
@[simp] theorem Tb.za221 : (Tryz.prog.info? 221).any (·.zero.isSome) = true := by kernel_rfl
@[simp] theorem Tb.zb221 : ((Tryz.prog.info? 221).bind (·.zero)).isSome = true := by kernel_rfl
@[simp] theorem Tb.el221 : elOK Tryz.prog 221 := elOK_of (by kernel_rfl)
@[simp] theorem Tb.tk222 : tk Tryz.prog 222 = 1 := by kernel_rfl
@[simp] theorem Tb.sz222 : Program.cellsOf Tryz.prog 222 = 1 := by kernel_rfl
@[simp] theorem Tb.sl222 : slT Tryz.prog 222 = none := by kernel_rfl
@[simp] theorem Tb.st222 : isStr Tryz.prog 222 = false := by kernel_rfl
@[simp] theorem Tb.bo222 : isBool Tryz.prog 222 = false := by kernel_rfl
@[simp] theorem Tb.in222 : intT Tryz.prog 222 = none := by kernel_rfl
@[simp] theorem Tb.un222 : (Tryz.prog.underlying 222).isSome = true := by kernel_rfl
@[simp] theorem Tb.zr222 : zrT Tryz.prog 222 = [.nilFunc] := by kernel_rfl
@[simp] theorem Tb.za222 : (Tryz.prog.info? 222).any (·.zero.isSome) = true := by kernel_rfl
@[simp] theorem Tb.zb222 : ((Tryz.prog.info? 222).bind (·.zero)).isSome = true := by kernel_rfl
@[simp] theorem Tb.el222 : elOK Tryz.prog 222 := elOK_of (by kernel_rfl)
@[simp] theorem Tb.tk223 : tk Tryz.prog 223 = 1 := by kernel_rfl
@[simp] theorem Tb.sz223 : Program.cellsOf Tryz.prog 223 = 1 := by kernel_rfl
@[simp] theorem Tb.sl223 : slT Tryz.prog 223 = none := by kernel_rfl
@[simp] theorem Tb.st223 : isStr Tryz.prog 223 = false := by kernel_rfl
@[simp] theorem Tb.bo223 : isBool Tryz.prog 223 = false := by kernel_rfl
@[simp] theorem Tb.in223 : intT Tryz.prog 223 = none := by kernel_rfl
@[simp] theorem Tb.un223 : (Tryz.prog.underlying 223).isSome = true := by kernel_rfl
@[simp] theorem Tb.zr223 : zrT Tryz.prog 223 = [.nilFunc] := by kernel_rfl
@[simp] theorem Tb.za223 : (Tryz.prog.info? 223).any (·.zero.isSome) = true := by kernel_rfl
@[simp] theorem Tb.zb223 : ((Tryz.prog.info? 223).bind (·.zero)).isSome = true := by kernel_rfl
@[simp] theorem Tb.el223 : elOK Tryz.prog 223 := elOK_of (by kernel_rfl)
@[simp] theorem Tb.tk224 : tk Tryz.prog 224 = 1 := by kernel_rfl
@[simp] theorem Tb.sz224 : Program.cellsOf Tryz.prog 224 = 1 := by kernel_rfl
@[simp] theorem Tb.sl224 : slT Tryz.prog 224 = none := by kernel_rfl
@[simp] theorem Tb.st224 : isStr Tryz.prog 224 = false := by kernel_rfl
@[simp] theorem Tb.bo224 : isBool Tryz.prog 224 = false := by kernel_rfl
@[simp] theorem Tb.in224 : intT Tryz.prog 224 = none := by kernel_rfl
@[simp] theorem Tb.un224 : (Tryz.prog.underlying 224).isSome = true := by kernel_rfl
@[simp] theorem Tb.zr224 : zrT Tryz.prog 224 = [.nilFunc] := by kernel_rfl
@[simp] theorem Tb.za224 : (Tryz.prog.info? 224).any (·.zero.isSome) = true := by kernel_rfl
@[simp] theorem Tb.zb224 : ((Tryz.prog.info? 224).bind (·.zero)).isSome = true := by kernel_rfl
@[simp] theorem Tb.el224 : elOK Tryz.prog 224 := elOK_of (by kernel_rfl)
@[simp] theorem Tb.tk225 : tk Tryz.prog 225 = 1 := by kernel_rfl
@[simp] theorem Tb.sz225 : Program.cellsOf Tryz.prog 225 = 1 := by kernel_rfl
@[simp] theorem Tb.sl225 : slT Tryz.prog 225 = none := by kernel_rfl
@[simp] theorem Tb.st225 : isStr Tryz.prog 225 = false := by kernel_rfl
@[simp] theorem Tb.bo225 : isBool Tryz.prog 225 = false := by kernel_rfl
@[simp] theorem Tb.in225 : intT Tryz.prog 225 = none := by kernel_rfl
@[simp] theorem Tb.un225 : (Tryz.prog.underlying 225).isSome = true := by kernel_rfl
@[simp] theorem Tb.zr225 : zrT Tryz.prog 225 = [.nilFunc] := by kernel_rfl
@[simp] theorem Tb.za225 : (Tryz.prog.info? 225).any (·.zero.isSome) = true := by kernel_rfl
@[simp] theorem Tb.zb225 : ((Tryz.prog.info? 225).bind (·.zero)).isSome = true := by kernel_rfl
@[simp] theorem Tb.el225 : elOK Tryz.prog 225 := elOK_of (by kernel_rfl)
@[simp] theorem Tb.tk226 : tk Tryz.prog 226 = 1 := by kernel_rfl
@[simp] theorem Tb.sz226 : Program.cellsOf Tryz.prog 226 = 1 := by kernel_rfl
@[simp] theorem Tb.sl226 : slT Tryz.prog 226 = none := by kernel_rfl
@[simp] theorem Tb.st226 : isStr Tryz.prog 226 = false := by kernel_rfl
@[simp] theorem Tb.bo226 : isBool Tryz.prog 226 = false := by kernel_rfl
@[simp] theorem Tb.in226 : intT Tryz.prog 226 = none := by kernel_rfl
@[simp] theorem Tb.un226 : (Tryz.prog.underlying 226).isSome = true := by kernel_rfl
@[simp] theorem Tb.zr226 : zrT Tryz.prog 226 = [.nilFunc] := by kernel_rfl
@[simp] theorem Tb.za226 : (Tryz.prog.info? 226).any (·.zero.isSome) = true := by kernel_rfl
@[simp] theorem Tb.zb226 : ((Tryz.prog.info? 226).bind (·.zero)).isSome = true := by kernel_rfl
@[simp] theorem Tb.el226 : elOK Tryz.prog 226 := elOK_of (by kernel_rfl)
@[simp] theorem Tb.tk227 : tk Tryz.prog 227 = 1 := by kernel_rfl
@[simp] theorem Tb.sz227 : Program.cellsOf Tryz.prog 227 = 1 := by kernel_rfl
@[simp] theorem Tb.sl227 : slT Tryz.prog 227 = none := by kernel_rfl
@[simp] theorem Tb.st227 : isStr Tryz.prog 227 = false := by kernel_rfl
@[simp] theorem Tb.bo227 : isBool Tryz.prog 227 = false := by kernel_rfl
@[simp] theorem Tb.in227 : intT Tryz.prog 227 = none := by kernel_rfl
@[simp] theorem Tb.un227 : (Tryz.prog.underlying 227).isSome = true := by kernel_rfl
@[simp] theorem Tb.zr227 : zrT Tryz.prog 227 = [.nilFunc] := by kernel_rfl
@[simp] theorem Tb.za227 : (Tryz.prog.info? 227).any (·.zero.isSome) = true := by kernel_rfl
@[simp] theorem Tb.zb227 : ((Tryz.prog.info? 227).bind (·.zero)).isSome = true := by kernel_rfl
@[simp] theorem Tb.el227 : elOK Tryz.prog 227 := elOK_of (by kernel_rfl)
@[simp] theorem Tb.tk228 : tk Tryz.prog 228 = 1 := by kernel_rfl
@[simp] theorem Tb.sz228 : Program.cellsOf Tryz.prog 228 = 1 := by kernel_rfl
@[simp] theorem Tb.sl228 : slT Tryz.prog 228 = none := by kernel_rfl
@[simp] theorem Tb.st228 : isStr Tryz.prog 228 = false := by kernel_rfl
@[simp] theorem Tb.bo228 : isBool Tryz.prog 228 = false := by kernel_rfl
@[simp] theorem Tb.in228 : intT Tryz.prog 228 = none := by kernel_rfl
@[simp] theorem Tb.un228 : (Tryz.prog.underlying 228).isSome = true := by kernel_rfl
@[simp] theorem Tb.zr228 : zrT Tryz.prog 228 = [.pointer none] := by kernel_rfl
@[simp] theorem Tb.za228 : (Tryz.prog.info? 228).any (·.zero.isSome) = true := by kernel_rfl
@[simp] theorem Tb.zb228 : ((Tryz.prog.info? 228).bind (·.zero)).isSome = true := by kernel_rfl
@[simp] theorem Tb.el228 : elOK Tryz.prog 228 := elOK_of (by kernel_rfl)
@[simp] theorem Tb.tk229 : tk Tryz.prog 229 = 1 := by kernel_rfl
@[simp] theorem Tb.sz229 : Program.cellsOf Tryz.prog 229 = 1 := by kernel_rfl
@[simp] theorem Tb.sl229 : slT Tryz.prog 229 = none := by kernel_rfl
@[simp] theorem Tb.st229 : isStr Tryz.prog 229 = false := by kernel_rfl
@[simp] theorem Tb.bo229 : isBool Tryz.prog 229 = false := by kernel_rfl
@[simp] theorem Tb.in229 : intT Tryz.prog 229 = some .u64 := by kernel_rfl
@[simp] theorem Tb.un229 : (Tryz.prog.underlying 229).isSome = true := by kernel_rfl
@[simp] theorem Tb.zr229 : zrT Tryz.prog 229 = [.int .u64 0] := by kernel_rfl
@[simp] theorem Tb.za229 : (Tryz.prog.info? 229).any (·.zero.isSome) = true := by kernel_rfl
@[simp] theorem Tb.zb229 : ((Tryz.prog.info? 229).bind (·.zero)).isSome = true := by kernel_rfl
@[simp] theorem Tb.el229 : elOK Tryz.prog 229 := elOK_of (by kernel_rfl)
@[simp] theorem Tb.tk230 : tk Tryz.prog 230 = 1 := by kernel_rfl
@[simp] theorem Tb.sz230 : Program.cellsOf Tryz.prog 230 = 1 := by kernel_rfl
@[simp] theorem Tb.sl230 : slT Tryz.prog 230 = none := by kernel_rfl
@[simp] theorem Tb.st230 : isStr Tryz.prog 230 = false := by kernel_rfl
@[simp] theorem Tb.bo230 : isBool Tryz.prog 230 = false := by kernel_rfl
@[simp] theorem Tb.in230 : intT Tryz.prog 230 = none := by kernel_rfl
@[simp] theorem Tb.un230 : (Tryz.prog.underlying 230).isSome = true := by kernel_rfl
@[simp] theorem Tb.zr230 : zrT Tryz.prog 230 = [.nilFunc] := by kernel_rfl
@[simp] theorem Tb.za230 : (Tryz.prog.info? 230).any (·.zero.isSome) = true := by kernel_rfl
@[simp] theorem Tb.zb230 : ((Tryz.prog.info? 230).bind (·.zero)).isSome = true := by kernel_rfl
@[simp] theorem Tb.el230 : elOK Tryz.prog 230 := elOK_of (by kernel_rfl)
@[simp] theorem Tb.tk231 : tk Tryz.prog 231 = 1 := by kernel_rfl
@[simp] theorem Tb.sz231 : Program.cellsOf Tryz.prog 231 = 1 := by kernel_rfl
@[simp] theorem Tb.sl231 : slT Tryz.prog 231 = none := by kernel_rfl
@[simp] theorem Tb.st231 : isStr Tryz.prog 231 = false := by kernel_rfl
@[simp] theorem Tb.bo231 : isBool Tryz.prog 231 = false := by kernel_rfl
@[simp] theorem Tb.in231 : intT Tryz.prog 231 = none := by kernel_rfl
@[simp] theorem Tb.un231 : (Tryz.prog.underlying 231).isSome = true := by kernel_rfl
@[simp] theorem Tb.zr231 : zrT Tryz.prog 231 = [.nilFunc] := by kernel_rfl
@[simp] theorem Tb.za231 : (Tryz.prog.info? 231).any (·.zero.isSome) = true := by kernel_rfl
@[simp] theorem Tb.zb231 : ((Tryz.prog.info? 231).bind (·.zero)).isSome = true := by kernel_rfl
@[simp] theorem Tb.el231 : elOK Tryz.prog 231 := elOK_of (by kernel_rfl)
@[simp] theorem Tb.tk232 : tk Tryz.prog 232 = 1 := by kernel_rfl
@[simp] theorem Tb.sz232 : Program.cellsOf Tryz.prog 232 = 1 := by kernel_rfl
@[simp] theorem Tb.sl232 : slT Tryz.prog 232 = none := by kernel_rfl
@[simp] theorem Tb.st232 : isStr Tryz.prog 232 = false := by kernel_rfl
@[simp] theorem Tb.bo232 : isBool Tryz.prog 232 = false := by kernel_rfl
@[simp] theorem Tb.in232 : intT Tryz.prog 232 = none := by kernel_rfl
@[simp] theorem Tb.un232 : (Tryz.prog.underlying 232).isSome = true := by kernel_rfl
@[simp] theorem Tb.zr232 : zrT Tryz.prog 232 = [.nilFunc] := by kernel_rfl
@[simp] theorem Tb.za232 : (Tryz.prog.info? 232).any (·.zero.isSome) = true := by kernel_rfl
@[simp] theorem Tb.zb232 : ((Tryz.prog.info? 232).bind (·.zero)).isSome = true := by kernel_rfl
@[simp] theorem Tb.el232 : elOK Tryz.prog 232 := elOK_of (by kernel_rfl)
@[simp] theorem Tb.tk233 : tk Tryz.prog 233 = 1 := by kernel_rfl
@[simp] theorem Tb.sz233 : Program.cellsOf Tryz.prog 233 = 1 := by kernel_rfl
@[simp] theorem Tb.sl233 : slT Tryz.prog 233 = none := by kernel_rfl
@[simp] theorem Tb.st233 : isStr Tryz.prog 233 = false := by kernel_rfl
@[simp] theorem Tb.bo233 : isBool Tryz.prog 233 = false := by kernel_rfl
@[simp] theorem Tb.in233 : intT Tryz.prog 233 = none := by kernel_rfl
@[simp] theorem Tb.un233 : (Tryz.prog.underlying 233).isSome = true := by kernel_rfl
@[simp] theorem Tb.zr233 : zrT Tryz.prog 233 = [.pointer none] := by kernel_rfl
@[simp] theorem Tb.za233 : (Tryz.prog.info? 233).any (·.zero.isSome) = true := by kernel_rfl
@[simp] theorem Tb.zb233 : ((Tryz.prog.info? 233).bind (·.zero)).isSome = true := by kernel_rfl
@[simp] theorem Tb.el233 : elOK Tryz.prog 233 := elOK_of (by kernel_rfl)
@[simp] theorem Tb.tk234 : tk Tryz.prog 234 = 1 := by kernel_rfl
@[simp] theorem Tb.sz234 : Program.cellsOf Tryz.prog 234 = 1 := by kernel_rfl
@[simp] theorem Tb.sl234 : slT Tryz.prog 234 = none := by kernel_rfl
@[simp] theorem Tb.st234 : isStr Tryz.prog 234 = false := by kernel_rfl
@[simp] theorem Tb.bo234 : isBool Tryz.prog 234 = false := by kernel_rfl
@[simp] theorem Tb.in234 : intT Tryz.prog 234 = none := by kernel_rfl
@[simp] theorem Tb.un234 : (Tryz.prog.underlying 234).isSome = true := by kernel_rfl
@[simp] theorem Tb.zr234 : zrT Tryz.prog 234 = [.nilFunc] := by kernel_rfl
@[simp] theorem Tb.za234 : (Tryz.prog.info? 234).any (·.zero.isSome) = true := by kernel_rfl
@[simp] theorem Tb.zb234 : ((Tryz.prog.info? 234).bind (·.zero)).isSome = true := by kernel_rfl
@[simp] theorem Tb.el234 : elOK Tryz.prog 234 := elOK_of (by kernel_rfl)
@[simp] theorem Tb.tk235 : tk Tryz.prog 235 = 1 := by kernel_rfl
@[simp] theorem Tb.sz235 : Program.cellsOf Tryz.prog 235 = 1 := by kernel_rfl
@[simp] theorem Tb.sl235 : slT Tryz.prog 235 = none := by kernel_rfl
@[simp] theorem Tb.st235 : isStr Tryz.prog 235 = false := by kernel_rfl
@[simp] theorem Tb.bo235 : isBool Tryz.prog 235 = false := by kernel_rfl
@[simp] theorem Tb.in235 : intT Tryz.prog 235 = none := by kernel_rfl
@[simp] theorem Tb.un235 : (Tryz.prog.underlying 235).isSome = true := by kernel_rfl
@[simp] theorem Tb.zr235 : zrT Tryz.prog 235 = [.nilFunc] := by kernel_rfl
@[simp] theorem Tb.za235 : (Tryz.prog.info? 235).any (·.zero.isSome) = true := by kernel_rfl
@[simp] theorem Tb.zb235 : ((Tryz.prog.info? 235).bind (·.zero)).isSome = true := by kernel_rfl
@[simp] theorem Tb.el235 : elOK Tryz.prog 235 := elOK_of (by kernel_rfl)
@[simp] theorem Tb.tk236 : tk Tryz.prog 236 = 1 := by kernel_rfl
@[simp] theorem Tb.sz236 : Program.cellsOf Tryz.prog 236 = 1 := by kernel_rfl
@[simp] theorem Tb.sl236 : slT Tryz.prog 236 = none := by kernel_rfl
@[simp] theorem Tb.st236 : isStr Tryz.prog 236 = false := by kernel_rfl
@[simp] theorem Tb.bo236 : isBool Tryz.prog 236 = false := by kernel_rfl
@[simp] theorem Tb.in236 : intT Tryz.prog 236 = none := by kernel_rfl
@[simp] theorem Tb.un236 : (Tryz.prog.underlying 236).isSome = true := by kernel_rfl
@[simp] theorem Tb.zr236 : zrT Tryz.prog 236 = [.nilFunc] := by kernel_rfl
@[simp] theorem Tb.za236 : (Tryz.prog.info? 236).any (·.zero.isSome) = true := by kernel_rfl
@[simp] theorem Tb.zb236 : ((Tryz.prog.info? 236).bind (·.zero)).isSome = true := by kernel_rfl
@[simp] theorem Tb.el236 : elOK Tryz.prog 236 := elOK_of (by kernel_rfl)
@[simp] theorem Tb.tk237 : tk Tryz.prog 237 = 1 := by kernel_rfl
@[simp] theorem Tb.sz237 : Program.cellsOf Tryz.prog 237 = 1 := by kernel_rfl
@[simp] theorem Tb.sl237 : slT Tryz.prog 237 = none := by kernel_rfl
@[simp] theorem Tb.st237 : isStr Tryz.prog 237 = false := by kernel_rfl
@[simp] theorem Tb.bo237 : isBool Tryz.prog 237 = false := by kernel_rfl
@[simp] theorem Tb.in237 : intT Tryz.prog 237 = none := by kernel_rfl
@[simp] theorem Tb.un237 : (Tryz.prog.underlying 237).isSome = true := by kernel_rfl
@[simp] theorem Tb.zr237 : zrT Tryz.prog 237 = [.nilFunc] := by kernel_rfl
@[simp] theorem Tb.za237 : (Tryz.prog.info? 237).any (·.zero.isSome) = true := by kernel_rfl
@[simp] theorem Tb.zb237 : ((Tryz.prog.info? 237).bind (·.zero)).isSome = true := by kernel_rfl
@[simp] theorem Tb.el237 : elOK Tryz.prog 237 := elOK_of (by kernel_rfl)
@[simp] theorem Tb.tk238 : tk Tryz.prog 238 = 1 := by kernel_rfl
@[simp] theorem Tb.sz238 : Program.cellsOf Tryz.prog 238 = 1 := by kernel_rfl
@[simp] theorem Tb.sl238 : slT Tryz.prog 238 = none := by kernel_rfl
@[simp] theorem Tb.st238 : isStr Tryz.prog 238 = false := by kernel_rfl
@[simp] theorem Tb.bo238 : isBool Tryz.prog 238 = false := by kernel_rfl
@[simp] theorem Tb.in238 : intT Tryz.prog 238 = none := by kernel_rfl
@[simp] theorem Tb.un238 : (Tryz.prog.underlying 238).isSome = true := by kernel_rfl
@[simp] theorem Tb.zr238 : zrT Tryz.prog 238 = [.nilFunc] := by kernel_rfl
@[simp] theorem Tb.za238 : (Tryz.prog.info? 238).any (·.zero.isSome) = true := by kernel_rfl
@[simp] theorem Tb.zb238 : ((Tryz.prog.info? 238).bind (·.zero)).isSome = true := by kernel_rfl
@[simp] theorem Tb.el238 : elOK Tryz.prog 238 := elOK_of (by kernel_rfl)
@[simp] theorem Tb.tk240 : tk Tryz.prog 240 = 1 := by kernel_rfl
@[simp] theorem Tb.sz240 : Program.cellsOf Tryz.prog 240 = 1 := by kernel_rfl
@[simp] theorem Tb.sl240 : slT Tryz.prog 240 = none := by kernel_rfl
@[simp] theorem Tb.st240 : isStr Tryz.prog 240 = false := by kernel_rfl
@[simp] theorem Tb.bo240 : isBool Tryz.prog 240 = false := by kernel_rfl
@[simp] theorem Tb.in240 : intT Tryz.prog 240 = none := by kernel_rfl
@[simp] theorem Tb.un240 : (Tryz.prog.underlying 240).isSome = true := by kernel_rfl
@[simp] theorem Tb.zr240 : zrT Tryz.prog 240 = [.nilFunc] := by kernel_rfl
@[simp] theorem Tb.za240 : (Tryz.prog.info? 240).any (·.zero.isSome) = true := by kernel_rfl
@[simp] theorem Tb.zb240 : ((Tryz.prog.info? 240).bind (·.zero)).isSome = true := by kernel_rfl
@[simp] theorem Tb.el240 : elOK Tryz.prog 240 := elOK_of (by kernel_rfl)
@[simp] theorem Tb.tk241 : tk Tryz.prog 241 = 1 := by kernel_rfl
@[simp] theorem Tb.sz241 : Program.cellsOf Tryz.prog 241 = 1 := by kernel_rfl
@[simp] theorem Tb.sl241 : slT Tryz.prog 241 = none := by kernel_rfl
@[simp] theorem Tb.st241 : isStr Tryz.prog 241 = false := by kernel_rfl
@[simp] theorem Tb.bo241 : isBool Tryz.prog 241 = false := by kernel_rfl
@[simp] theorem Tb.in241 : intT Tryz.prog 241 = none := by kernel_rfl
@[simp] theorem Tb.un241 : (Tryz.prog.underlying 241).isSome = true := by kernel_rfl
@[simp] theorem Tb.zr241 : zrT Tryz.prog 241 = [.pointer none] := by kernel_rfl
@[simp] theorem Tb.za241 : (Tryz.prog.info? 241).any (·.zero.isSome) = true := by kernel_rfl
@[simp] theorem Tb.zb241 : ((Tryz.prog.info? 241).bind (·.zero)).isSome = true := by kernel_rfl
@[simp] theorem Tb.el241 : elOK Tryz.prog 241 := elOK_of (by kernel_rfl)
@[simp] theorem Tb.tk242 : tk Tryz.prog 242 = 1 := by kernel_rfl
@[simp] theorem Tb.sz242 : Program.cellsOf Tryz.prog 242 = 1 := by kernel_rfl
@[simp] theorem Tb.sl242 : slT Tryz.prog 242 = none := by kernel_rfl
@[simp] theorem Tb.st242 : isStr Tryz.prog 242 = false := by kernel_rfl
@[simp] theorem Tb.bo242 : isBool Tryz.prog 242 = false := by kernel_rfl
@[simp] theorem Tb.in242 : intT Tryz.prog 242 = none := by kernel_rfl
@[simp] theorem Tb.un242 : (Tryz.prog.underlying 242).isSome = true := by kernel_rfl
@[simp] theorem Tb.zr242 : zrT Tryz.prog 242 = [.nilFunc] := by kernel_rfl
@[simp] theorem Tb.za242 : (Tryz.prog.info? 242).any (·.zero.isSome) = true := by kernel_rfl
@[simp] theorem Tb.zb242 : ((Tryz.prog.info? 242).bind (·.zero)).isSome = true := by kernel_rfl
@[simp] theorem Tb.el242 : elOK Tryz.prog 242 := elOK_of (by kernel_rfl)
@[simp] theorem Tb.tk243 : tk Tryz.prog 243 = 1 := by kernel_rfl
@[simp] theorem Tb.sz243 : Program.cellsOf Tryz.prog 243 = 1 := by kernel_rfl
@[simp] theorem Tb.sl243 : slT Tryz.prog 243 = none := by kernel_rfl
@[simp] theorem Tb.st243 : isStr Tryz.prog 243 = false := by kernel_rfl
@[simp] theorem Tb.bo243 : isBool Tryz.prog 243 = false := by kernel_rfl
@[simp] theorem Tb.in243 : intT Tryz.prog 243 = none := by kernel_rfl
@[simp] theorem Tb.un243 : (Tryz.prog.underlying 243).isSome = true := by kernel_rfl
@[simp] theorem Tb.zr243 : zrT Tryz.prog 243 = [.nilFunc] := by kernel_rfl
@[simp] theorem Tb.za243 : (Tryz.prog.info? 243).any (·.zero.isSome) = true := by kernel_rfl
@[simp] theorem Tb.zb243 : ((Tryz.prog.info? 243).bind (·.zero)).isSome = true := by kernel_rfl
@[simp] theorem Tb.el243 : elOK Tryz.prog 243 := elOK_of (by kernel_rfl)
@[simp] theorem Tb.tk244 : tk Tryz.prog 244 = 1 := by kernel_rfl
@[simp] theorem Tb.sz244 : Program.cellsOf Tryz.prog 244 = 1 := by kernel_rfl
@[simp] theorem Tb.sl244 : slT Tryz.prog 244 = none := by kernel_rfl
@[simp] theorem Tb.st244 : isStr Tryz.prog 244 = false := by kernel_rfl
@[simp] theorem Tb.bo244 : isBool Tryz.prog 244 = false := by kernel_rfl
@[simp] theorem Tb.in244 : intT Tryz.prog 244 = none := by kernel_rfl
@[simp] theorem Tb.un244 : (Tryz.prog.underlying 244).isSome = true := by kernel_rfl
@[simp] theorem Tb.zr244 : zrT Tryz.prog 244 = [.nilFunc] := by kernel_rfl
@[simp] theorem Tb.za244 : (Tryz.prog.info? 244).any (·.zero.isSome) = true := by kernel_rfl
@[simp] theorem Tb.zb244 : ((Tryz.prog.info? 244).bind (·.zero)).isSome = true := by kernel_rfl
@[simp] theorem Tb.el244 : elOK Tryz.prog 244 := elOK_of (by kernel_rfl)
@[simp] theorem Tb.tk250 : tk Tryz.prog 250 = 1 := by kernel_rfl
@[simp] theorem Tb.sz250 : Program.cellsOf Tryz.prog 250 = 1 := by kernel_rfl
@[simp] theorem Tb.sl250 : slT Tryz.prog 250 = none := by kernel_rfl
@[simp] theorem Tb.st250 : isStr Tryz.prog 250 = false := by kernel_rfl
@[simp] theorem Tb.bo250 : isBool Tryz.prog 250 = false := by kernel_rfl
@[simp] theorem Tb.in250 : intT Tryz.prog 250 = none := by kernel_rfl
@[simp] theorem Tb.un250 : (Tryz.prog.underlying 250).isSome = true := by kernel_rfl
@[simp] theorem Tb.zr250 : zrT Tryz.prog 250 = [.nilFunc] := by kernel_rfl
@[simp] theorem Tb.za250 : (Tryz.prog.info? 250).any (·.zero.isSome) = true := by kernel_rfl
@[simp] theorem Tb.zb250 : ((Tryz.prog.info? 250).bind (·.zero)).isSome = true := by kernel_rfl
@[simp] theorem Tb.el250 : elOK Tryz.prog 250 := elOK_of (by kernel_rfl)
@[simp] theorem Tb.tk253 : tk Tryz.prog 253 = 1 := by kernel_rfl
@[simp] theorem Tb.sz253 : Program.cellsOf Tryz.prog 253 = 1 := by kernel_rfl
@[simp] theorem Tb.sl253 : slT Tryz.prog 253 = none := by kernel_rfl
@[simp] theorem Tb.st253 : isStr Tryz.prog 253 = false := by kernel_rfl
@[simp] theorem Tb.bo253 : isBool Tryz.prog 253 = false := by kernel_rfl
@[simp] theorem Tb.in253 : intT Tryz.prog 253 = none := by kernel_rfl
@[simp] theorem Tb.un253 : (Tryz.prog.underlying 253).isSome = true := by kernel_rfl
@[simp] theorem Tb.zr253 : zrT Tryz.prog 253 = [.nilFunc] := by kernel_rfl
@[simp] theorem Tb.za253 : (Tryz.prog.info? 253).any (·.zero.isSome) = true := by kernel_rfl
@[simp] theorem Tb.zb253 : ((Tryz.prog.info? 253).bind (·.zero)).isSome = true := by kernel_rfl
@[simp] theorem Tb.el253 : elOK Tryz.prog 253 := elOK_of (by kernel_rfl)
end Go.Proofs.YtakndgpdolfenaaGreat
end
