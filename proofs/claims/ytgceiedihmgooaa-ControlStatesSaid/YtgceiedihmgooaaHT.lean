/- Texts joined by a program: Tb. -/
import Derived.KernelRfl
import Derived.Test.YtgceiedihmgooaaH0
set_option linter.unusedSimpArgs false
set_option linter.unusedVariables false

/- The types of this translation, as simp lemmas. Written by a program (wip/gen_types.py). -/
section
namespace Go.Proofs.Ytgceiedihmgooaa
@[simp] theorem Tb.tk1 : tk Try.prog 1 = 1 := by kernel_rfl
@[simp] theorem Tb.sz1 : Program.cellsOf Try.prog 1 = 1 := by kernel_rfl
@[simp] theorem Tb.sl1 : slT Try.prog 1 = none := by kernel_rfl
@[simp] theorem Tb.st1 : isStr Try.prog 1 = false := by kernel_rfl
@[simp] theorem Tb.bo1 : isBool Try.prog 1 = false := by kernel_rfl
@[simp] theorem Tb.in1 : intT Try.prog 1 = none := by kernel_rfl
@[simp] theorem Tb.un1 : (Try.prog.underlying 1).isSome = true := by kernel_rfl
@[simp] theorem Tb.zr1 : zrT Try.prog 1 = [.nilFunc] := by kernel_rfl
@[simp] theorem Tb.za1 : (Try.prog.info? 1).any (·.zero.isSome) = true := by kernel_rfl
@[simp] theorem Tb.zb1 : ((Try.prog.info? 1).bind (·.zero)).isSome = true := by kernel_rfl
@[simp] theorem Tb.el1 : elOK Try.prog 1 := elOK_of (by kernel_rfl)
@[simp] theorem Tb.tk2 : tk Try.prog 2 = 1 := by kernel_rfl
@[simp] theorem Tb.sz2 : Program.cellsOf Try.prog 2 = 1 := by kernel_rfl
@[simp] theorem Tb.sl2 : slT Try.prog 2 = none := by kernel_rfl
@[simp] theorem Tb.st2 : isStr Try.prog 2 = false := by kernel_rfl
@[simp] theorem Tb.bo2 : isBool Try.prog 2 = false := by kernel_rfl
@[simp] theorem Tb.in2 : intT Try.prog 2 = some .i64 := by kernel_rfl
@[simp] theorem Tb.un2 : (Try.prog.underlying 2).isSome = true := by kernel_rfl
@[simp] theorem Tb.zr2 : zrT Try.prog 2 = [.int .i64 0] := by kernel_rfl
@[simp] theorem Tb.za2 : (Try.prog.info? 2).any (·.zero.isSome) = true := by kernel_rfl
@[simp] theorem Tb.zb2 : ((Try.prog.info? 2).bind (·.zero)).isSome = true := by kernel_rfl
@[simp] theorem Tb.el2 : elOK Try.prog 2 := elOK_of (by kernel_rfl)
@[simp] theorem Tb.tk3 : tk Try.prog 3 = 1 := by kernel_rfl
@[simp] theorem Tb.sz3 : Program.cellsOf Try.prog 3 = 1 := by kernel_rfl
@[simp] theorem Tb.sl3 : slT Try.prog 3 = none := by kernel_rfl
@[simp] theorem Tb.st3 : isStr Try.prog 3 = false := by kernel_rfl
@[simp] theorem Tb.bo3 : isBool Try.prog 3 = false := by kernel_rfl
@[simp] theorem Tb.in3 : intT Try.prog 3 = some .i64 := by kernel_rfl
@[simp] theorem Tb.un3 : (Try.prog.underlying 3).isSome = true := by kernel_rfl
@[simp] theorem Tb.zr3 : zrT Try.prog 3 = [.int .i64 0] := by kernel_rfl
@[simp] theorem Tb.za3 : (Try.prog.info? 3).any (·.zero.isSome) = true := by kernel_rfl
@[simp] theorem Tb.zb3 : ((Try.prog.info? 3).bind (·.zero)).isSome = true := by kernel_rfl
@[simp] theorem Tb.el3 : elOK Try.prog 3 := elOK_of (by kernel_rfl)
@[simp] theorem Tb.tk4 : tk Try.prog 4 = 1 := by kernel_rfl
@[simp] theorem Tb.sz4 : Program.cellsOf Try.prog 4 = 1 := by kernel_rfl
@[simp] theorem Tb.sl4 : slT Try.prog 4 = none := by kernel_rfl
@[simp] theorem Tb.st4 : isStr Try.prog 4 = false := by kernel_rfl
@[simp] theorem Tb.bo4 : isBool Try.prog 4 = true := by kernel_rfl
@[simp] theorem Tb.in4 : intT Try.prog 4 = none := by kernel_rfl
@[simp] theorem Tb.un4 : (Try.prog.underlying 4).isSome = true := by kernel_rfl
@[simp] theorem Tb.zr4 : zrT Try.prog 4 = [.bool false] := by kernel_rfl
@[simp] theorem Tb.za4 : (Try.prog.info? 4).any (·.zero.isSome) = true := by kernel_rfl
@[simp] theorem Tb.zb4 : ((Try.prog.info? 4).bind (·.zero)).isSome = true := by kernel_rfl
@[simp] theorem Tb.el4 : elOK Try.prog 4 := elOK_of (by kernel_rfl)
@[simp] theorem Tb.tk5 : tk Try.prog 5 = 1 := by kernel_rfl
@[simp] theorem Tb.sz5 : Program.cellsOf Try.prog 5 = 1 := by kernel_rfl
@[simp] theorem Tb.sl5 : slT Try.prog 5 = none := by kernel_rfl
@[simp] theorem Tb.st5 : isStr Try.prog 5 = false := by kernel_rfl
@[simp] theorem Tb.bo5 : isBool Try.prog 5 = false := by kernel_rfl
@[simp] theorem Tb.in5 : intT Try.prog 5 = some .u8 := by kernel_rfl
@[simp] theorem Tb.un5 : (Try.prog.underlying 5).isSome = true := by kernel_rfl
@[simp] theorem Tb.zr5 : zrT Try.prog 5 = [.int .u8 0] := by kernel_rfl
@[simp] theorem Tb.za5 : (Try.prog.info? 5).any (·.zero.isSome) = true := by kernel_rfl
@[simp] theorem Tb.zb5 : ((Try.prog.info? 5).bind (·.zero)).isSome = true := by kernel_rfl
@[simp] theorem Tb.el5 : elOK Try.prog 5 := elOK_of (by kernel_rfl)
@[simp] theorem Tb.tk9 : tk Try.prog 9 = 1 := by kernel_rfl
@[simp] theorem Tb.sz9 : Program.cellsOf Try.prog 9 = 1 := by kernel_rfl
@[simp] theorem Tb.sl9 : slT Try.prog 9 = none := by kernel_rfl
@[simp] theorem Tb.st9 : isStr Try.prog 9 = true := by kernel_rfl
@[simp] theorem Tb.bo9 : isBool Try.prog 9 = false := by kernel_rfl
@[simp] theorem Tb.in9 : intT Try.prog 9 = none := by kernel_rfl
@[simp] theorem Tb.un9 : (Try.prog.underlying 9).isSome = true := by kernel_rfl
@[simp] theorem Tb.zr9 : zrT Try.prog 9 = [.string ⟨#[]⟩] := by kernel_rfl
@[simp] theorem Tb.za9 : (Try.prog.info? 9).any (·.zero.isSome) = true := by kernel_rfl
@[simp] theorem Tb.zb9 : ((Try.prog.info? 9).bind (·.zero)).isSome = true := by kernel_rfl
@[simp] theorem Tb.el9 : elOK Try.prog 9 := elOK_of (by kernel_rfl)
@[simp] theorem Tb.tk12 : tk Try.prog 12 = 1 := by kernel_rfl
@[simp] theorem Tb.sz12 : Program.cellsOf Try.prog 12 = 1 := by kernel_rfl
@[simp] theorem Tb.sl12 : slT Try.prog 12 = none := by kernel_rfl
@[simp] theorem Tb.st12 : isStr Try.prog 12 = false := by kernel_rfl
@[simp] theorem Tb.bo12 : isBool Try.prog 12 = false := by kernel_rfl
@[simp] theorem Tb.in12 : intT Try.prog 12 = some .u64 := by kernel_rfl
@[simp] theorem Tb.un12 : (Try.prog.underlying 12).isSome = true := by kernel_rfl
@[simp] theorem Tb.zr12 : zrT Try.prog 12 = [.int .u64 0] := by kernel_rfl
@[simp] theorem Tb.za12 : (Try.prog.info? 12).any (·.zero.isSome) = true := by kernel_rfl
@[simp] theorem Tb.zb12 : ((Try.prog.info? 12).bind (·.zero)).isSome = true := by kernel_rfl
@[simp] theorem Tb.el12 : elOK Try.prog 12 := elOK_of (by kernel_rfl)
@[simp] theorem Tb.tk19 : tk Try.prog 19 = 2 := by kernel_rfl
@[simp] theorem Tb.sz19 : Program.cellsOf Try.prog 19 = 1 := by kernel_rfl
@[simp] theorem Tb.ff19_0 : foff Try.prog 19 0 = some (0, 17) := by kernel_rfl
@[simp] theorem Tb.sl19 : slT Try.prog 19 = none := by kernel_rfl
@[simp] theorem Tb.st19 : isStr Try.prog 19 = false := by kernel_rfl
@[simp] theorem Tb.bo19 : isBool Try.prog 19 = false := by kernel_rfl
@[simp] theorem Tb.in19 : intT Try.prog 19 = none := by kernel_rfl
@[simp] theorem Tb.un19 : (Try.prog.underlying 19).isSome = true := by kernel_rfl
@[simp] theorem Tb.zr19 : zrT Try.prog 19 = [.pointer none] := by kernel_rfl
@[simp] theorem Tb.za19 : (Try.prog.info? 19).any (·.zero.isSome) = true := by kernel_rfl
@[simp] theorem Tb.zb19 : ((Try.prog.info? 19).bind (·.zero)).isSome = true := by kernel_rfl
@[simp] theorem Tb.el19 : elOK Try.prog 19 := elOK_of (by kernel_rfl)
@[simp] theorem Tb.bl19 : bldT Try.prog 19 = some ([.pointer none], [(0, 1)]) := by kernel_rfl
@[simp] theorem Tb.tk21 : tk Try.prog 21 = 1 := by kernel_rfl
@[simp] theorem Tb.sz21 : Program.cellsOf Try.prog 21 = 1 := by kernel_rfl
@[simp] theorem Tb.sl21 : slT Try.prog 21 = none := by kernel_rfl
@[simp] theorem Tb.st21 : isStr Try.prog 21 = false := by kernel_rfl
@[simp] theorem Tb.bo21 : isBool Try.prog 21 = false := by kernel_rfl
@[simp] theorem Tb.in21 : intT Try.prog 21 = some .i32 := by kernel_rfl
@[simp] theorem Tb.un21 : (Try.prog.underlying 21).isSome = true := by kernel_rfl
@[simp] theorem Tb.zr21 : zrT Try.prog 21 = [.int .i32 0] := by kernel_rfl
@[simp] theorem Tb.za21 : (Try.prog.info? 21).any (·.zero.isSome) = true := by kernel_rfl
@[simp] theorem Tb.zb21 : ((Try.prog.info? 21).bind (·.zero)).isSome = true := by kernel_rfl
@[simp] theorem Tb.el21 : elOK Try.prog 21 := elOK_of (by kernel_rfl)
@[simp] theorem Tb.tk22 : tk Try.prog 22 = 1 := by kernel_rfl
@[simp] theorem Tb.sz22 : Program.cellsOf Try.prog 22 = 1 := by kernel_rfl
@[simp] theorem Tb.sl22 : slT Try.prog 22 = some 9 := by kernel_rfl
@[simp] theorem Tb.st22 : isStr Try.prog 22 = false := by kernel_rfl
@[simp] theorem Tb.bo22 : isBool Try.prog 22 = false := by kernel_rfl
@[simp] theorem Tb.in22 : intT Try.prog 22 = none := by kernel_rfl
@[simp] theorem Tb.un22 : (Try.prog.underlying 22).isSome = true := by kernel_rfl
@[simp] theorem Tb.zr22 : zrT Try.prog 22 = [.slice none 0 0] := by kernel_rfl
@[simp] theorem Tb.za22 : (Try.prog.info? 22).any (·.zero.isSome) = true := by kernel_rfl
@[simp] theorem Tb.zb22 : ((Try.prog.info? 22).bind (·.zero)).isSome = true := by kernel_rfl
@[simp] theorem Tb.el22 : elOK Try.prog 22 := elOK_of (by kernel_rfl)
@[simp] theorem Tb.tk23 : tk Try.prog 23 = 1 := by kernel_rfl
@[simp] theorem Tb.sz23 : Program.cellsOf Try.prog 23 = 1 := by kernel_rfl
@[simp] theorem Tb.sl23 : slT Try.prog 23 = some 55 := by kernel_rfl
@[simp] theorem Tb.st23 : isStr Try.prog 23 = false := by kernel_rfl
@[simp] theorem Tb.bo23 : isBool Try.prog 23 = false := by kernel_rfl
@[simp] theorem Tb.in23 : intT Try.prog 23 = none := by kernel_rfl
@[simp] theorem Tb.un23 : (Try.prog.underlying 23).isSome = true := by kernel_rfl
@[simp] theorem Tb.zr23 : zrT Try.prog 23 = [.slice none 0 0] := by kernel_rfl
@[simp] theorem Tb.za23 : (Try.prog.info? 23).any (·.zero.isSome) = true := by kernel_rfl
@[simp] theorem Tb.zb23 : ((Try.prog.info? 23).bind (·.zero)).isSome = true := by kernel_rfl
@[simp] theorem Tb.el23 : elOK Try.prog 23 := elOK_of (by kernel_rfl)
@[simp] theorem Tb.tk24 : tk Try.prog 24 = 1 := by kernel_rfl
@[simp] theorem Tb.sz24 : Program.cellsOf Try.prog 24 = 1 := by kernel_rfl
@[simp] theorem Tb.sl24 : slT Try.prog 24 = some 3 := by kernel_rfl
@[simp] theorem Tb.st24 : isStr Try.prog 24 = false := by kernel_rfl
@[simp] theorem Tb.bo24 : isBool Try.prog 24 = false := by kernel_rfl
@[simp] theorem Tb.in24 : intT Try.prog 24 = none := by kernel_rfl
@[simp] theorem Tb.un24 : (Try.prog.underlying 24).isSome = true := by kernel_rfl
@[simp] theorem Tb.zr24 : zrT Try.prog 24 = [.slice none 0 0] := by kernel_rfl
@[simp] theorem Tb.za24 : (Try.prog.info? 24).any (·.zero.isSome) = true := by kernel_rfl
@[simp] theorem Tb.zb24 : ((Try.prog.info? 24).bind (·.zero)).isSome = true := by kernel_rfl
@[simp] theorem Tb.el24 : elOK Try.prog 24 := elOK_of (by kernel_rfl)
@[simp] theorem Tb.tk25 : tk Try.prog 25 = 2 := by kernel_rfl
@[simp] theorem Tb.sz25 : Program.cellsOf Try.prog 25 = 5 := by kernel_rfl
@[simp] theorem Tb.ff25_0 : foff Try.prog 25 0 = some (0, 3) := by kernel_rfl
@[simp] theorem Tb.ff25_1 : foff Try.prog 25 1 = some (1, 22) := by kernel_rfl
@[simp] theorem Tb.ff25_2 : foff Try.prog 25 2 = some (2, 23) := by kernel_rfl
@[simp] theorem Tb.ff25_3 : foff Try.prog 25 3 = some (3, 24) := by kernel_rfl
@[simp] theorem Tb.ff25_4 : foff Try.prog 25 4 = some (4, 24) := by kernel_rfl
@[simp] theorem Tb.sl25 : slT Try.prog 25 = none := by kernel_rfl
@[simp] theorem Tb.st25 : isStr Try.prog 25 = false := by kernel_rfl
@[simp] theorem Tb.bo25 : isBool Try.prog 25 = false := by kernel_rfl
@[simp] theorem Tb.in25 : intT Try.prog 25 = none := by kernel_rfl
@[simp] theorem Tb.un25 : (Try.prog.underlying 25).isSome = true := by kernel_rfl
@[simp] theorem Tb.zr25 : zrT Try.prog 25 = [.int .i64 0, .slice none 0 0, .slice none 0 0, .slice none 0 0, .slice none 0 0] := by kernel_rfl
@[simp] theorem Tb.za25 : (Try.prog.info? 25).any (·.zero.isSome) = true := by kernel_rfl
@[simp] theorem Tb.zb25 : ((Try.prog.info? 25).bind (·.zero)).isSome = true := by kernel_rfl
@[simp] theorem Tb.el25 : elOK Try.prog 25 := elOK_of (by kernel_rfl)
@[simp] theorem Tb.bl25 : bldT Try.prog 25 = some ([.int .i64 0, .slice none 0 0, .slice none 0 0, .slice none 0 0, .slice none 0 0], [(0, 1), (1, 1), (2, 1), (3, 1), (4, 1)]) := by kernel_rfl
@[simp] theorem Tb.tk26 : tk Try.prog 26 = 2 := by kernel_rfl
@[simp] theorem Tb.sz26 : Program.cellsOf Try.prog 26 = 5 := by kernel_rfl
@[simp] theorem Tb.ff26_0 : foff Try.prog 26 0 = some (0, 3) := by kernel_rfl
@[simp] theorem Tb.ff26_1 : foff Try.prog 26 1 = some (1, 22) := by kernel_rfl
@[simp] theorem Tb.ff26_2 : foff Try.prog 26 2 = some (2, 23) := by kernel_rfl
@[simp] theorem Tb.ff26_3 : foff Try.prog 26 3 = some (3, 24) := by kernel_rfl
@[simp] theorem Tb.ff26_4 : foff Try.prog 26 4 = some (4, 24) := by kernel_rfl
@[simp] theorem Tb.sl26 : slT Try.prog 26 = none := by kernel_rfl
@[simp] theorem Tb.st26 : isStr Try.prog 26 = false := by kernel_rfl
@[simp] theorem Tb.bo26 : isBool Try.prog 26 = false := by kernel_rfl
@[simp] theorem Tb.in26 : intT Try.prog 26 = none := by kernel_rfl
@[simp] theorem Tb.un26 : (Try.prog.underlying 26).isSome = true := by kernel_rfl
@[simp] theorem Tb.zr26 : zrT Try.prog 26 = [.int .i64 0, .slice none 0 0, .slice none 0 0, .slice none 0 0, .slice none 0 0] := by kernel_rfl
@[simp] theorem Tb.za26 : (Try.prog.info? 26).any (·.zero.isSome) = true := by kernel_rfl
@[simp] theorem Tb.zb26 : ((Try.prog.info? 26).bind (·.zero)).isSome = true := by kernel_rfl
@[simp] theorem Tb.el26 : elOK Try.prog 26 := elOK_of (by kernel_rfl)
@[simp] theorem Tb.bl26 : bldT Try.prog 26 = some ([.int .i64 0, .slice none 0 0, .slice none 0 0, .slice none 0 0, .slice none 0 0], [(0, 1), (1, 1), (2, 1), (3, 1), (4, 1)]) := by kernel_rfl
@[simp] theorem Tb.tk27 : tk Try.prog 27 = 1 := by kernel_rfl
@[simp] theorem Tb.sz27 : Program.cellsOf Try.prog 27 = 1 := by kernel_rfl
@[simp] theorem Tb.sl27 : slT Try.prog 27 = some 4 := by kernel_rfl
@[simp] theorem Tb.st27 : isStr Try.prog 27 = false := by kernel_rfl
@[simp] theorem Tb.bo27 : isBool Try.prog 27 = false := by kernel_rfl
@[simp] theorem Tb.in27 : intT Try.prog 27 = none := by kernel_rfl
@[simp] theorem Tb.un27 : (Try.prog.underlying 27).isSome = true := by kernel_rfl
@[simp] theorem Tb.zr27 : zrT Try.prog 27 = [.slice none 0 0] := by kernel_rfl
@[simp] theorem Tb.za27 : (Try.prog.info? 27).any (·.zero.isSome) = true := by kernel_rfl
@[simp] theorem Tb.zb27 : ((Try.prog.info? 27).bind (·.zero)).isSome = true := by kernel_rfl
@[simp] theorem Tb.el27 : elOK Try.prog 27 := elOK_of (by kernel_rfl)
@[simp] theorem Tb.tk28 : tk Try.prog 28 = 2 := by kernel_rfl
@[simp] theorem Tb.sz28 : Program.cellsOf Try.prog 28 = 5 := by kernel_rfl
@[simp] theorem Tb.ff28_0 : foff Try.prog 28 0 = some (0, 24) := by kernel_rfl
@[simp] theorem Tb.ff28_1 : foff Try.prog 28 1 = some (1, 27) := by kernel_rfl
@[simp] theorem Tb.ff28_2 : foff Try.prog 28 2 = some (2, 27) := by kernel_rfl
@[simp] theorem Tb.ff28_3 : foff Try.prog 28 3 = some (3, 27) := by kernel_rfl
@[simp] theorem Tb.ff28_4 : foff Try.prog 28 4 = some (4, 24) := by kernel_rfl
@[simp] theorem Tb.sl28 : slT Try.prog 28 = none := by kernel_rfl
@[simp] theorem Tb.st28 : isStr Try.prog 28 = false := by kernel_rfl
@[simp] theorem Tb.bo28 : isBool Try.prog 28 = false := by kernel_rfl
@[simp] theorem Tb.in28 : intT Try.prog 28 = none := by kernel_rfl
@[simp] theorem Tb.un28 : (Try.prog.underlying 28).isSome = true := by kernel_rfl
@[simp] theorem Tb.zr28 : zrT Try.prog 28 = [.slice none 0 0, .slice none 0 0, .slice none 0 0, .slice none 0 0, .slice none 0 0] := by kernel_rfl
@[simp] theorem Tb.za28 : (Try.prog.info? 28).any (·.zero.isSome) = true := by kernel_rfl
@[simp] theorem Tb.zb28 : ((Try.prog.info? 28).bind (·.zero)).isSome = true := by kernel_rfl
@[simp] theorem Tb.el28 : elOK Try.prog 28 := elOK_of (by kernel_rfl)
@[simp] theorem Tb.bl28 : bldT Try.prog 28 = some ([.slice none 0 0, .slice none 0 0, .slice none 0 0, .slice none 0 0, .slice none 0 0], [(0, 1), (1, 1), (2, 1), (3, 1), (4, 1)]) := by kernel_rfl
@[simp] theorem Tb.tk29 : tk Try.prog 29 = 2 := by kernel_rfl
@[simp] theorem Tb.sz29 : Program.cellsOf Try.prog 29 = 5 := by kernel_rfl
@[simp] theorem Tb.ff29_0 : foff Try.prog 29 0 = some (0, 24) := by kernel_rfl
@[simp] theorem Tb.ff29_1 : foff Try.prog 29 1 = some (1, 27) := by kernel_rfl
@[simp] theorem Tb.ff29_2 : foff Try.prog 29 2 = some (2, 27) := by kernel_rfl
@[simp] theorem Tb.ff29_3 : foff Try.prog 29 3 = some (3, 27) := by kernel_rfl
@[simp] theorem Tb.ff29_4 : foff Try.prog 29 4 = some (4, 24) := by kernel_rfl
@[simp] theorem Tb.sl29 : slT Try.prog 29 = none := by kernel_rfl
@[simp] theorem Tb.st29 : isStr Try.prog 29 = false := by kernel_rfl
@[simp] theorem Tb.bo29 : isBool Try.prog 29 = false := by kernel_rfl
@[simp] theorem Tb.in29 : intT Try.prog 29 = none := by kernel_rfl
@[simp] theorem Tb.un29 : (Try.prog.underlying 29).isSome = true := by kernel_rfl
@[simp] theorem Tb.zr29 : zrT Try.prog 29 = [.slice none 0 0, .slice none 0 0, .slice none 0 0, .slice none 0 0, .slice none 0 0] := by kernel_rfl
@[simp] theorem Tb.za29 : (Try.prog.info? 29).any (·.zero.isSome) = true := by kernel_rfl
@[simp] theorem Tb.zb29 : ((Try.prog.info? 29).bind (·.zero)).isSome = true := by kernel_rfl
@[simp] theorem Tb.el29 : elOK Try.prog 29 := elOK_of (by kernel_rfl)
@[simp] theorem Tb.bl29 : bldT Try.prog 29 = some ([.slice none 0 0, .slice none 0 0, .slice none 0 0, .slice none 0 0, .slice none 0 0], [(0, 1), (1, 1), (2, 1), (3, 1), (4, 1)]) := by kernel_rfl
@[simp] theorem Tb.tk30 : tk Try.prog 30 = 1 := by kernel_rfl
@[simp] theorem Tb.sz30 : Program.cellsOf Try.prog 30 = 1 := by kernel_rfl
@[simp] theorem Tb.sl30 : slT Try.prog 30 = none := by kernel_rfl
@[simp] theorem Tb.st30 : isStr Try.prog 30 = false := by kernel_rfl
@[simp] theorem Tb.bo30 : isBool Try.prog 30 = false := by kernel_rfl
@[simp] theorem Tb.in30 : intT Try.prog 30 = none := by kernel_rfl
@[simp] theorem Tb.un30 : (Try.prog.underlying 30).isSome = true := by kernel_rfl
@[simp] theorem Tb.zr30 : zrT Try.prog 30 = [.nilFunc] := by kernel_rfl
@[simp] theorem Tb.za30 : (Try.prog.info? 30).any (·.zero.isSome) = true := by kernel_rfl
@[simp] theorem Tb.zb30 : ((Try.prog.info? 30).bind (·.zero)).isSome = true := by kernel_rfl
@[simp] theorem Tb.el30 : elOK Try.prog 30 := elOK_of (by kernel_rfl)
@[simp] theorem Tb.tk31 : tk Try.prog 31 = 1 := by kernel_rfl
@[simp] theorem Tb.sz31 : Program.cellsOf Try.prog 31 = 1 := by kernel_rfl
@[simp] theorem Tb.sl31 : slT Try.prog 31 = none := by kernel_rfl
@[simp] theorem Tb.st31 : isStr Try.prog 31 = false := by kernel_rfl
@[simp] theorem Tb.bo31 : isBool Try.prog 31 = false := by kernel_rfl
@[simp] theorem Tb.in31 : intT Try.prog 31 = none := by kernel_rfl
@[simp] theorem Tb.un31 : (Try.prog.underlying 31).isSome = true := by kernel_rfl
@[simp] theorem Tb.zr31 : zrT Try.prog 31 = [.nilFunc] := by kernel_rfl
@[simp] theorem Tb.za31 : (Try.prog.info? 31).any (·.zero.isSome) = true := by kernel_rfl
@[simp] theorem Tb.zb31 : ((Try.prog.info? 31).bind (·.zero)).isSome = true := by kernel_rfl
@[simp] theorem Tb.el31 : elOK Try.prog 31 := elOK_of (by kernel_rfl)
@[simp] theorem Tb.tk32 : tk Try.prog 32 = 1 := by kernel_rfl
@[simp] theorem Tb.sz32 : Program.cellsOf Try.prog 32 = 1 := by kernel_rfl
@[simp] theorem Tb.sl32 : slT Try.prog 32 = none := by kernel_rfl
@[simp] theorem Tb.st32 : isStr Try.prog 32 = false := by kernel_rfl
@[simp] theorem Tb.bo32 : isBool Try.prog 32 = false := by kernel_rfl
@[simp] theorem Tb.in32 : intT Try.prog 32 = none := by kernel_rfl
@[simp] theorem Tb.un32 : (Try.prog.underlying 32).isSome = true := by kernel_rfl
@[simp] theorem Tb.zr32 : zrT Try.prog 32 = [.nilFunc] := by kernel_rfl
@[simp] theorem Tb.za32 : (Try.prog.info? 32).any (·.zero.isSome) = true := by kernel_rfl
@[simp] theorem Tb.zb32 : ((Try.prog.info? 32).bind (·.zero)).isSome = true := by kernel_rfl
@[simp] theorem Tb.el32 : elOK Try.prog 32 := elOK_of (by kernel_rfl)
@[simp] theorem Tb.tk33 : tk Try.prog 33 = 1 := by kernel_rfl
@[simp] theorem Tb.sz33 : Program.cellsOf Try.prog 33 = 1 := by kernel_rfl
@[simp] theorem Tb.sl33 : slT Try.prog 33 = none := by kernel_rfl
@[simp] theorem Tb.st33 : isStr Try.prog 33 = false := by kernel_rfl
@[simp] theorem Tb.bo33 : isBool Try.prog 33 = false := by kernel_rfl
@[simp] theorem Tb.in33 : intT Try.prog 33 = some .i64 := by kernel_rfl
@[simp] theorem Tb.un33 : (Try.prog.underlying 33).isSome = true := by kernel_rfl
@[simp] theorem Tb.zr33 : zrT Try.prog 33 = [.int .i64 0] := by kernel_rfl
@[simp] theorem Tb.za33 : (Try.prog.info? 33).any (·.zero.isSome) = true := by kernel_rfl
@[simp] theorem Tb.zb33 : ((Try.prog.info? 33).bind (·.zero)).isSome = true := by kernel_rfl
@[simp] theorem Tb.el33 : elOK Try.prog 33 := elOK_of (by kernel_rfl)
@[simp] theorem Tb.tk35 : tk Try.prog 35 = 1 := by kernel_rfl
@[simp] theorem Tb.sz35 : Program.cellsOf Try.prog 35 = 1 := by kernel_rfl
@[simp] theorem Tb.sl35 : slT Try.prog 35 = none := by kernel_rfl
@[simp] theorem Tb.st35 : isStr Try.prog 35 = false := by kernel_rfl
@[simp] theorem Tb.bo35 : isBool Try.prog 35 = false := by kernel_rfl
@[simp] theorem Tb.in35 : intT Try.prog 35 = none := by kernel_rfl
@[simp] theorem Tb.un35 : (Try.prog.underlying 35).isSome = true := by kernel_rfl
@[simp] theorem Tb.zr35 : zrT Try.prog 35 = [.nilFunc] := by kernel_rfl
@[simp] theorem Tb.za35 : (Try.prog.info? 35).any (·.zero.isSome) = true := by kernel_rfl
@[simp] theorem Tb.zb35 : ((Try.prog.info? 35).bind (·.zero)).isSome = true := by kernel_rfl
@[simp] theorem Tb.el35 : elOK Try.prog 35 := elOK_of (by kernel_rfl)
@[simp] theorem Tb.tk37 : tk Try.prog 37 = 1 := by kernel_rfl
@[simp] theorem Tb.sz37 : Program.cellsOf Try.prog 37 = 1 := by kernel_rfl
@[simp] theorem Tb.sl37 : slT Try.prog 37 = none := by kernel_rfl
@[simp] theorem Tb.st37 : isStr Try.prog 37 = false := by kernel_rfl
@[simp] theorem Tb.bo37 : isBool Try.prog 37 = false := by kernel_rfl
@[simp] theorem Tb.in37 : intT Try.prog 37 = none := by kernel_rfl
@[simp] theorem Tb.un37 : (Try.prog.underlying 37).isSome = true := by kernel_rfl
@[simp] theorem Tb.zr37 : zrT Try.prog 37 = [.nilFunc] := by kernel_rfl
@[simp] theorem Tb.za37 : (Try.prog.info? 37).any (·.zero.isSome) = true := by kernel_rfl
@[simp] theorem Tb.zb37 : ((Try.prog.info? 37).bind (·.zero)).isSome = true := by kernel_rfl
@[simp] theorem Tb.el37 : elOK Try.prog 37 := elOK_of (by kernel_rfl)
@[simp] theorem Tb.tk38 : tk Try.prog 38 = 1 := by kernel_rfl
@[simp] theorem Tb.sz38 : Program.cellsOf Try.prog 38 = 1 := by kernel_rfl
@[simp] theorem Tb.sl38 : slT Try.prog 38 = none := by kernel_rfl
@[simp] theorem Tb.st38 : isStr Try.prog 38 = false := by kernel_rfl
@[simp] theorem Tb.bo38 : isBool Try.prog 38 = false := by kernel_rfl
@[simp] theorem Tb.in38 : intT Try.prog 38 = none := by kernel_rfl
@[simp] theorem Tb.un38 : (Try.prog.underlying 38).isSome = true := by kernel_rfl
@[simp] theorem Tb.zr38 : zrT Try.prog 38 = [.nilFunc] := by kernel_rfl
@[simp] theorem Tb.za38 : (Try.prog.info? 38).any (·.zero.isSome) = true := by kernel_rfl
@[simp] theorem Tb.zb38 : ((Try.prog.info? 38).bind (·.zero)).isSome = true := by kernel_rfl
@[simp] theorem Tb.el38 : elOK Try.prog 38 := elOK_of (by kernel_rfl)
@[simp] theorem Tb.tk39 : tk Try.prog 39 = 1 := by kernel_rfl
@[simp] theorem Tb.sz39 : Program.cellsOf Try.prog 39 = 1 := by kernel_rfl
@[simp] theorem Tb.sl39 : slT Try.prog 39 = none := by kernel_rfl
@[simp] theorem Tb.st39 : isStr Try.prog 39 = false := by kernel_rfl
@[simp] theorem Tb.bo39 : isBool Try.prog 39 = false := by kernel_rfl
@[simp] theorem Tb.in39 : intT Try.prog 39 = none := by kernel_rfl
@[simp] theorem Tb.un39 : (Try.prog.underlying 39).isSome = true := by kernel_rfl
@[simp] theorem Tb.zr39 : zrT Try.prog 39 = [.nilFunc] := by kernel_rfl
@[simp] theorem Tb.za39 : (Try.prog.info? 39).any (·.zero.isSome) = true := by kernel_rfl
@[simp] theorem Tb.zb39 : ((Try.prog.info? 39).bind (·.zero)).isSome = true := by kernel_rfl
@[simp] theorem Tb.el39 : elOK Try.prog 39 := elOK_of (by kernel_rfl)
@[simp] theorem Tb.tk40 : tk Try.prog 40 = 1 := by kernel_rfl
@[simp] theorem Tb.sz40 : Program.cellsOf Try.prog 40 = 1 := by kernel_rfl
@[simp] theorem Tb.sl40 : slT Try.prog 40 = none := by kernel_rfl
@[simp] theorem Tb.st40 : isStr Try.prog 40 = false := by kernel_rfl
@[simp] theorem Tb.bo40 : isBool Try.prog 40 = false := by kernel_rfl
@[simp] theorem Tb.in40 : intT Try.prog 40 = none := by kernel_rfl
@[simp] theorem Tb.un40 : (Try.prog.underlying 40).isSome = true := by kernel_rfl
@[simp] theorem Tb.zr40 : zrT Try.prog 40 = [.nilFunc] := by kernel_rfl
@[simp] theorem Tb.za40 : (Try.prog.info? 40).any (·.zero.isSome) = true := by kernel_rfl
@[simp] theorem Tb.zb40 : ((Try.prog.info? 40).bind (·.zero)).isSome = true := by kernel_rfl
@[simp] theorem Tb.el40 : elOK Try.prog 40 := elOK_of (by kernel_rfl)
@[simp] theorem Tb.tk41 : tk Try.prog 41 = 1 := by kernel_rfl
@[simp] theorem Tb.sz41 : Program.cellsOf Try.prog 41 = 1 := by kernel_rfl
@[simp] theorem Tb.sl41 : slT Try.prog 41 = none := by kernel_rfl
@[simp] theorem Tb.st41 : isStr Try.prog 41 = false := by kernel_rfl
@[simp] theorem Tb.bo41 : isBool Try.prog 41 = false := by kernel_rfl
@[simp] theorem Tb.in41 : intT Try.prog 41 = none := by kernel_rfl
@[simp] theorem Tb.un41 : (Try.prog.underlying 41).isSome = true := by kernel_rfl
@[simp] theorem Tb.zr41 : zrT Try.prog 41 = [.nilFunc] := by kernel_rfl
@[simp] theorem Tb.za41 : (Try.prog.info? 41).any (·.zero.isSome) = true := by kernel_rfl
@[simp] theorem Tb.zb41 : ((Try.prog.info? 41).bind (·.zero)).isSome = true := by kernel_rfl
@[simp] theorem Tb.el41 : elOK Try.prog 41 := elOK_of (by kernel_rfl)
@[simp] theorem Tb.tk42 : tk Try.prog 42 = 1 := by kernel_rfl
@[simp] theorem Tb.sz42 : Program.cellsOf Try.prog 42 = 1 := by kernel_rfl
@[simp] theorem Tb.sl42 : slT Try.prog 42 = none := by kernel_rfl
@[simp] theorem Tb.st42 : isStr Try.prog 42 = false := by kernel_rfl
@[simp] theorem Tb.bo42 : isBool Try.prog 42 = false := by kernel_rfl
@[simp] theorem Tb.in42 : intT Try.prog 42 = none := by kernel_rfl
@[simp] theorem Tb.un42 : (Try.prog.underlying 42).isSome = true := by kernel_rfl
@[simp] theorem Tb.zr42 : zrT Try.prog 42 = [.nilFunc] := by kernel_rfl
@[simp] theorem Tb.za42 : (Try.prog.info? 42).any (·.zero.isSome) = true := by kernel_rfl
@[simp] theorem Tb.zb42 : ((Try.prog.info? 42).bind (·.zero)).isSome = true := by kernel_rfl
@[simp] theorem Tb.el42 : elOK Try.prog 42 := elOK_of (by kernel_rfl)
@[simp] theorem Tb.tk43 : tk Try.prog 43 = 1 := by kernel_rfl
@[simp] theorem Tb.sz43 : Program.cellsOf Try.prog 43 = 1 := by kernel_rfl
@[simp] theorem Tb.sl43 : slT Try.prog 43 = none := by kernel_rfl
@[simp] theorem Tb.st43 : isStr Try.prog 43 = false := by kernel_rfl
@[simp] theorem Tb.bo43 : isBool Try.prog 43 = false := by kernel_rfl
@[simp] theorem Tb.in43 : intT Try.prog 43 = none := by kernel_rfl
@[simp] theorem Tb.un43 : (Try.prog.underlying 43).isSome = true := by kernel_rfl
@[simp] theorem Tb.zr43 : zrT Try.prog 43 = [.nilFunc] := by kernel_rfl
@[simp] theorem Tb.za43 : (Try.prog.info? 43).any (·.zero.isSome) = true := by kernel_rfl
@[simp] theorem Tb.zb43 : ((Try.prog.info? 43).bind (·.zero)).isSome = true := by kernel_rfl
@[simp] theorem Tb.el43 : elOK Try.prog 43 := elOK_of (by kernel_rfl)
@[simp] theorem Tb.tk44 : tk Try.prog 44 = 1 := by kernel_rfl
@[simp] theorem Tb.sz44 : Program.cellsOf Try.prog 44 = 1 := by kernel_rfl
@[simp] theorem Tb.sl44 : slT Try.prog 44 = some 46 := by kernel_rfl
@[simp] theorem Tb.st44 : isStr Try.prog 44 = false := by kernel_rfl
@[simp] theorem Tb.bo44 : isBool Try.prog 44 = false := by kernel_rfl
@[simp] theorem Tb.in44 : intT Try.prog 44 = none := by kernel_rfl
@[simp] theorem Tb.un44 : (Try.prog.underlying 44).isSome = true := by kernel_rfl
@[simp] theorem Tb.zr44 : zrT Try.prog 44 = [.slice none 0 0] := by kernel_rfl
@[simp] theorem Tb.za44 : (Try.prog.info? 44).any (·.zero.isSome) = true := by kernel_rfl
@[simp] theorem Tb.zb44 : ((Try.prog.info? 44).bind (·.zero)).isSome = true := by kernel_rfl
@[simp] theorem Tb.el44 : elOK Try.prog 44 := elOK_of (by kernel_rfl)
@[simp] theorem Tb.tk45 : tk Try.prog 45 = 2 := by kernel_rfl
@[simp] theorem Tb.sz45 : Program.cellsOf Try.prog 45 = 3 := by kernel_rfl
@[simp] theorem Tb.ff45_0 : foff Try.prog 45 0 = some (0, 3) := by kernel_rfl
@[simp] theorem Tb.ff45_1 : foff Try.prog 45 1 = some (1, 3) := by kernel_rfl
@[simp] theorem Tb.ff45_2 : foff Try.prog 45 2 = some (2, 44) := by kernel_rfl
@[simp] theorem Tb.sl45 : slT Try.prog 45 = none := by kernel_rfl
@[simp] theorem Tb.st45 : isStr Try.prog 45 = false := by kernel_rfl
@[simp] theorem Tb.bo45 : isBool Try.prog 45 = false := by kernel_rfl
@[simp] theorem Tb.in45 : intT Try.prog 45 = none := by kernel_rfl
@[simp] theorem Tb.un45 : (Try.prog.underlying 45).isSome = true := by kernel_rfl
@[simp] theorem Tb.zr45 : zrT Try.prog 45 = [.int .i64 0, .int .i64 0, .slice none 0 0] := by kernel_rfl
@[simp] theorem Tb.za45 : (Try.prog.info? 45).any (·.zero.isSome) = true := by kernel_rfl
@[simp] theorem Tb.zb45 : ((Try.prog.info? 45).bind (·.zero)).isSome = true := by kernel_rfl
@[simp] theorem Tb.el45 : elOK Try.prog 45 := elOK_of (by kernel_rfl)
@[simp] theorem Tb.bl45 : bldT Try.prog 45 = some ([.int .i64 0, .int .i64 0, .slice none 0 0], [(0, 1), (1, 1), (2, 1)]) := by kernel_rfl
@[simp] theorem Tb.tk46 : tk Try.prog 46 = 2 := by kernel_rfl
@[simp] theorem Tb.sz46 : Program.cellsOf Try.prog 46 = 3 := by kernel_rfl
@[simp] theorem Tb.ff46_0 : foff Try.prog 46 0 = some (0, 3) := by kernel_rfl
@[simp] theorem Tb.ff46_1 : foff Try.prog 46 1 = some (1, 3) := by kernel_rfl
@[simp] theorem Tb.ff46_2 : foff Try.prog 46 2 = some (2, 44) := by kernel_rfl
@[simp] theorem Tb.sl46 : slT Try.prog 46 = none := by kernel_rfl
@[simp] theorem Tb.st46 : isStr Try.prog 46 = false := by kernel_rfl
@[simp] theorem Tb.bo46 : isBool Try.prog 46 = false := by kernel_rfl
@[simp] theorem Tb.in46 : intT Try.prog 46 = none := by kernel_rfl
@[simp] theorem Tb.un46 : (Try.prog.underlying 46).isSome = true := by kernel_rfl
@[simp] theorem Tb.zr46 : zrT Try.prog 46 = [.int .i64 0, .int .i64 0, .slice none 0 0] := by kernel_rfl
@[simp] theorem Tb.za46 : (Try.prog.info? 46).any (·.zero.isSome) = true := by kernel_rfl
@[simp] theorem Tb.zb46 : ((Try.prog.info? 46).bind (·.zero)).isSome = true := by kernel_rfl
@[simp] theorem Tb.el46 : elOK Try.prog 46 := elOK_of (by kernel_rfl)
@[simp] theorem Tb.bl46 : bldT Try.prog 46 = some ([.int .i64 0, .int .i64 0, .slice none 0 0], [(0, 1), (1, 1), (2, 1)]) := by kernel_rfl
@[simp] theorem Tb.tk47 : tk Try.prog 47 = 1 := by kernel_rfl
@[simp] theorem Tb.sz47 : Program.cellsOf Try.prog 47 = 1 := by kernel_rfl
@[simp] theorem Tb.sl47 : slT Try.prog 47 = none := by kernel_rfl
@[simp] theorem Tb.st47 : isStr Try.prog 47 = false := by kernel_rfl
@[simp] theorem Tb.bo47 : isBool Try.prog 47 = false := by kernel_rfl
@[simp] theorem Tb.in47 : intT Try.prog 47 = none := by kernel_rfl
@[simp] theorem Tb.un47 : (Try.prog.underlying 47).isSome = true := by kernel_rfl
@[simp] theorem Tb.zr47 : zrT Try.prog 47 = [.nilFunc] := by kernel_rfl
@[simp] theorem Tb.za47 : (Try.prog.info? 47).any (·.zero.isSome) = true := by kernel_rfl
@[simp] theorem Tb.zb47 : ((Try.prog.info? 47).bind (·.zero)).isSome = true := by kernel_rfl
@[simp] theorem Tb.el47 : elOK Try.prog 47 := elOK_of (by kernel_rfl)
@[simp] theorem Tb.tk49 : tk Try.prog 49 = 1 := by kernel_rfl
@[simp] theorem Tb.sz49 : Program.cellsOf Try.prog 49 = 1 := by kernel_rfl
@[simp] theorem Tb.sl49 : slT Try.prog 49 = none := by kernel_rfl
@[simp] theorem Tb.st49 : isStr Try.prog 49 = false := by kernel_rfl
@[simp] theorem Tb.bo49 : isBool Try.prog 49 = false := by kernel_rfl
@[simp] theorem Tb.in49 : intT Try.prog 49 = none := by kernel_rfl
@[simp] theorem Tb.un49 : (Try.prog.underlying 49).isSome = true := by kernel_rfl
@[simp] theorem Tb.zr49 : zrT Try.prog 49 = [.nilFunc] := by kernel_rfl
@[simp] theorem Tb.za49 : (Try.prog.info? 49).any (·.zero.isSome) = true := by kernel_rfl
@[simp] theorem Tb.zb49 : ((Try.prog.info? 49).bind (·.zero)).isSome = true := by kernel_rfl
@[simp] theorem Tb.el49 : elOK Try.prog 49 := elOK_of (by kernel_rfl)
@[simp] theorem Tb.tk51 : tk Try.prog 51 = 1 := by kernel_rfl
@[simp] theorem Tb.sz51 : Program.cellsOf Try.prog 51 = 1 := by kernel_rfl
@[simp] theorem Tb.sl51 : slT Try.prog 51 = none := by kernel_rfl
@[simp] theorem Tb.st51 : isStr Try.prog 51 = false := by kernel_rfl
@[simp] theorem Tb.bo51 : isBool Try.prog 51 = false := by kernel_rfl
@[simp] theorem Tb.in51 : intT Try.prog 51 = none := by kernel_rfl
@[simp] theorem Tb.un51 : (Try.prog.underlying 51).isSome = true := by kernel_rfl
@[simp] theorem Tb.zr51 : zrT Try.prog 51 = [.nilFunc] := by kernel_rfl
@[simp] theorem Tb.za51 : (Try.prog.info? 51).any (·.zero.isSome) = true := by kernel_rfl
@[simp] theorem Tb.zb51 : ((Try.prog.info? 51).bind (·.zero)).isSome = true := by kernel_rfl
@[simp] theorem Tb.el51 : elOK Try.prog 51 := elOK_of (by kernel_rfl)
@[simp] theorem Tb.tk52 : tk Try.prog 52 = 1 := by kernel_rfl
@[simp] theorem Tb.sz52 : Program.cellsOf Try.prog 52 = 1 := by kernel_rfl
@[simp] theorem Tb.sl52 : slT Try.prog 52 = none := by kernel_rfl
@[simp] theorem Tb.st52 : isStr Try.prog 52 = false := by kernel_rfl
@[simp] theorem Tb.bo52 : isBool Try.prog 52 = false := by kernel_rfl
@[simp] theorem Tb.in52 : intT Try.prog 52 = none := by kernel_rfl
@[simp] theorem Tb.un52 : (Try.prog.underlying 52).isSome = true := by kernel_rfl
@[simp] theorem Tb.zr52 : zrT Try.prog 52 = [.nilFunc] := by kernel_rfl
@[simp] theorem Tb.za52 : (Try.prog.info? 52).any (·.zero.isSome) = true := by kernel_rfl
@[simp] theorem Tb.zb52 : ((Try.prog.info? 52).bind (·.zero)).isSome = true := by kernel_rfl
@[simp] theorem Tb.el52 : elOK Try.prog 52 := elOK_of (by kernel_rfl)
@[simp] theorem Tb.tk53 : tk Try.prog 53 = 1 := by kernel_rfl
@[simp] theorem Tb.sz53 : Program.cellsOf Try.prog 53 = 1 := by kernel_rfl
@[simp] theorem Tb.sl53 : slT Try.prog 53 = none := by kernel_rfl
@[simp] theorem Tb.st53 : isStr Try.prog 53 = false := by kernel_rfl
@[simp] theorem Tb.bo53 : isBool Try.prog 53 = false := by kernel_rfl
@[simp] theorem Tb.in53 : intT Try.prog 53 = none := by kernel_rfl
@[simp] theorem Tb.un53 : (Try.prog.underlying 53).isSome = true := by kernel_rfl
@[simp] theorem Tb.zr53 : zrT Try.prog 53 = [.nilFunc] := by kernel_rfl
@[simp] theorem Tb.za53 : (Try.prog.info? 53).any (·.zero.isSome) = true := by kernel_rfl
@[simp] theorem Tb.zb53 : ((Try.prog.info? 53).bind (·.zero)).isSome = true := by kernel_rfl
@[simp] theorem Tb.el53 : elOK Try.prog 53 := elOK_of (by kernel_rfl)
@[simp] theorem Tb.tk54 : tk Try.prog 54 = 2 := by kernel_rfl
@[simp] theorem Tb.sz54 : Program.cellsOf Try.prog 54 = 10 := by kernel_rfl
@[simp] theorem Tb.ff54_0 : foff Try.prog 54 0 = some (0, 9) := by kernel_rfl
@[simp] theorem Tb.ff54_1 : foff Try.prog 54 1 = some (1, 3) := by kernel_rfl
@[simp] theorem Tb.ff54_2 : foff Try.prog 54 2 = some (2, 46) := by kernel_rfl
@[simp] theorem Tb.ff54_3 : foff Try.prog 54 3 = some (5, 46) := by kernel_rfl
@[simp] theorem Tb.ff54_4 : foff Try.prog 54 4 = some (8, 3) := by kernel_rfl
@[simp] theorem Tb.ff54_5 : foff Try.prog 54 5 = some (9, 4) := by kernel_rfl
@[simp] theorem Tb.sl54 : slT Try.prog 54 = none := by kernel_rfl
@[simp] theorem Tb.st54 : isStr Try.prog 54 = false := by kernel_rfl
@[simp] theorem Tb.bo54 : isBool Try.prog 54 = false := by kernel_rfl
@[simp] theorem Tb.in54 : intT Try.prog 54 = none := by kernel_rfl
@[simp] theorem Tb.un54 : (Try.prog.underlying 54).isSome = true := by kernel_rfl
@[simp] theorem Tb.zr54 : zrT Try.prog 54 = [.string ⟨#[]⟩, .int .i64 0, .int .i64 0, .int .i64 0, .slice none 0 0, .int .i64 0, .int .i64 0, .slice none 0 0, .int .i64 0, .bool false] := by kernel_rfl
@[simp] theorem Tb.za54 : (Try.prog.info? 54).any (·.zero.isSome) = true := by kernel_rfl
@[simp] theorem Tb.zb54 : ((Try.prog.info? 54).bind (·.zero)).isSome = true := by kernel_rfl
@[simp] theorem Tb.el54 : elOK Try.prog 54 := elOK_of (by kernel_rfl)
@[simp] theorem Tb.bl54 : bldT Try.prog 54 = some ([.string ⟨#[]⟩, .int .i64 0, .int .i64 0, .int .i64 0, .slice none 0 0, .int .i64 0, .int .i64 0, .slice none 0 0, .int .i64 0, .bool false], [(0, 1), (1, 1), (2, 3), (5, 3), (8, 1), (9, 1)]) := by kernel_rfl
@[simp] theorem Tb.tk55 : tk Try.prog 55 = 2 := by kernel_rfl
@[simp] theorem Tb.sz55 : Program.cellsOf Try.prog 55 = 10 := by kernel_rfl
@[simp] theorem Tb.ff55_0 : foff Try.prog 55 0 = some (0, 9) := by kernel_rfl
@[simp] theorem Tb.ff55_1 : foff Try.prog 55 1 = some (1, 3) := by kernel_rfl
@[simp] theorem Tb.ff55_2 : foff Try.prog 55 2 = some (2, 46) := by kernel_rfl
@[simp] theorem Tb.ff55_3 : foff Try.prog 55 3 = some (5, 46) := by kernel_rfl
@[simp] theorem Tb.ff55_4 : foff Try.prog 55 4 = some (8, 3) := by kernel_rfl
@[simp] theorem Tb.ff55_5 : foff Try.prog 55 5 = some (9, 4) := by kernel_rfl
@[simp] theorem Tb.sl55 : slT Try.prog 55 = none := by kernel_rfl
@[simp] theorem Tb.st55 : isStr Try.prog 55 = false := by kernel_rfl
@[simp] theorem Tb.bo55 : isBool Try.prog 55 = false := by kernel_rfl
@[simp] theorem Tb.in55 : intT Try.prog 55 = none := by kernel_rfl
@[simp] theorem Tb.un55 : (Try.prog.underlying 55).isSome = true := by kernel_rfl
@[simp] theorem Tb.zr55 : zrT Try.prog 55 = [.string ⟨#[]⟩, .int .i64 0, .int .i64 0, .int .i64 0, .slice none 0 0, .int .i64 0, .int .i64 0, .slice none 0 0, .int .i64 0, .bool false] := by kernel_rfl
@[simp] theorem Tb.za55 : (Try.prog.info? 55).any (·.zero.isSome) = true := by kernel_rfl
@[simp] theorem Tb.zb55 : ((Try.prog.info? 55).bind (·.zero)).isSome = true := by kernel_rfl
@[simp] theorem Tb.el55 : elOK Try.prog 55 := elOK_of (by kernel_rfl)
@[simp] theorem Tb.bl55 : bldT Try.prog 55 = some ([.string ⟨#[]⟩, .int .i64 0, .int .i64 0, .int .i64 0, .slice none 0 0, .int .i64 0, .int .i64 0, .slice none 0 0, .int .i64 0, .bool false], [(0, 1), (1, 1), (2, 3), (5, 3), (8, 1), (9, 1)]) := by kernel_rfl
@[simp] theorem Tb.tk56 : tk Try.prog 56 = 1 := by kernel_rfl
@[simp] theorem Tb.sz56 : Program.cellsOf Try.prog 56 = 1 := by kernel_rfl
@[simp] theorem Tb.sl56 : slT Try.prog 56 = none := by kernel_rfl
@[simp] theorem Tb.st56 : isStr Try.prog 56 = false := by kernel_rfl
@[simp] theorem Tb.bo56 : isBool Try.prog 56 = false := by kernel_rfl
@[simp] theorem Tb.in56 : intT Try.prog 56 = none := by kernel_rfl
@[simp] theorem Tb.un56 : (Try.prog.underlying 56).isSome = true := by kernel_rfl
@[simp] theorem Tb.zr56 : zrT Try.prog 56 = [.nilFunc] := by kernel_rfl
@[simp] theorem Tb.za56 : (Try.prog.info? 56).any (·.zero.isSome) = true := by kernel_rfl
@[simp] theorem Tb.zb56 : ((Try.prog.info? 56).bind (·.zero)).isSome = true := by kernel_rfl
@[simp] theorem Tb.el56 : elOK Try.prog 56 := elOK_of (by kernel_rfl)
@[simp] theorem Tb.tk57 : tk Try.prog 57 = 1 := by kernel_rfl
@[simp] theorem Tb.sz57 : Program.cellsOf Try.prog 57 = 1 := by kernel_rfl
@[simp] theorem Tb.sl57 : slT Try.prog 57 = none := by kernel_rfl
@[simp] theorem Tb.st57 : isStr Try.prog 57 = false := by kernel_rfl
@[simp] theorem Tb.bo57 : isBool Try.prog 57 = false := by kernel_rfl
@[simp] theorem Tb.in57 : intT Try.prog 57 = none := by kernel_rfl
@[simp] theorem Tb.un57 : (Try.prog.underlying 57).isSome = true := by kernel_rfl
@[simp] theorem Tb.zr57 : zrT Try.prog 57 = [.nilFunc] := by kernel_rfl
@[simp] theorem Tb.za57 : (Try.prog.info? 57).any (·.zero.isSome) = true := by kernel_rfl
@[simp] theorem Tb.zb57 : ((Try.prog.info? 57).bind (·.zero)).isSome = true := by kernel_rfl
@[simp] theorem Tb.el57 : elOK Try.prog 57 := elOK_of (by kernel_rfl)
@[simp] theorem Tb.tk58 : tk Try.prog 58 = 1 := by kernel_rfl
@[simp] theorem Tb.sz58 : Program.cellsOf Try.prog 58 = 1 := by kernel_rfl
@[simp] theorem Tb.sl58 : slT Try.prog 58 = none := by kernel_rfl
@[simp] theorem Tb.st58 : isStr Try.prog 58 = false := by kernel_rfl
@[simp] theorem Tb.bo58 : isBool Try.prog 58 = false := by kernel_rfl
@[simp] theorem Tb.in58 : intT Try.prog 58 = none := by kernel_rfl
@[simp] theorem Tb.un58 : (Try.prog.underlying 58).isSome = true := by kernel_rfl
@[simp] theorem Tb.zr58 : zrT Try.prog 58 = [.nilFunc] := by kernel_rfl
@[simp] theorem Tb.za58 : (Try.prog.info? 58).any (·.zero.isSome) = true := by kernel_rfl
@[simp] theorem Tb.zb58 : ((Try.prog.info? 58).bind (·.zero)).isSome = true := by kernel_rfl
@[simp] theorem Tb.el58 : elOK Try.prog 58 := elOK_of (by kernel_rfl)
@[simp] theorem Tb.tk59 : tk Try.prog 59 = 1 := by kernel_rfl
@[simp] theorem Tb.sz59 : Program.cellsOf Try.prog 59 = 1 := by kernel_rfl
@[simp] theorem Tb.sl59 : slT Try.prog 59 = none := by kernel_rfl
@[simp] theorem Tb.st59 : isStr Try.prog 59 = false := by kernel_rfl
@[simp] theorem Tb.bo59 : isBool Try.prog 59 = false := by kernel_rfl
@[simp] theorem Tb.in59 : intT Try.prog 59 = none := by kernel_rfl
@[simp] theorem Tb.un59 : (Try.prog.underlying 59).isSome = true := by kernel_rfl
@[simp] theorem Tb.zr59 : zrT Try.prog 59 = [.nilFunc] := by kernel_rfl
@[simp] theorem Tb.za59 : (Try.prog.info? 59).any (·.zero.isSome) = true := by kernel_rfl
@[simp] theorem Tb.zb59 : ((Try.prog.info? 59).bind (·.zero)).isSome = true := by kernel_rfl
@[simp] theorem Tb.el59 : elOK Try.prog 59 := elOK_of (by kernel_rfl)
@[simp] theorem Tb.tk61 : tk Try.prog 61 = 1 := by kernel_rfl
@[simp] theorem Tb.sz61 : Program.cellsOf Try.prog 61 = 1 := by kernel_rfl
@[simp] theorem Tb.sl61 : slT Try.prog 61 = none := by kernel_rfl
@[simp] theorem Tb.st61 : isStr Try.prog 61 = false := by kernel_rfl
@[simp] theorem Tb.bo61 : isBool Try.prog 61 = false := by kernel_rfl
@[simp] theorem Tb.in61 : intT Try.prog 61 = none := by kernel_rfl
@[simp] theorem Tb.un61 : (Try.prog.underlying 61).isSome = true := by kernel_rfl
@[simp] theorem Tb.zr61 : zrT Try.prog 61 = [.nilFunc] := by kernel_rfl
@[simp] theorem Tb.za61 : (Try.prog.info? 61).any (·.zero.isSome) = true := by kernel_rfl
@[simp] theorem Tb.zb61 : ((Try.prog.info? 61).bind (·.zero)).isSome = true := by kernel_rfl
@[simp] theorem Tb.el61 : elOK Try.prog 61 := elOK_of (by kernel_rfl)
@[simp] theorem Tb.tk63 : tk Try.prog 63 = 1 := by kernel_rfl
@[simp] theorem Tb.sz63 : Program.cellsOf Try.prog 63 = 1 := by kernel_rfl
@[simp] theorem Tb.sl63 : slT Try.prog 63 = none := by kernel_rfl
@[simp] theorem Tb.st63 : isStr Try.prog 63 = false := by kernel_rfl
@[simp] theorem Tb.bo63 : isBool Try.prog 63 = false := by kernel_rfl
@[simp] theorem Tb.in63 : intT Try.prog 63 = none := by kernel_rfl
@[simp] theorem Tb.un63 : (Try.prog.underlying 63).isSome = true := by kernel_rfl
@[simp] theorem Tb.zr63 : zrT Try.prog 63 = [.nilFunc] := by kernel_rfl
@[simp] theorem Tb.za63 : (Try.prog.info? 63).any (·.zero.isSome) = true := by kernel_rfl
@[simp] theorem Tb.zb63 : ((Try.prog.info? 63).bind (·.zero)).isSome = true := by kernel_rfl
@[simp] theorem Tb.el63 : elOK Try.prog 63 := elOK_of (by kernel_rfl)
@[simp] theorem Tb.tk64 : tk Try.prog 64 = 1 := by kernel_rfl
@[simp] theorem Tb.sz64 : Program.cellsOf Try.prog 64 = 1 := by kernel_rfl
@[simp] theorem Tb.sl64 : slT Try.prog 64 = none := by kernel_rfl
@[simp] theorem Tb.st64 : isStr Try.prog 64 = false := by kernel_rfl
@[simp] theorem Tb.bo64 : isBool Try.prog 64 = false := by kernel_rfl
@[simp] theorem Tb.in64 : intT Try.prog 64 = none := by kernel_rfl
@[simp] theorem Tb.un64 : (Try.prog.underlying 64).isSome = true := by kernel_rfl
@[simp] theorem Tb.zr64 : zrT Try.prog 64 = [.nilFunc] := by kernel_rfl
@[simp] theorem Tb.za64 : (Try.prog.info? 64).any (·.zero.isSome) = true := by kernel_rfl
@[simp] theorem Tb.zb64 : ((Try.prog.info? 64).bind (·.zero)).isSome = true := by kernel_rfl
@[simp] theorem Tb.el64 : elOK Try.prog 64 := elOK_of (by kernel_rfl)
@[simp] theorem Tb.tk65 : tk Try.prog 65 = 1 := by kernel_rfl
@[simp] theorem Tb.sz65 : Program.cellsOf Try.prog 65 = 1 := by kernel_rfl
@[simp] theorem Tb.sl65 : slT Try.prog 65 = none := by kernel_rfl
@[simp] theorem Tb.st65 : isStr Try.prog 65 = false := by kernel_rfl
@[simp] theorem Tb.bo65 : isBool Try.prog 65 = false := by kernel_rfl
@[simp] theorem Tb.in65 : intT Try.prog 65 = none := by kernel_rfl
@[simp] theorem Tb.un65 : (Try.prog.underlying 65).isSome = true := by kernel_rfl
@[simp] theorem Tb.zr65 : zrT Try.prog 65 = [.nilFunc] := by kernel_rfl
@[simp] theorem Tb.za65 : (Try.prog.info? 65).any (·.zero.isSome) = true := by kernel_rfl
@[simp] theorem Tb.zb65 : ((Try.prog.info? 65).bind (·.zero)).isSome = true := by kernel_rfl
@[simp] theorem Tb.el65 : elOK Try.prog 65 := elOK_of (by kernel_rfl)
@[simp] theorem Tb.tk66 : tk Try.prog 66 = 1 := by kernel_rfl
@[simp] theorem Tb.sz66 : Program.cellsOf Try.prog 66 = 1 := by kernel_rfl
@[simp] theorem Tb.sl66 : slT Try.prog 66 = none := by kernel_rfl
@[simp] theorem Tb.st66 : isStr Try.prog 66 = false := by kernel_rfl
@[simp] theorem Tb.bo66 : isBool Try.prog 66 = false := by kernel_rfl
@[simp] theorem Tb.in66 : intT Try.prog 66 = none := by kernel_rfl
@[simp] theorem Tb.un66 : (Try.prog.underlying 66).isSome = true := by kernel_rfl
@[simp] theorem Tb.zr66 : zrT Try.prog 66 = [.nilFunc] := by kernel_rfl
@[simp] theorem Tb.za66 : (Try.prog.info? 66).any (·.zero.isSome) = true := by kernel_rfl
@[simp] theorem Tb.zb66 : ((Try.prog.info? 66).bind (·.zero)).isSome = true := by kernel_rfl
@[simp] theorem Tb.el66 : elOK Try.prog 66 := elOK_of (by kernel_rfl)
@[simp] theorem Tb.tk67 : tk Try.prog 67 = 1 := by kernel_rfl
@[simp] theorem Tb.sz67 : Program.cellsOf Try.prog 67 = 1 := by kernel_rfl
@[simp] theorem Tb.sl67 : slT Try.prog 67 = none := by kernel_rfl
@[simp] theorem Tb.st67 : isStr Try.prog 67 = false := by kernel_rfl
@[simp] theorem Tb.bo67 : isBool Try.prog 67 = false := by kernel_rfl
@[simp] theorem Tb.in67 : intT Try.prog 67 = none := by kernel_rfl
@[simp] theorem Tb.un67 : (Try.prog.underlying 67).isSome = true := by kernel_rfl
@[simp] theorem Tb.zr67 : zrT Try.prog 67 = [.nilFunc] := by kernel_rfl
@[simp] theorem Tb.za67 : (Try.prog.info? 67).any (·.zero.isSome) = true := by kernel_rfl
@[simp] theorem Tb.zb67 : ((Try.prog.info? 67).bind (·.zero)).isSome = true := by kernel_rfl
@[simp] theorem Tb.el67 : elOK Try.prog 67 := elOK_of (by kernel_rfl)
@[simp] theorem Tb.tk68 : tk Try.prog 68 = 1 := by kernel_rfl
@[simp] theorem Tb.sz68 : Program.cellsOf Try.prog 68 = 1 := by kernel_rfl
@[simp] theorem Tb.sl68 : slT Try.prog 68 = none := by kernel_rfl
@[simp] theorem Tb.st68 : isStr Try.prog 68 = false := by kernel_rfl
@[simp] theorem Tb.bo68 : isBool Try.prog 68 = false := by kernel_rfl
@[simp] theorem Tb.in68 : intT Try.prog 68 = none := by kernel_rfl
@[simp] theorem Tb.un68 : (Try.prog.underlying 68).isSome = true := by kernel_rfl
@[simp] theorem Tb.zr68 : zrT Try.prog 68 = [.nilFunc] := by kernel_rfl
@[simp] theorem Tb.za68 : (Try.prog.info? 68).any (·.zero.isSome) = true := by kernel_rfl
@[simp] theorem Tb.zb68 : ((Try.prog.info? 68).bind (·.zero)).isSome = true := by kernel_rfl
@[simp] theorem Tb.el68 : elOK Try.prog 68 := elOK_of (by kernel_rfl)
@[simp] theorem Tb.tk69 : tk Try.prog 69 = 1 := by kernel_rfl
@[simp] theorem Tb.sz69 : Program.cellsOf Try.prog 69 = 1 := by kernel_rfl
@[simp] theorem Tb.sl69 : slT Try.prog 69 = none := by kernel_rfl
@[simp] theorem Tb.st69 : isStr Try.prog 69 = false := by kernel_rfl
@[simp] theorem Tb.bo69 : isBool Try.prog 69 = false := by kernel_rfl
@[simp] theorem Tb.in69 : intT Try.prog 69 = none := by kernel_rfl
@[simp] theorem Tb.un69 : (Try.prog.underlying 69).isSome = true := by kernel_rfl
@[simp] theorem Tb.zr69 : zrT Try.prog 69 = [.nilFunc] := by kernel_rfl
@[simp] theorem Tb.za69 : (Try.prog.info? 69).any (·.zero.isSome) = true := by kernel_rfl
@[simp] theorem Tb.zb69 : ((Try.prog.info? 69).bind (·.zero)).isSome = true := by kernel_rfl
@[simp] theorem Tb.el69 : elOK Try.prog 69 := elOK_of (by kernel_rfl)
@[simp] theorem Tb.tk70 : tk Try.prog 70 = 1 := by kernel_rfl
@[simp] theorem Tb.sz70 : Program.cellsOf Try.prog 70 = 1 := by kernel_rfl
@[simp] theorem Tb.sl70 : slT Try.prog 70 = none := by kernel_rfl
@[simp] theorem Tb.st70 : isStr Try.prog 70 = false := by kernel_rfl
@[simp] theorem Tb.bo70 : isBool Try.prog 70 = false := by kernel_rfl
@[simp] theorem Tb.in70 : intT Try.prog 70 = none := by kernel_rfl
@[simp] theorem Tb.un70 : (Try.prog.underlying 70).isSome = true := by kernel_rfl
@[simp] theorem Tb.zr70 : zrT Try.prog 70 = [.nilFunc] := by kernel_rfl
@[simp] theorem Tb.za70 : (Try.prog.info? 70).any (·.zero.isSome) = true := by kernel_rfl
@[simp] theorem Tb.zb70 : ((Try.prog.info? 70).bind (·.zero)).isSome = true := by kernel_rfl
@[simp] theorem Tb.el70 : elOK Try.prog 70 := elOK_of (by kernel_rfl)
@[simp] theorem Tb.tk71 : tk Try.prog 71 = 1 := by kernel_rfl
@[simp] theorem Tb.sz71 : Program.cellsOf Try.prog 71 = 1 := by kernel_rfl
@[simp] theorem Tb.sl71 : slT Try.prog 71 = none := by kernel_rfl
@[simp] theorem Tb.st71 : isStr Try.prog 71 = false := by kernel_rfl
@[simp] theorem Tb.bo71 : isBool Try.prog 71 = false := by kernel_rfl
@[simp] theorem Tb.in71 : intT Try.prog 71 = none := by kernel_rfl
@[simp] theorem Tb.un71 : (Try.prog.underlying 71).isSome = true := by kernel_rfl
@[simp] theorem Tb.zr71 : zrT Try.prog 71 = [.nilFunc] := by kernel_rfl
@[simp] theorem Tb.za71 : (Try.prog.info? 71).any (·.zero.isSome) = true := by kernel_rfl
@[simp] theorem Tb.zb71 : ((Try.prog.info? 71).bind (·.zero)).isSome = true := by kernel_rfl
@[simp] theorem Tb.el71 : elOK Try.prog 71 := elOK_of (by kernel_rfl)
@[simp] theorem Tb.tk72 : tk Try.prog 72 = 1 := by kernel_rfl
@[simp] theorem Tb.sz72 : Program.cellsOf Try.prog 72 = 1 := by kernel_rfl
@[simp] theorem Tb.sl72 : slT Try.prog 72 = none := by kernel_rfl
@[simp] theorem Tb.st72 : isStr Try.prog 72 = false := by kernel_rfl
@[simp] theorem Tb.bo72 : isBool Try.prog 72 = false := by kernel_rfl
@[simp] theorem Tb.in72 : intT Try.prog 72 = none := by kernel_rfl
@[simp] theorem Tb.un72 : (Try.prog.underlying 72).isSome = true := by kernel_rfl
@[simp] theorem Tb.zr72 : zrT Try.prog 72 = [.nilFunc] := by kernel_rfl
@[simp] theorem Tb.za72 : (Try.prog.info? 72).any (·.zero.isSome) = true := by kernel_rfl
@[simp] theorem Tb.zb72 : ((Try.prog.info? 72).bind (·.zero)).isSome = true := by kernel_rfl
@[simp] theorem Tb.el72 : elOK Try.prog 72 := elOK_of (by kernel_rfl)
@[simp] theorem Tb.tk73 : tk Try.prog 73 = 1 := by kernel_rfl
@[simp] theorem Tb.sz73 : Program.cellsOf Try.prog 73 = 1 := by kernel_rfl
@[simp] theorem Tb.sl73 : slT Try.prog 73 = none := by kernel_rfl
@[simp] theorem Tb.st73 : isStr Try.prog 73 = false := by kernel_rfl
@[simp] theorem Tb.bo73 : isBool Try.prog 73 = false := by kernel_rfl
@[simp] theorem Tb.in73 : intT Try.prog 73 = none := by kernel_rfl
@[simp] theorem Tb.un73 : (Try.prog.underlying 73).isSome = true := by kernel_rfl
@[simp] theorem Tb.zr73 : zrT Try.prog 73 = [.nilFunc] := by kernel_rfl
@[simp] theorem Tb.za73 : (Try.prog.info? 73).any (·.zero.isSome) = true := by kernel_rfl
@[simp] theorem Tb.zb73 : ((Try.prog.info? 73).bind (·.zero)).isSome = true := by kernel_rfl
@[simp] theorem Tb.el73 : elOK Try.prog 73 := elOK_of (by kernel_rfl)
@[simp] theorem Tb.tk74 : tk Try.prog 74 = 1 := by kernel_rfl
@[simp] theorem Tb.sz74 : Program.cellsOf Try.prog 74 = 1 := by kernel_rfl
@[simp] theorem Tb.sl74 : slT Try.prog 74 = none := by kernel_rfl
@[simp] theorem Tb.st74 : isStr Try.prog 74 = false := by kernel_rfl
@[simp] theorem Tb.bo74 : isBool Try.prog 74 = false := by kernel_rfl
@[simp] theorem Tb.in74 : intT Try.prog 74 = none := by kernel_rfl
@[simp] theorem Tb.un74 : (Try.prog.underlying 74).isSome = true := by kernel_rfl
@[simp] theorem Tb.zr74 : zrT Try.prog 74 = [.nilFunc] := by kernel_rfl
@[simp] theorem Tb.za74 : (Try.prog.info? 74).any (·.zero.isSome) = true := by kernel_rfl
@[simp] theorem Tb.zb74 : ((Try.prog.info? 74).bind (·.zero)).isSome = true := by kernel_rfl
@[simp] theorem Tb.el74 : elOK Try.prog 74 := elOK_of (by kernel_rfl)
@[simp] theorem Tb.tk75 : tk Try.prog 75 = 1 := by kernel_rfl
@[simp] theorem Tb.sz75 : Program.cellsOf Try.prog 75 = 1 := by kernel_rfl
@[simp] theorem Tb.sl75 : slT Try.prog 75 = none := by kernel_rfl
@[simp] theorem Tb.st75 : isStr Try.prog 75 = false := by kernel_rfl
@[simp] theorem Tb.bo75 : isBool Try.prog 75 = false := by kernel_rfl
@[simp] theorem Tb.in75 : intT Try.prog 75 = none := by kernel_rfl
@[simp] theorem Tb.un75 : (Try.prog.underlying 75).isSome = true := by kernel_rfl
@[simp] theorem Tb.zr75 : zrT Try.prog 75 = [.nilFunc] := by kernel_rfl
@[simp] theorem Tb.za75 : (Try.prog.info? 75).any (·.zero.isSome) = true := by kernel_rfl
@[simp] theorem Tb.zb75 : ((Try.prog.info? 75).bind (·.zero)).isSome = true := by kernel_rfl
@[simp] theorem Tb.el75 : elOK Try.prog 75 := elOK_of (by kernel_rfl)
@[simp] theorem Tb.tk76 : tk Try.prog 76 = 1 := by kernel_rfl
@[simp] theorem Tb.sz76 : Program.cellsOf Try.prog 76 = 1 := by kernel_rfl
@[simp] theorem Tb.sl76 : slT Try.prog 76 = none := by kernel_rfl
@[simp] theorem Tb.st76 : isStr Try.prog 76 = false := by kernel_rfl
@[simp] theorem Tb.bo76 : isBool Try.prog 76 = false := by kernel_rfl
@[simp] theorem Tb.in76 : intT Try.prog 76 = none := by kernel_rfl
@[simp] theorem Tb.un76 : (Try.prog.underlying 76).isSome = true := by kernel_rfl
@[simp] theorem Tb.zr76 : zrT Try.prog 76 = [.nilFunc] := by kernel_rfl
@[simp] theorem Tb.za76 : (Try.prog.info? 76).any (·.zero.isSome) = true := by kernel_rfl
@[simp] theorem Tb.zb76 : ((Try.prog.info? 76).bind (·.zero)).isSome = true := by kernel_rfl
@[simp] theorem Tb.el76 : elOK Try.prog 76 := elOK_of (by kernel_rfl)
@[simp] theorem Tb.tk77 : tk Try.prog 77 = 1 := by kernel_rfl
@[simp] theorem Tb.sz77 : Program.cellsOf Try.prog 77 = 1 := by kernel_rfl
@[simp] theorem Tb.sl77 : slT Try.prog 77 = none := by kernel_rfl
@[simp] theorem Tb.st77 : isStr Try.prog 77 = false := by kernel_rfl
@[simp] theorem Tb.bo77 : isBool Try.prog 77 = false := by kernel_rfl
@[simp] theorem Tb.in77 : intT Try.prog 77 = none := by kernel_rfl
@[simp] theorem Tb.un77 : (Try.prog.underlying 77).isSome = true := by kernel_rfl
@[simp] theorem Tb.zr77 : zrT Try.prog 77 = [.nilFunc] := by kernel_rfl
@[simp] theorem Tb.za77 : (Try.prog.info? 77).any (·.zero.isSome) = true := by kernel_rfl
@[simp] theorem Tb.zb77 : ((Try.prog.info? 77).bind (·.zero)).isSome = true := by kernel_rfl
@[simp] theorem Tb.el77 : elOK Try.prog 77 := elOK_of (by kernel_rfl)
@[simp] theorem Tb.tk78 : tk Try.prog 78 = 1 := by kernel_rfl
@[simp] theorem Tb.sz78 : Program.cellsOf Try.prog 78 = 1 := by kernel_rfl
@[simp] theorem Tb.sl78 : slT Try.prog 78 = none := by kernel_rfl
@[simp] theorem Tb.st78 : isStr Try.prog 78 = false := by kernel_rfl
@[simp] theorem Tb.bo78 : isBool Try.prog 78 = false := by kernel_rfl
@[simp] theorem Tb.in78 : intT Try.prog 78 = none := by kernel_rfl
@[simp] theorem Tb.un78 : (Try.prog.underlying 78).isSome = true := by kernel_rfl
@[simp] theorem Tb.zr78 : zrT Try.prog 78 = [.nilFunc] := by kernel_rfl
@[simp] theorem Tb.za78 : (Try.prog.info? 78).any (·.zero.isSome) = true := by kernel_rfl
@[simp] theorem Tb.zb78 : ((Try.prog.info? 78).bind (·.zero)).isSome = true := by kernel_rfl
@[simp] theorem Tb.el78 : elOK Try.prog 78 := elOK_of (by kernel_rfl)
@[simp] theorem Tb.tk79 : tk Try.prog 79 = 1 := by kernel_rfl
@[simp] theorem Tb.sz79 : Program.cellsOf Try.prog 79 = 1 := by kernel_rfl
@[simp] theorem Tb.sl79 : slT Try.prog 79 = none := by kernel_rfl
@[simp] theorem Tb.st79 : isStr Try.prog 79 = false := by kernel_rfl
@[simp] theorem Tb.bo79 : isBool Try.prog 79 = false := by kernel_rfl
@[simp] theorem Tb.in79 : intT Try.prog 79 = none := by kernel_rfl
@[simp] theorem Tb.un79 : (Try.prog.underlying 79).isSome = true := by kernel_rfl
@[simp] theorem Tb.zr79 : zrT Try.prog 79 = [.nilFunc] := by kernel_rfl
@[simp] theorem Tb.za79 : (Try.prog.info? 79).any (·.zero.isSome) = true := by kernel_rfl
@[simp] theorem Tb.zb79 : ((Try.prog.info? 79).bind (·.zero)).isSome = true := by kernel_rfl
@[simp] theorem Tb.el79 : elOK Try.prog 79 := elOK_of (by kernel_rfl)
@[simp] theorem Tb.tk80 : tk Try.prog 80 = 1 := by kernel_rfl
@[simp] theorem Tb.sz80 : Program.cellsOf Try.prog 80 = 1 := by kernel_rfl
@[simp] theorem Tb.sl80 : slT Try.prog 80 = none := by kernel_rfl
@[simp] theorem Tb.st80 : isStr Try.prog 80 = false := by kernel_rfl
@[simp] theorem Tb.bo80 : isBool Try.prog 80 = false := by kernel_rfl
@[simp] theorem Tb.in80 : intT Try.prog 80 = none := by kernel_rfl
@[simp] theorem Tb.un80 : (Try.prog.underlying 80).isSome = true := by kernel_rfl
@[simp] theorem Tb.zr80 : zrT Try.prog 80 = [.nilFunc] := by kernel_rfl
@[simp] theorem Tb.za80 : (Try.prog.info? 80).any (·.zero.isSome) = true := by kernel_rfl
@[simp] theorem Tb.zb80 : ((Try.prog.info? 80).bind (·.zero)).isSome = true := by kernel_rfl
@[simp] theorem Tb.el80 : elOK Try.prog 80 := elOK_of (by kernel_rfl)
@[simp] theorem Tb.tk81 : tk Try.prog 81 = 1 := by kernel_rfl
@[simp] theorem Tb.sz81 : Program.cellsOf Try.prog 81 = 1 := by kernel_rfl
@[simp] theorem Tb.sl81 : slT Try.prog 81 = none := by kernel_rfl
@[simp] theorem Tb.mp81 : mpT Try.prog 81 = some (.string, .int .i64 0) := by kernel_rfl
@[simp] theorem Tb.st81 : isStr Try.prog 81 = false := by kernel_rfl
@[simp] theorem Tb.bo81 : isBool Try.prog 81 = false := by kernel_rfl
@[simp] theorem Tb.in81 : intT Try.prog 81 = none := by kernel_rfl
@[simp] theorem Tb.un81 : (Try.prog.underlying 81).isSome = true := by kernel_rfl
@[simp] theorem Tb.zr81 : zrT Try.prog 81 = [.map none] := by kernel_rfl
@[simp] theorem Tb.za81 : (Try.prog.info? 81).any (·.zero.isSome) = true := by kernel_rfl
@[simp] theorem Tb.zb81 : ((Try.prog.info? 81).bind (·.zero)).isSome = true := by kernel_rfl
@[simp] theorem Tb.el81 : elOK Try.prog 81 := elOK_of (by kernel_rfl)
@[simp] theorem Tb.tk83 : tk Try.prog 83 = 1 := by kernel_rfl
@[simp] theorem Tb.sz83 : Program.cellsOf Try.prog 83 = 1 := by kernel_rfl
@[simp] theorem Tb.sl83 : slT Try.prog 83 = none := by kernel_rfl
@[simp] theorem Tb.st83 : isStr Try.prog 83 = false := by kernel_rfl
@[simp] theorem Tb.bo83 : isBool Try.prog 83 = false := by kernel_rfl
@[simp] theorem Tb.in83 : intT Try.prog 83 = none := by kernel_rfl
@[simp] theorem Tb.un83 : (Try.prog.underlying 83).isSome = true := by kernel_rfl
@[simp] theorem Tb.zr83 : zrT Try.prog 83 = [.nilFunc] := by kernel_rfl
@[simp] theorem Tb.za83 : (Try.prog.info? 83).any (·.zero.isSome) = true := by kernel_rfl
@[simp] theorem Tb.zb83 : ((Try.prog.info? 83).bind (·.zero)).isSome = true := by kernel_rfl
@[simp] theorem Tb.el83 : elOK Try.prog 83 := elOK_of (by kernel_rfl)
@[simp] theorem Tb.tk85 : tk Try.prog 85 = 1 := by kernel_rfl
@[simp] theorem Tb.sz85 : Program.cellsOf Try.prog 85 = 1 := by kernel_rfl
@[simp] theorem Tb.sl85 : slT Try.prog 85 = none := by kernel_rfl
@[simp] theorem Tb.st85 : isStr Try.prog 85 = false := by kernel_rfl
@[simp] theorem Tb.bo85 : isBool Try.prog 85 = false := by kernel_rfl
@[simp] theorem Tb.in85 : intT Try.prog 85 = none := by kernel_rfl
@[simp] theorem Tb.un85 : (Try.prog.underlying 85).isSome = true := by kernel_rfl
@[simp] theorem Tb.zr85 : zrT Try.prog 85 = [.nilFunc] := by kernel_rfl
@[simp] theorem Tb.za85 : (Try.prog.info? 85).any (·.zero.isSome) = true := by kernel_rfl
@[simp] theorem Tb.zb85 : ((Try.prog.info? 85).bind (·.zero)).isSome = true := by kernel_rfl
@[simp] theorem Tb.el85 : elOK Try.prog 85 := elOK_of (by kernel_rfl)
@[simp] theorem Tb.tk86 : tk Try.prog 86 = 1 := by kernel_rfl
@[simp] theorem Tb.sz86 : Program.cellsOf Try.prog 86 = 1 := by kernel_rfl
@[simp] theorem Tb.sl86 : slT Try.prog 86 = none := by kernel_rfl
@[simp] theorem Tb.st86 : isStr Try.prog 86 = false := by kernel_rfl
@[simp] theorem Tb.bo86 : isBool Try.prog 86 = false := by kernel_rfl
@[simp] theorem Tb.in86 : intT Try.prog 86 = none := by kernel_rfl
@[simp] theorem Tb.un86 : (Try.prog.underlying 86).isSome = true := by kernel_rfl
@[simp] theorem Tb.zr86 : zrT Try.prog 86 = [.nilFunc] := by kernel_rfl
@[simp] theorem Tb.za86 : (Try.prog.info? 86).any (·.zero.isSome) = true := by kernel_rfl
@[simp] theorem Tb.zb86 : ((Try.prog.info? 86).bind (·.zero)).isSome = true := by kernel_rfl
@[simp] theorem Tb.el86 : elOK Try.prog 86 := elOK_of (by kernel_rfl)
@[simp] theorem Tb.tk87 : tk Try.prog 87 = 1 := by kernel_rfl
@[simp] theorem Tb.sz87 : Program.cellsOf Try.prog 87 = 1 := by kernel_rfl
@[simp] theorem Tb.sl87 : slT Try.prog 87 = none := by kernel_rfl
@[simp] theorem Tb.st87 : isStr Try.prog 87 = false := by kernel_rfl
@[simp] theorem Tb.bo87 : isBool Try.prog 87 = false := by kernel_rfl
@[simp] theorem Tb.in87 : intT Try.prog 87 = none := by kernel_rfl
@[simp] theorem Tb.un87 : (Try.prog.underlying 87).isSome = true := by kernel_rfl
@[simp] theorem Tb.zr87 : zrT Try.prog 87 = [.nilFunc] := by kernel_rfl
@[simp] theorem Tb.za87 : (Try.prog.info? 87).any (·.zero.isSome) = true := by kernel_rfl
@[simp] theorem Tb.zb87 : ((Try.prog.info? 87).bind (·.zero)).isSome = true := by kernel_rfl
@[simp] theorem Tb.el87 : elOK Try.prog 87 := elOK_of (by kernel_rfl)
@[simp] theorem Tb.tk88 : tk Try.prog 88 = 1 := by kernel_rfl
@[simp] theorem Tb.sz88 : Program.cellsOf Try.prog 88 = 1 := by kernel_rfl
@[simp] theorem Tb.sl88 : slT Try.prog 88 = none := by kernel_rfl
@[simp] theorem Tb.st88 : isStr Try.prog 88 = false := by kernel_rfl
@[simp] theorem Tb.bo88 : isBool Try.prog 88 = false := by kernel_rfl
@[simp] theorem Tb.in88 : intT Try.prog 88 = none := by kernel_rfl
@[simp] theorem Tb.un88 : (Try.prog.underlying 88).isSome = true := by kernel_rfl
@[simp] theorem Tb.zr88 : zrT Try.prog 88 = [.nilFunc] := by kernel_rfl
@[simp] theorem Tb.za88 : (Try.prog.info? 88).any (·.zero.isSome) = true := by kernel_rfl
@[simp] theorem Tb.zb88 : ((Try.prog.info? 88).bind (·.zero)).isSome = true := by kernel_rfl
@[simp] theorem Tb.el88 : elOK Try.prog 88 := elOK_of (by kernel_rfl)
@[simp] theorem Tb.tk89 : tk Try.prog 89 = 1 := by kernel_rfl
@[simp] theorem Tb.sz89 : Program.cellsOf Try.prog 89 = 1 := by kernel_rfl
@[simp] theorem Tb.sl89 : slT Try.prog 89 = none := by kernel_rfl
@[simp] theorem Tb.st89 : isStr Try.prog 89 = false := by kernel_rfl
@[simp] theorem Tb.bo89 : isBool Try.prog 89 = false := by kernel_rfl
@[simp] theorem Tb.in89 : intT Try.prog 89 = none := by kernel_rfl
@[simp] theorem Tb.un89 : (Try.prog.underlying 89).isSome = true := by kernel_rfl
@[simp] theorem Tb.zr89 : zrT Try.prog 89 = [.nilFunc] := by kernel_rfl
@[simp] theorem Tb.za89 : (Try.prog.info? 89).any (·.zero.isSome) = true := by kernel_rfl
@[simp] theorem Tb.zb89 : ((Try.prog.info? 89).bind (·.zero)).isSome = true := by kernel_rfl
@[simp] theorem Tb.el89 : elOK Try.prog 89 := elOK_of (by kernel_rfl)
@[simp] theorem Tb.tk90 : tk Try.prog 90 = 1 := by kernel_rfl
@[simp] theorem Tb.sz90 : Program.cellsOf Try.prog 90 = 1 := by kernel_rfl
@[simp] theorem Tb.sl90 : slT Try.prog 90 = none := by kernel_rfl
@[simp] theorem Tb.st90 : isStr Try.prog 90 = false := by kernel_rfl
@[simp] theorem Tb.bo90 : isBool Try.prog 90 = false := by kernel_rfl
@[simp] theorem Tb.in90 : intT Try.prog 90 = none := by kernel_rfl
@[simp] theorem Tb.un90 : (Try.prog.underlying 90).isSome = true := by kernel_rfl
@[simp] theorem Tb.zr90 : zrT Try.prog 90 = [.nilFunc] := by kernel_rfl
@[simp] theorem Tb.za90 : (Try.prog.info? 90).any (·.zero.isSome) = true := by kernel_rfl
@[simp] theorem Tb.zb90 : ((Try.prog.info? 90).bind (·.zero)).isSome = true := by kernel_rfl
@[simp] theorem Tb.el90 : elOK Try.prog 90 := elOK_of (by kernel_rfl)
@[simp] theorem Tb.tk91 : tk Try.prog 91 = 1 := by kernel_rfl
@[simp] theorem Tb.sz91 : Program.cellsOf Try.prog 91 = 1 := by kernel_rfl
@[simp] theorem Tb.sl91 : slT Try.prog 91 = none := by kernel_rfl
@[simp] theorem Tb.st91 : isStr Try.prog 91 = false := by kernel_rfl
@[simp] theorem Tb.bo91 : isBool Try.prog 91 = false := by kernel_rfl
@[simp] theorem Tb.in91 : intT Try.prog 91 = none := by kernel_rfl
@[simp] theorem Tb.un91 : (Try.prog.underlying 91).isSome = true := by kernel_rfl
@[simp] theorem Tb.zr91 : zrT Try.prog 91 = [.nilFunc] := by kernel_rfl
@[simp] theorem Tb.za91 : (Try.prog.info? 91).any (·.zero.isSome) = true := by kernel_rfl
@[simp] theorem Tb.zb91 : ((Try.prog.info? 91).bind (·.zero)).isSome = true := by kernel_rfl
@[simp] theorem Tb.el91 : elOK Try.prog 91 := elOK_of (by kernel_rfl)
@[simp] theorem Tb.tk92 : tk Try.prog 92 = 1 := by kernel_rfl
@[simp] theorem Tb.sz92 : Program.cellsOf Try.prog 92 = 1 := by kernel_rfl
@[simp] theorem Tb.sl92 : slT Try.prog 92 = none := by kernel_rfl
@[simp] theorem Tb.st92 : isStr Try.prog 92 = false := by kernel_rfl
@[simp] theorem Tb.bo92 : isBool Try.prog 92 = false := by kernel_rfl
@[simp] theorem Tb.in92 : intT Try.prog 92 = none := by kernel_rfl
@[simp] theorem Tb.un92 : (Try.prog.underlying 92).isSome = true := by kernel_rfl
@[simp] theorem Tb.zr92 : zrT Try.prog 92 = [.nilFunc] := by kernel_rfl
@[simp] theorem Tb.za92 : (Try.prog.info? 92).any (·.zero.isSome) = true := by kernel_rfl
@[simp] theorem Tb.zb92 : ((Try.prog.info? 92).bind (·.zero)).isSome = true := by kernel_rfl
@[simp] theorem Tb.el92 : elOK Try.prog 92 := elOK_of (by kernel_rfl)
@[simp] theorem Tb.tk93 : tk Try.prog 93 = 1 := by kernel_rfl
@[simp] theorem Tb.sz93 : Program.cellsOf Try.prog 93 = 1 := by kernel_rfl
@[simp] theorem Tb.sl93 : slT Try.prog 93 = none := by kernel_rfl
@[simp] theorem Tb.st93 : isStr Try.prog 93 = false := by kernel_rfl
@[simp] theorem Tb.bo93 : isBool Try.prog 93 = false := by kernel_rfl
@[simp] theorem Tb.in93 : intT Try.prog 93 = none := by kernel_rfl
@[simp] theorem Tb.un93 : (Try.prog.underlying 93).isSome = true := by kernel_rfl
@[simp] theorem Tb.zr93 : zrT Try.prog 93 = [.nilFunc] := by kernel_rfl
@[simp] theorem Tb.za93 : (Try.prog.info? 93).any (·.zero.isSome) = true := by kernel_rfl
@[simp] theorem Tb.zb93 : ((Try.prog.info? 93).bind (·.zero)).isSome = true := by kernel_rfl
@[simp] theorem Tb.el93 : elOK Try.prog 93 := elOK_of (by kernel_rfl)
@[simp] theorem Tb.tk94 : tk Try.prog 94 = 1 := by kernel_rfl
@[simp] theorem Tb.sz94 : Program.cellsOf Try.prog 94 = 1 := by kernel_rfl
@[simp] theorem Tb.sl94 : slT Try.prog 94 = none := by kernel_rfl
@[simp] theorem Tb.st94 : isStr Try.prog 94 = false := by kernel_rfl
@[simp] theorem Tb.bo94 : isBool Try.prog 94 = false := by kernel_rfl
@[simp] theorem Tb.in94 : intT Try.prog 94 = none := by kernel_rfl
@[simp] theorem Tb.un94 : (Try.prog.underlying 94).isSome = true := by kernel_rfl
@[simp] theorem Tb.zr94 : zrT Try.prog 94 = [.nilFunc] := by kernel_rfl
@[simp] theorem Tb.za94 : (Try.prog.info? 94).any (·.zero.isSome) = true := by kernel_rfl
@[simp] theorem Tb.zb94 : ((Try.prog.info? 94).bind (·.zero)).isSome = true := by kernel_rfl
@[simp] theorem Tb.el94 : elOK Try.prog 94 := elOK_of (by kernel_rfl)
@[simp] theorem Tb.tk95 : tk Try.prog 95 = 1 := by kernel_rfl
@[simp] theorem Tb.sz95 : Program.cellsOf Try.prog 95 = 1 := by kernel_rfl
@[simp] theorem Tb.sl95 : slT Try.prog 95 = none := by kernel_rfl
@[simp] theorem Tb.st95 : isStr Try.prog 95 = false := by kernel_rfl
@[simp] theorem Tb.bo95 : isBool Try.prog 95 = false := by kernel_rfl
@[simp] theorem Tb.in95 : intT Try.prog 95 = none := by kernel_rfl
@[simp] theorem Tb.un95 : (Try.prog.underlying 95).isSome = true := by kernel_rfl
@[simp] theorem Tb.zr95 : zrT Try.prog 95 = [.nilFunc] := by kernel_rfl
@[simp] theorem Tb.za95 : (Try.prog.info? 95).any (·.zero.isSome) = true := by kernel_rfl
@[simp] theorem Tb.zb95 : ((Try.prog.info? 95).bind (·.zero)).isSome = true := by kernel_rfl
@[simp] theorem Tb.el95 : elOK Try.prog 95 := elOK_of (by kernel_rfl)
@[simp] theorem Tb.tk96 : tk Try.prog 96 = 1 := by kernel_rfl
@[simp] theorem Tb.sz96 : Program.cellsOf Try.prog 96 = 1 := by kernel_rfl
@[simp] theorem Tb.sl96 : slT Try.prog 96 = none := by kernel_rfl
@[simp] theorem Tb.st96 : isStr Try.prog 96 = false := by kernel_rfl
@[simp] theorem Tb.bo96 : isBool Try.prog 96 = false := by kernel_rfl
@[simp] theorem Tb.in96 : intT Try.prog 96 = none := by kernel_rfl
@[simp] theorem Tb.un96 : (Try.prog.underlying 96).isSome = true := by kernel_rfl
@[simp] theorem Tb.zr96 : zrT Try.prog 96 = [.nilFunc] := by kernel_rfl
@[simp] theorem Tb.za96 : (Try.prog.info? 96).any (·.zero.isSome) = true := by kernel_rfl
@[simp] theorem Tb.zb96 : ((Try.prog.info? 96).bind (·.zero)).isSome = true := by kernel_rfl
@[simp] theorem Tb.el96 : elOK Try.prog 96 := elOK_of (by kernel_rfl)
@[simp] theorem Tb.tk97 : tk Try.prog 97 = 1 := by kernel_rfl
@[simp] theorem Tb.sz97 : Program.cellsOf Try.prog 97 = 1 := by kernel_rfl
@[simp] theorem Tb.sl97 : slT Try.prog 97 = none := by kernel_rfl
@[simp] theorem Tb.st97 : isStr Try.prog 97 = false := by kernel_rfl
@[simp] theorem Tb.bo97 : isBool Try.prog 97 = false := by kernel_rfl
@[simp] theorem Tb.in97 : intT Try.prog 97 = none := by kernel_rfl
@[simp] theorem Tb.un97 : (Try.prog.underlying 97).isSome = true := by kernel_rfl
@[simp] theorem Tb.zr97 : zrT Try.prog 97 = [.nilFunc] := by kernel_rfl
@[simp] theorem Tb.za97 : (Try.prog.info? 97).any (·.zero.isSome) = true := by kernel_rfl
@[simp] theorem Tb.zb97 : ((Try.prog.info? 97).bind (·.zero)).isSome = true := by kernel_rfl
@[simp] theorem Tb.el97 : elOK Try.prog 97 := elOK_of (by kernel_rfl)
@[simp] theorem Tb.tk98 : tk Try.prog 98 = 1 := by kernel_rfl
@[simp] theorem Tb.sz98 : Program.cellsOf Try.prog 98 = 1 := by kernel_rfl
@[simp] theorem Tb.sl98 : slT Try.prog 98 = none := by kernel_rfl
@[simp] theorem Tb.st98 : isStr Try.prog 98 = false := by kernel_rfl
@[simp] theorem Tb.bo98 : isBool Try.prog 98 = false := by kernel_rfl
@[simp] theorem Tb.in98 : intT Try.prog 98 = none := by kernel_rfl
@[simp] theorem Tb.un98 : (Try.prog.underlying 98).isSome = true := by kernel_rfl
@[simp] theorem Tb.zr98 : zrT Try.prog 98 = [.nilFunc] := by kernel_rfl
@[simp] theorem Tb.za98 : (Try.prog.info? 98).any (·.zero.isSome) = true := by kernel_rfl
@[simp] theorem Tb.zb98 : ((Try.prog.info? 98).bind (·.zero)).isSome = true := by kernel_rfl
@[simp] theorem Tb.el98 : elOK Try.prog 98 := elOK_of (by kernel_rfl)
@[simp] theorem Tb.tk99 : tk Try.prog 99 = 1 := by kernel_rfl
@[simp] theorem Tb.sz99 : Program.cellsOf Try.prog 99 = 1 := by kernel_rfl
@[simp] theorem Tb.sl99 : slT Try.prog 99 = some 24 := by kernel_rfl
@[simp] theorem Tb.st99 : isStr Try.prog 99 = false := by kernel_rfl
@[simp] theorem Tb.bo99 : isBool Try.prog 99 = false := by kernel_rfl
@[simp] theorem Tb.in99 : intT Try.prog 99 = none := by kernel_rfl
@[simp] theorem Tb.un99 : (Try.prog.underlying 99).isSome = true := by kernel_rfl
@[simp] theorem Tb.zr99 : zrT Try.prog 99 = [.slice none 0 0] := by kernel_rfl
@[simp] theorem Tb.za99 : (Try.prog.info? 99).any (·.zero.isSome) = true := by kernel_rfl
@[simp] theorem Tb.zb99 : ((Try.prog.info? 99).bind (·.zero)).isSome = true := by kernel_rfl
@[simp] theorem Tb.el99 : elOK Try.prog 99 := elOK_of (by kernel_rfl)
@[simp] theorem Tb.tk100 : tk Try.prog 100 = 1 := by kernel_rfl
@[simp] theorem Tb.sz100 : Program.cellsOf Try.prog 100 = 1 := by kernel_rfl
@[simp] theorem Tb.sl100 : slT Try.prog 100 = none := by kernel_rfl
@[simp] theorem Tb.st100 : isStr Try.prog 100 = false := by kernel_rfl
@[simp] theorem Tb.bo100 : isBool Try.prog 100 = false := by kernel_rfl
@[simp] theorem Tb.in100 : intT Try.prog 100 = none := by kernel_rfl
@[simp] theorem Tb.un100 : (Try.prog.underlying 100).isSome = true := by kernel_rfl
@[simp] theorem Tb.zr100 : zrT Try.prog 100 = [.pointer none] := by kernel_rfl
@[simp] theorem Tb.za100 : (Try.prog.info? 100).any (·.zero.isSome) = true := by kernel_rfl
@[simp] theorem Tb.zb100 : ((Try.prog.info? 100).bind (·.zero)).isSome = true := by kernel_rfl
@[simp] theorem Tb.el100 : elOK Try.prog 100 := elOK_of (by kernel_rfl)
@[simp] theorem Tb.tk101 : tk Try.prog 101 = 1 := by kernel_rfl
@[simp] theorem Tb.sz101 : Program.cellsOf Try.prog 101 = 1 := by kernel_rfl
@[simp] theorem Tb.sl101 : slT Try.prog 101 = none := by kernel_rfl
@[simp] theorem Tb.st101 : isStr Try.prog 101 = false := by kernel_rfl
@[simp] theorem Tb.bo101 : isBool Try.prog 101 = false := by kernel_rfl
@[simp] theorem Tb.in101 : intT Try.prog 101 = none := by kernel_rfl
@[simp] theorem Tb.un101 : (Try.prog.underlying 101).isSome = true := by kernel_rfl
@[simp] theorem Tb.zr101 : zrT Try.prog 101 = [.nilFunc] := by kernel_rfl
@[simp] theorem Tb.za101 : (Try.prog.info? 101).any (·.zero.isSome) = true := by kernel_rfl
@[simp] theorem Tb.zb101 : ((Try.prog.info? 101).bind (·.zero)).isSome = true := by kernel_rfl
@[simp] theorem Tb.el101 : elOK Try.prog 101 := elOK_of (by kernel_rfl)
@[simp] theorem Tb.tk102 : tk Try.prog 102 = 2 := by kernel_rfl
@[simp] theorem Tb.sz102 : Program.cellsOf Try.prog 102 = 3 := by kernel_rfl
@[simp] theorem Tb.sl102 : slT Try.prog 102 = none := by kernel_rfl
@[simp] theorem Tb.ar102 : arT Try.prog 102 = some (3, 101) := by kernel_rfl
@[simp] theorem Tb.st102 : isStr Try.prog 102 = false := by kernel_rfl
@[simp] theorem Tb.bo102 : isBool Try.prog 102 = false := by kernel_rfl
@[simp] theorem Tb.in102 : intT Try.prog 102 = none := by kernel_rfl
@[simp] theorem Tb.un102 : (Try.prog.underlying 102).isSome = true := by kernel_rfl
@[simp] theorem Tb.zr102 : zrT Try.prog 102 = [.nilFunc, .nilFunc, .nilFunc] := by kernel_rfl
@[simp] theorem Tb.za102 : (Try.prog.info? 102).any (·.zero.isSome) = true := by kernel_rfl
@[simp] theorem Tb.zb102 : ((Try.prog.info? 102).bind (·.zero)).isSome = true := by kernel_rfl
@[simp] theorem Tb.el102 : elOK Try.prog 102 := elOK_of (by kernel_rfl)
@[simp] theorem Tb.bl102 : bldT Try.prog 102 = some ([.nilFunc, .nilFunc, .nilFunc], [(0, 1), (1, 1), (2, 1)]) := by kernel_rfl
@[simp] theorem Tb.tk103 : tk Try.prog 103 = 2 := by kernel_rfl
@[simp] theorem Tb.sz103 : Program.cellsOf Try.prog 103 = 9 := by kernel_rfl
@[simp] theorem Tb.ff103_0 : foff Try.prog 103 0 = some (0, 26) := by kernel_rfl
@[simp] theorem Tb.ff103_1 : foff Try.prog 103 1 = some (5, 81) := by kernel_rfl
@[simp] theorem Tb.ff103_2 : foff Try.prog 103 2 = some (6, 102) := by kernel_rfl
@[simp] theorem Tb.sl103 : slT Try.prog 103 = none := by kernel_rfl
@[simp] theorem Tb.st103 : isStr Try.prog 103 = false := by kernel_rfl
@[simp] theorem Tb.bo103 : isBool Try.prog 103 = false := by kernel_rfl
@[simp] theorem Tb.in103 : intT Try.prog 103 = none := by kernel_rfl
@[simp] theorem Tb.un103 : (Try.prog.underlying 103).isSome = true := by kernel_rfl
@[simp] theorem Tb.zr103 : zrT Try.prog 103 = [.int .i64 0, .slice none 0 0, .slice none 0 0, .slice none 0 0, .slice none 0 0, .map none, .nilFunc, .nilFunc, .nilFunc] := by kernel_rfl
@[simp] theorem Tb.za103 : (Try.prog.info? 103).any (·.zero.isSome) = true := by kernel_rfl
@[simp] theorem Tb.zb103 : ((Try.prog.info? 103).bind (·.zero)).isSome = true := by kernel_rfl
@[simp] theorem Tb.el103 : elOK Try.prog 103 := elOK_of (by kernel_rfl)
@[simp] theorem Tb.bl103 : bldT Try.prog 103 = some ([.int .i64 0, .slice none 0 0, .slice none 0 0, .slice none 0 0, .slice none 0 0, .map none, .nilFunc, .nilFunc, .nilFunc], [(0, 5), (5, 1), (6, 3)]) := by kernel_rfl
@[simp] theorem Tb.tk104 : tk Try.prog 104 = 2 := by kernel_rfl
@[simp] theorem Tb.sz104 : Program.cellsOf Try.prog 104 = 9 := by kernel_rfl
@[simp] theorem Tb.ff104_0 : foff Try.prog 104 0 = some (0, 26) := by kernel_rfl
@[simp] theorem Tb.ff104_1 : foff Try.prog 104 1 = some (5, 81) := by kernel_rfl
@[simp] theorem Tb.ff104_2 : foff Try.prog 104 2 = some (6, 102) := by kernel_rfl
@[simp] theorem Tb.sl104 : slT Try.prog 104 = none := by kernel_rfl
@[simp] theorem Tb.st104 : isStr Try.prog 104 = false := by kernel_rfl
@[simp] theorem Tb.bo104 : isBool Try.prog 104 = false := by kernel_rfl
@[simp] theorem Tb.in104 : intT Try.prog 104 = none := by kernel_rfl
@[simp] theorem Tb.un104 : (Try.prog.underlying 104).isSome = true := by kernel_rfl
@[simp] theorem Tb.zr104 : zrT Try.prog 104 = [.int .i64 0, .slice none 0 0, .slice none 0 0, .slice none 0 0, .slice none 0 0, .map none, .nilFunc, .nilFunc, .nilFunc] := by kernel_rfl
@[simp] theorem Tb.za104 : (Try.prog.info? 104).any (·.zero.isSome) = true := by kernel_rfl
@[simp] theorem Tb.zb104 : ((Try.prog.info? 104).bind (·.zero)).isSome = true := by kernel_rfl
@[simp] theorem Tb.el104 : elOK Try.prog 104 := elOK_of (by kernel_rfl)
@[simp] theorem Tb.bl104 : bldT Try.prog 104 = some ([.int .i64 0, .slice none 0 0, .slice none 0 0, .slice none 0 0, .slice none 0 0, .map none, .nilFunc, .nilFunc, .nilFunc], [(0, 5), (5, 1), (6, 3)]) := by kernel_rfl
@[simp] theorem Tb.tk105 : tk Try.prog 105 = 1 := by kernel_rfl
@[simp] theorem Tb.sz105 : Program.cellsOf Try.prog 105 = 1 := by kernel_rfl
@[simp] theorem Tb.sl105 : slT Try.prog 105 = none := by kernel_rfl
@[simp] theorem Tb.st105 : isStr Try.prog 105 = false := by kernel_rfl
@[simp] theorem Tb.bo105 : isBool Try.prog 105 = false := by kernel_rfl
@[simp] theorem Tb.in105 : intT Try.prog 105 = none := by kernel_rfl
@[simp] theorem Tb.un105 : (Try.prog.underlying 105).isSome = true := by kernel_rfl
@[simp] theorem Tb.zr105 : zrT Try.prog 105 = [.nilFunc] := by kernel_rfl
@[simp] theorem Tb.za105 : (Try.prog.info? 105).any (·.zero.isSome) = true := by kernel_rfl
@[simp] theorem Tb.zb105 : ((Try.prog.info? 105).bind (·.zero)).isSome = true := by kernel_rfl
@[simp] theorem Tb.el105 : elOK Try.prog 105 := elOK_of (by kernel_rfl)
@[simp] theorem Tb.tk106 : tk Try.prog 106 = 1 := by kernel_rfl
@[simp] theorem Tb.sz106 : Program.cellsOf Try.prog 106 = 1 := by kernel_rfl
@[simp] theorem Tb.sl106 : slT Try.prog 106 = none := by kernel_rfl
@[simp] theorem Tb.st106 : isStr Try.prog 106 = false := by kernel_rfl
@[simp] theorem Tb.bo106 : isBool Try.prog 106 = false := by kernel_rfl
@[simp] theorem Tb.in106 : intT Try.prog 106 = none := by kernel_rfl
@[simp] theorem Tb.un106 : (Try.prog.underlying 106).isSome = true := by kernel_rfl
@[simp] theorem Tb.zr106 : zrT Try.prog 106 = [.nilFunc] := by kernel_rfl
@[simp] theorem Tb.za106 : (Try.prog.info? 106).any (·.zero.isSome) = true := by kernel_rfl
@[simp] theorem Tb.zb106 : ((Try.prog.info? 106).bind (·.zero)).isSome = true := by kernel_rfl
@[simp] theorem Tb.el106 : elOK Try.prog 106 := elOK_of (by kernel_rfl)
@[simp] theorem Tb.tk107 : tk Try.prog 107 = 1 := by kernel_rfl
@[simp] theorem Tb.sz107 : Program.cellsOf Try.prog 107 = 1 := by kernel_rfl
@[simp] theorem Tb.sl107 : slT Try.prog 107 = none := by kernel_rfl
@[simp] theorem Tb.st107 : isStr Try.prog 107 = false := by kernel_rfl
@[simp] theorem Tb.bo107 : isBool Try.prog 107 = false := by kernel_rfl
@[simp] theorem Tb.in107 : intT Try.prog 107 = none := by kernel_rfl
@[simp] theorem Tb.un107 : (Try.prog.underlying 107).isSome = true := by kernel_rfl
@[simp] theorem Tb.zr107 : zrT Try.prog 107 = [.nilFunc] := by kernel_rfl
@[simp] theorem Tb.za107 : (Try.prog.info? 107).any (·.zero.isSome) = true := by kernel_rfl
@[simp] theorem Tb.zb107 : ((Try.prog.info? 107).bind (·.zero)).isSome = true := by kernel_rfl
@[simp] theorem Tb.el107 : elOK Try.prog 107 := elOK_of (by kernel_rfl)
@[simp] theorem Tb.tk108 : tk Try.prog 108 = 1 := by kernel_rfl
@[simp] theorem Tb.sz108 : Program.cellsOf Try.prog 108 = 1 := by kernel_rfl
@[simp] theorem Tb.sl108 : slT Try.prog 108 = none := by kernel_rfl
@[simp] theorem Tb.st108 : isStr Try.prog 108 = false := by kernel_rfl
@[simp] theorem Tb.bo108 : isBool Try.prog 108 = false := by kernel_rfl
@[simp] theorem Tb.in108 : intT Try.prog 108 = none := by kernel_rfl
@[simp] theorem Tb.un108 : (Try.prog.underlying 108).isSome = true := by kernel_rfl
@[simp] theorem Tb.zr108 : zrT Try.prog 108 = [.nilFunc] := by kernel_rfl
@[simp] theorem Tb.za108 : (Try.prog.info? 108).any (·.zero.isSome) = true := by kernel_rfl
@[simp] theorem Tb.zb108 : ((Try.prog.info? 108).bind (·.zero)).isSome = true := by kernel_rfl
@[simp] theorem Tb.el108 : elOK Try.prog 108 := elOK_of (by kernel_rfl)
@[simp] theorem Tb.tk110 : tk Try.prog 110 = 1 := by kernel_rfl
@[simp] theorem Tb.sz110 : Program.cellsOf Try.prog 110 = 1 := by kernel_rfl
@[simp] theorem Tb.sl110 : slT Try.prog 110 = none := by kernel_rfl
@[simp] theorem Tb.st110 : isStr Try.prog 110 = false := by kernel_rfl
@[simp] theorem Tb.bo110 : isBool Try.prog 110 = false := by kernel_rfl
@[simp] theorem Tb.in110 : intT Try.prog 110 = none := by kernel_rfl
@[simp] theorem Tb.un110 : (Try.prog.underlying 110).isSome = true := by kernel_rfl
@[simp] theorem Tb.zr110 : zrT Try.prog 110 = [.nilFunc] := by kernel_rfl
@[simp] theorem Tb.za110 : (Try.prog.info? 110).any (·.zero.isSome) = true := by kernel_rfl
@[simp] theorem Tb.zb110 : ((Try.prog.info? 110).bind (·.zero)).isSome = true := by kernel_rfl
@[simp] theorem Tb.el110 : elOK Try.prog 110 := elOK_of (by kernel_rfl)
@[simp] theorem Tb.tk111 : tk Try.prog 111 = 1 := by kernel_rfl
@[simp] theorem Tb.sz111 : Program.cellsOf Try.prog 111 = 1 := by kernel_rfl
@[simp] theorem Tb.sl111 : slT Try.prog 111 = none := by kernel_rfl
@[simp] theorem Tb.st111 : isStr Try.prog 111 = false := by kernel_rfl
@[simp] theorem Tb.bo111 : isBool Try.prog 111 = false := by kernel_rfl
@[simp] theorem Tb.in111 : intT Try.prog 111 = none := by kernel_rfl
@[simp] theorem Tb.un111 : (Try.prog.underlying 111).isSome = true := by kernel_rfl
@[simp] theorem Tb.zr111 : zrT Try.prog 111 = [.nilFunc] := by kernel_rfl
@[simp] theorem Tb.za111 : (Try.prog.info? 111).any (·.zero.isSome) = true := by kernel_rfl
@[simp] theorem Tb.zb111 : ((Try.prog.info? 111).bind (·.zero)).isSome = true := by kernel_rfl
@[simp] theorem Tb.el111 : elOK Try.prog 111 := elOK_of (by kernel_rfl)
@[simp] theorem Tb.tk112 : tk Try.prog 112 = 1 := by kernel_rfl
@[simp] theorem Tb.sz112 : Program.cellsOf Try.prog 112 = 1 := by kernel_rfl
@[simp] theorem Tb.sl112 : slT Try.prog 112 = none := by kernel_rfl
@[simp] theorem Tb.st112 : isStr Try.prog 112 = false := by kernel_rfl
@[simp] theorem Tb.bo112 : isBool Try.prog 112 = false := by kernel_rfl
@[simp] theorem Tb.in112 : intT Try.prog 112 = none := by kernel_rfl
@[simp] theorem Tb.un112 : (Try.prog.underlying 112).isSome = true := by kernel_rfl
@[simp] theorem Tb.zr112 : zrT Try.prog 112 = [.nilFunc] := by kernel_rfl
@[simp] theorem Tb.za112 : (Try.prog.info? 112).any (·.zero.isSome) = true := by kernel_rfl
@[simp] theorem Tb.zb112 : ((Try.prog.info? 112).bind (·.zero)).isSome = true := by kernel_rfl
@[simp] theorem Tb.el112 : elOK Try.prog 112 := elOK_of (by kernel_rfl)
@[simp] theorem Tb.tk113 : tk Try.prog 113 = 1 := by kernel_rfl
@[simp] theorem Tb.sz113 : Program.cellsOf Try.prog 113 = 1 := by kernel_rfl
@[simp] theorem Tb.sl113 : slT Try.prog 113 = none := by kernel_rfl
@[simp] theorem Tb.st113 : isStr Try.prog 113 = false := by kernel_rfl
@[simp] theorem Tb.bo113 : isBool Try.prog 113 = false := by kernel_rfl
@[simp] theorem Tb.in113 : intT Try.prog 113 = none := by kernel_rfl
@[simp] theorem Tb.un113 : (Try.prog.underlying 113).isSome = true := by kernel_rfl
@[simp] theorem Tb.zr113 : zrT Try.prog 113 = [.nilFunc] := by kernel_rfl
@[simp] theorem Tb.za113 : (Try.prog.info? 113).any (·.zero.isSome) = true := by kernel_rfl
@[simp] theorem Tb.zb113 : ((Try.prog.info? 113).bind (·.zero)).isSome = true := by kernel_rfl
@[simp] theorem Tb.el113 : elOK Try.prog 113 := elOK_of (by kernel_rfl)
@[simp] theorem Tb.tk114 : tk Try.prog 114 = 1 := by kernel_rfl
@[simp] theorem Tb.sz114 : Program.cellsOf Try.prog 114 = 1 := by kernel_rfl
@[simp] theorem Tb.sl114 : slT Try.prog 114 = none := by kernel_rfl
@[simp] theorem Tb.st114 : isStr Try.prog 114 = false := by kernel_rfl
@[simp] theorem Tb.bo114 : isBool Try.prog 114 = false := by kernel_rfl
@[simp] theorem Tb.in114 : intT Try.prog 114 = none := by kernel_rfl
@[simp] theorem Tb.un114 : (Try.prog.underlying 114).isSome = true := by kernel_rfl
@[simp] theorem Tb.zr114 : zrT Try.prog 114 = [.nilFunc] := by kernel_rfl
@[simp] theorem Tb.za114 : (Try.prog.info? 114).any (·.zero.isSome) = true := by kernel_rfl
@[simp] theorem Tb.zb114 : ((Try.prog.info? 114).bind (·.zero)).isSome = true := by kernel_rfl
@[simp] theorem Tb.el114 : elOK Try.prog 114 := elOK_of (by kernel_rfl)
@[simp] theorem Tb.tk115 : tk Try.prog 115 = 2 := by kernel_rfl
@[simp] theorem Tb.sz115 : Program.cellsOf Try.prog 115 = 3 := by kernel_rfl
@[simp] theorem Tb.ff115_0 : foff Try.prog 115 0 = some (0, 3) := by kernel_rfl
@[simp] theorem Tb.ff115_1 : foff Try.prog 115 1 = some (1, 3) := by kernel_rfl
@[simp] theorem Tb.ff115_2 : foff Try.prog 115 2 = some (2, 114) := by kernel_rfl
@[simp] theorem Tb.sl115 : slT Try.prog 115 = none := by kernel_rfl
@[simp] theorem Tb.st115 : isStr Try.prog 115 = false := by kernel_rfl
@[simp] theorem Tb.bo115 : isBool Try.prog 115 = false := by kernel_rfl
@[simp] theorem Tb.in115 : intT Try.prog 115 = none := by kernel_rfl
@[simp] theorem Tb.un115 : (Try.prog.underlying 115).isSome = true := by kernel_rfl
@[simp] theorem Tb.zr115 : zrT Try.prog 115 = [.int .i64 0, .int .i64 0, .nilFunc] := by kernel_rfl
@[simp] theorem Tb.za115 : (Try.prog.info? 115).any (·.zero.isSome) = true := by kernel_rfl
@[simp] theorem Tb.zb115 : ((Try.prog.info? 115).bind (·.zero)).isSome = true := by kernel_rfl
@[simp] theorem Tb.el115 : elOK Try.prog 115 := elOK_of (by kernel_rfl)
@[simp] theorem Tb.bl115 : bldT Try.prog 115 = some ([.int .i64 0, .int .i64 0, .nilFunc], [(0, 1), (1, 1), (2, 1)]) := by kernel_rfl
@[simp] theorem Tb.tk116 : tk Try.prog 116 = 2 := by kernel_rfl
@[simp] theorem Tb.sz116 : Program.cellsOf Try.prog 116 = 3 := by kernel_rfl
@[simp] theorem Tb.ff116_0 : foff Try.prog 116 0 = some (0, 3) := by kernel_rfl
@[simp] theorem Tb.ff116_1 : foff Try.prog 116 1 = some (1, 3) := by kernel_rfl
@[simp] theorem Tb.ff116_2 : foff Try.prog 116 2 = some (2, 114) := by kernel_rfl
@[simp] theorem Tb.sl116 : slT Try.prog 116 = none := by kernel_rfl
@[simp] theorem Tb.st116 : isStr Try.prog 116 = false := by kernel_rfl
@[simp] theorem Tb.bo116 : isBool Try.prog 116 = false := by kernel_rfl
@[simp] theorem Tb.in116 : intT Try.prog 116 = none := by kernel_rfl
@[simp] theorem Tb.un116 : (Try.prog.underlying 116).isSome = true := by kernel_rfl
@[simp] theorem Tb.zr116 : zrT Try.prog 116 = [.int .i64 0, .int .i64 0, .nilFunc] := by kernel_rfl
@[simp] theorem Tb.za116 : (Try.prog.info? 116).any (·.zero.isSome) = true := by kernel_rfl
@[simp] theorem Tb.zb116 : ((Try.prog.info? 116).bind (·.zero)).isSome = true := by kernel_rfl
@[simp] theorem Tb.el116 : elOK Try.prog 116 := elOK_of (by kernel_rfl)
@[simp] theorem Tb.bl116 : bldT Try.prog 116 = some ([.int .i64 0, .int .i64 0, .nilFunc], [(0, 1), (1, 1), (2, 1)]) := by kernel_rfl
@[simp] theorem Tb.tk117 : tk Try.prog 117 = 2 := by kernel_rfl
@[simp] theorem Tb.sz117 : Program.cellsOf Try.prog 117 = 15 := by kernel_rfl
@[simp] theorem Tb.sl117 : slT Try.prog 117 = none := by kernel_rfl
@[simp] theorem Tb.ar117 : arT Try.prog 117 = some (5, 116) := by kernel_rfl
@[simp] theorem Tb.st117 : isStr Try.prog 117 = false := by kernel_rfl
@[simp] theorem Tb.bo117 : isBool Try.prog 117 = false := by kernel_rfl
@[simp] theorem Tb.in117 : intT Try.prog 117 = none := by kernel_rfl
@[simp] theorem Tb.un117 : (Try.prog.underlying 117).isSome = true := by kernel_rfl
@[simp] theorem Tb.zr117 : zrT Try.prog 117 = [.int .i64 0, .int .i64 0, .nilFunc, .int .i64 0, .int .i64 0, .nilFunc, .int .i64 0, .int .i64 0, .nilFunc, .int .i64 0, .int .i64 0, .nilFunc, .int .i64 0, .int .i64 0, .nilFunc] := by kernel_rfl
@[simp] theorem Tb.za117 : (Try.prog.info? 117).any (·.zero.isSome) = true := by kernel_rfl
@[simp] theorem Tb.zb117 : ((Try.prog.info? 117).bind (·.zero)).isSome = true := by kernel_rfl
@[simp] theorem Tb.el117 : elOK Try.prog 117 := elOK_of (by kernel_rfl)
@[simp] theorem Tb.bl117 : bldT Try.prog 117 = some ([.int .i64 0, .int .i64 0, .nilFunc, .int .i64 0, .int .i64 0, .nilFunc, .int .i64 0, .int .i64 0, .nilFunc, .int .i64 0, .int .i64 0, .nilFunc, .int .i64 0, .int .i64 0, .nilFunc], [(0, 3), (3, 3), (6, 3), (9, 3), (12, 3)]) := by kernel_rfl
@[simp] theorem Tb.tk118 : tk Try.prog 118 = 1 := by kernel_rfl
@[simp] theorem Tb.sz118 : Program.cellsOf Try.prog 118 = 1 := by kernel_rfl
@[simp] theorem Tb.sl118 : slT Try.prog 118 = none := by kernel_rfl
@[simp] theorem Tb.st118 : isStr Try.prog 118 = false := by kernel_rfl
@[simp] theorem Tb.bo118 : isBool Try.prog 118 = false := by kernel_rfl
@[simp] theorem Tb.in118 : intT Try.prog 118 = none := by kernel_rfl
@[simp] theorem Tb.un118 : (Try.prog.underlying 118).isSome = true := by kernel_rfl
@[simp] theorem Tb.zr118 : zrT Try.prog 118 = [.nilFunc] := by kernel_rfl
@[simp] theorem Tb.za118 : (Try.prog.info? 118).any (·.zero.isSome) = true := by kernel_rfl
@[simp] theorem Tb.zb118 : ((Try.prog.info? 118).bind (·.zero)).isSome = true := by kernel_rfl
@[simp] theorem Tb.el118 : elOK Try.prog 118 := elOK_of (by kernel_rfl)
@[simp] theorem Tb.tk119 : tk Try.prog 119 = 1 := by kernel_rfl
@[simp] theorem Tb.sz119 : Program.cellsOf Try.prog 119 = 1 := by kernel_rfl
@[simp] theorem Tb.sl119 : slT Try.prog 119 = none := by kernel_rfl
@[simp] theorem Tb.st119 : isStr Try.prog 119 = false := by kernel_rfl
@[simp] theorem Tb.bo119 : isBool Try.prog 119 = false := by kernel_rfl
@[simp] theorem Tb.in119 : intT Try.prog 119 = none := by kernel_rfl
@[simp] theorem Tb.un119 : (Try.prog.underlying 119).isSome = true := by kernel_rfl
@[simp] theorem Tb.zr119 : zrT Try.prog 119 = [.nilFunc] := by kernel_rfl
@[simp] theorem Tb.za119 : (Try.prog.info? 119).any (·.zero.isSome) = true := by kernel_rfl
@[simp] theorem Tb.zb119 : ((Try.prog.info? 119).bind (·.zero)).isSome = true := by kernel_rfl
@[simp] theorem Tb.el119 : elOK Try.prog 119 := elOK_of (by kernel_rfl)
@[simp] theorem Tb.tk120 : tk Try.prog 120 = 1 := by kernel_rfl
@[simp] theorem Tb.sz120 : Program.cellsOf Try.prog 120 = 1 := by kernel_rfl
@[simp] theorem Tb.sl120 : slT Try.prog 120 = none := by kernel_rfl
@[simp] theorem Tb.st120 : isStr Try.prog 120 = false := by kernel_rfl
@[simp] theorem Tb.bo120 : isBool Try.prog 120 = false := by kernel_rfl
@[simp] theorem Tb.in120 : intT Try.prog 120 = none := by kernel_rfl
@[simp] theorem Tb.un120 : (Try.prog.underlying 120).isSome = true := by kernel_rfl
@[simp] theorem Tb.zr120 : zrT Try.prog 120 = [.nilFunc] := by kernel_rfl
@[simp] theorem Tb.za120 : (Try.prog.info? 120).any (·.zero.isSome) = true := by kernel_rfl
@[simp] theorem Tb.zb120 : ((Try.prog.info? 120).bind (·.zero)).isSome = true := by kernel_rfl
@[simp] theorem Tb.el120 : elOK Try.prog 120 := elOK_of (by kernel_rfl)
@[simp] theorem Tb.tk121 : tk Try.prog 121 = 1 := by kernel_rfl
@[simp] theorem Tb.sz121 : Program.cellsOf Try.prog 121 = 1 := by kernel_rfl
@[simp] theorem Tb.sl121 : slT Try.prog 121 = none := by kernel_rfl
@[simp] theorem Tb.st121 : isStr Try.prog 121 = false := by kernel_rfl
@[simp] theorem Tb.bo121 : isBool Try.prog 121 = false := by kernel_rfl
@[simp] theorem Tb.in121 : intT Try.prog 121 = none := by kernel_rfl
@[simp] theorem Tb.un121 : (Try.prog.underlying 121).isSome = true := by kernel_rfl
@[simp] theorem Tb.zr121 : zrT Try.prog 121 = [.nilFunc] := by kernel_rfl
@[simp] theorem Tb.za121 : (Try.prog.info? 121).any (·.zero.isSome) = true := by kernel_rfl
@[simp] theorem Tb.zb121 : ((Try.prog.info? 121).bind (·.zero)).isSome = true := by kernel_rfl
@[simp] theorem Tb.el121 : elOK Try.prog 121 := elOK_of (by kernel_rfl)
@[simp] theorem Tb.tk122 : tk Try.prog 122 = 1 := by kernel_rfl
@[simp] theorem Tb.sz122 : Program.cellsOf Try.prog 122 = 1 := by kernel_rfl
@[simp] theorem Tb.sl122 : slT Try.prog 122 = none := by kernel_rfl
@[simp] theorem Tb.st122 : isStr Try.prog 122 = false := by kernel_rfl
@[simp] theorem Tb.bo122 : isBool Try.prog 122 = false := by kernel_rfl
@[simp] theorem Tb.in122 : intT Try.prog 122 = none := by kernel_rfl
@[simp] theorem Tb.un122 : (Try.prog.underlying 122).isSome = true := by kernel_rfl
@[simp] theorem Tb.zr122 : zrT Try.prog 122 = [.nilFunc] := by kernel_rfl
@[simp] theorem Tb.za122 : (Try.prog.info? 122).any (·.zero.isSome) = true := by kernel_rfl
@[simp] theorem Tb.zb122 : ((Try.prog.info? 122).bind (·.zero)).isSome = true := by kernel_rfl
@[simp] theorem Tb.el122 : elOK Try.prog 122 := elOK_of (by kernel_rfl)
@[simp] theorem Tb.tk123 : tk Try.prog 123 = 1 := by kernel_rfl
@[simp] theorem Tb.sz123 : Program.cellsOf Try.prog 123 = 1 := by kernel_rfl
@[simp] theorem Tb.sl123 : slT Try.prog 123 = none := by kernel_rfl
@[simp] theorem Tb.st123 : isStr Try.prog 123 = false := by kernel_rfl
@[simp] theorem Tb.bo123 : isBool Try.prog 123 = false := by kernel_rfl
@[simp] theorem Tb.in123 : intT Try.prog 123 = none := by kernel_rfl
@[simp] theorem Tb.un123 : (Try.prog.underlying 123).isSome = true := by kernel_rfl
@[simp] theorem Tb.zr123 : zrT Try.prog 123 = [.nilFunc] := by kernel_rfl
@[simp] theorem Tb.za123 : (Try.prog.info? 123).any (·.zero.isSome) = true := by kernel_rfl
@[simp] theorem Tb.zb123 : ((Try.prog.info? 123).bind (·.zero)).isSome = true := by kernel_rfl
@[simp] theorem Tb.el123 : elOK Try.prog 123 := elOK_of (by kernel_rfl)
@[simp] theorem Tb.tk124 : tk Try.prog 124 = 1 := by kernel_rfl
@[simp] theorem Tb.sz124 : Program.cellsOf Try.prog 124 = 1 := by kernel_rfl
@[simp] theorem Tb.sl124 : slT Try.prog 124 = none := by kernel_rfl
@[simp] theorem Tb.st124 : isStr Try.prog 124 = false := by kernel_rfl
@[simp] theorem Tb.bo124 : isBool Try.prog 124 = false := by kernel_rfl
@[simp] theorem Tb.in124 : intT Try.prog 124 = none := by kernel_rfl
@[simp] theorem Tb.un124 : (Try.prog.underlying 124).isSome = true := by kernel_rfl
@[simp] theorem Tb.zr124 : zrT Try.prog 124 = [.nilFunc] := by kernel_rfl
@[simp] theorem Tb.za124 : (Try.prog.info? 124).any (·.zero.isSome) = true := by kernel_rfl
@[simp] theorem Tb.zb124 : ((Try.prog.info? 124).bind (·.zero)).isSome = true := by kernel_rfl
@[simp] theorem Tb.el124 : elOK Try.prog 124 := elOK_of (by kernel_rfl)
@[simp] theorem Tb.tk125 : tk Try.prog 125 = 1 := by kernel_rfl
@[simp] theorem Tb.sz125 : Program.cellsOf Try.prog 125 = 1 := by kernel_rfl
@[simp] theorem Tb.sl125 : slT Try.prog 125 = none := by kernel_rfl
@[simp] theorem Tb.st125 : isStr Try.prog 125 = false := by kernel_rfl
@[simp] theorem Tb.bo125 : isBool Try.prog 125 = false := by kernel_rfl
@[simp] theorem Tb.in125 : intT Try.prog 125 = none := by kernel_rfl
@[simp] theorem Tb.un125 : (Try.prog.underlying 125).isSome = true := by kernel_rfl
@[simp] theorem Tb.zr125 : zrT Try.prog 125 = [.nilFunc] := by kernel_rfl
@[simp] theorem Tb.za125 : (Try.prog.info? 125).any (·.zero.isSome) = true := by kernel_rfl
@[simp] theorem Tb.zb125 : ((Try.prog.info? 125).bind (·.zero)).isSome = true := by kernel_rfl
@[simp] theorem Tb.el125 : elOK Try.prog 125 := elOK_of (by kernel_rfl)
@[simp] theorem Tb.tk126 : tk Try.prog 126 = 1 := by kernel_rfl
@[simp] theorem Tb.sz126 : Program.cellsOf Try.prog 126 = 1 := by kernel_rfl
@[simp] theorem Tb.sl126 : slT Try.prog 126 = none := by kernel_rfl
@[simp] theorem Tb.st126 : isStr Try.prog 126 = false := by kernel_rfl
@[simp] theorem Tb.bo126 : isBool Try.prog 126 = false := by kernel_rfl
@[simp] theorem Tb.in126 : intT Try.prog 126 = none := by kernel_rfl
@[simp] theorem Tb.un126 : (Try.prog.underlying 126).isSome = true := by kernel_rfl
@[simp] theorem Tb.zr126 : zrT Try.prog 126 = [.nilFunc] := by kernel_rfl
@[simp] theorem Tb.za126 : (Try.prog.info? 126).any (·.zero.isSome) = true := by kernel_rfl
@[simp] theorem Tb.zb126 : ((Try.prog.info? 126).bind (·.zero)).isSome = true := by kernel_rfl
@[simp] theorem Tb.el126 : elOK Try.prog 126 := elOK_of (by kernel_rfl)
@[simp] theorem Tb.tk127 : tk Try.prog 127 = 1 := by kernel_rfl
@[simp] theorem Tb.sz127 : Program.cellsOf Try.prog 127 = 1 := by kernel_rfl
@[simp] theorem Tb.sl127 : slT Try.prog 127 = none := by kernel_rfl
@[simp] theorem Tb.st127 : isStr Try.prog 127 = false := by kernel_rfl
@[simp] theorem Tb.bo127 : isBool Try.prog 127 = false := by kernel_rfl
@[simp] theorem Tb.in127 : intT Try.prog 127 = none := by kernel_rfl
@[simp] theorem Tb.un127 : (Try.prog.underlying 127).isSome = true := by kernel_rfl
@[simp] theorem Tb.zr127 : zrT Try.prog 127 = [.nilFunc] := by kernel_rfl
@[simp] theorem Tb.za127 : (Try.prog.info? 127).any (·.zero.isSome) = true := by kernel_rfl
@[simp] theorem Tb.zb127 : ((Try.prog.info? 127).bind (·.zero)).isSome = true := by kernel_rfl
@[simp] theorem Tb.el127 : elOK Try.prog 127 := elOK_of (by kernel_rfl)
@[simp] theorem Tb.tk128 : tk Try.prog 128 = 1 := by kernel_rfl
@[simp] theorem Tb.sz128 : Program.cellsOf Try.prog 128 = 1 := by kernel_rfl
@[simp] theorem Tb.sl128 : slT Try.prog 128 = none := by kernel_rfl
@[simp] theorem Tb.st128 : isStr Try.prog 128 = false := by kernel_rfl
@[simp] theorem Tb.bo128 : isBool Try.prog 128 = false := by kernel_rfl
@[simp] theorem Tb.in128 : intT Try.prog 128 = none := by kernel_rfl
@[simp] theorem Tb.un128 : (Try.prog.underlying 128).isSome = true := by kernel_rfl
@[simp] theorem Tb.zr128 : zrT Try.prog 128 = [.nilFunc] := by kernel_rfl
@[simp] theorem Tb.za128 : (Try.prog.info? 128).any (·.zero.isSome) = true := by kernel_rfl
@[simp] theorem Tb.zb128 : ((Try.prog.info? 128).bind (·.zero)).isSome = true := by kernel_rfl
@[simp] theorem Tb.el128 : elOK Try.prog 128 := elOK_of (by kernel_rfl)
@[simp] theorem Tb.tk129 : tk Try.prog 129 = 1 := by kernel_rfl
@[simp] theorem Tb.sz129 : Program.cellsOf Try.prog 129 = 1 := by kernel_rfl
@[simp] theorem Tb.sl129 : slT Try.prog 129 = none := by kernel_rfl
@[simp] theorem Tb.st129 : isStr Try.prog 129 = false := by kernel_rfl
@[simp] theorem Tb.bo129 : isBool Try.prog 129 = false := by kernel_rfl
@[simp] theorem Tb.in129 : intT Try.prog 129 = none := by kernel_rfl
@[simp] theorem Tb.un129 : (Try.prog.underlying 129).isSome = true := by kernel_rfl
@[simp] theorem Tb.zr129 : zrT Try.prog 129 = [.nilFunc] := by kernel_rfl
@[simp] theorem Tb.za129 : (Try.prog.info? 129).any (·.zero.isSome) = true := by kernel_rfl
@[simp] theorem Tb.zb129 : ((Try.prog.info? 129).bind (·.zero)).isSome = true := by kernel_rfl
@[simp] theorem Tb.el129 : elOK Try.prog 129 := elOK_of (by kernel_rfl)
@[simp] theorem Tb.tk130 : tk Try.prog 130 = 1 := by kernel_rfl
@[simp] theorem Tb.sz130 : Program.cellsOf Try.prog 130 = 1 := by kernel_rfl
@[simp] theorem Tb.sl130 : slT Try.prog 130 = none := by kernel_rfl
@[simp] theorem Tb.st130 : isStr Try.prog 130 = false := by kernel_rfl
@[simp] theorem Tb.bo130 : isBool Try.prog 130 = false := by kernel_rfl
@[simp] theorem Tb.in130 : intT Try.prog 130 = none := by kernel_rfl
@[simp] theorem Tb.un130 : (Try.prog.underlying 130).isSome = true := by kernel_rfl
@[simp] theorem Tb.zr130 : zrT Try.prog 130 = [.nilFunc] := by kernel_rfl
@[simp] theorem Tb.za130 : (Try.prog.info? 130).any (·.zero.isSome) = true := by kernel_rfl
@[simp] theorem Tb.zb130 : ((Try.prog.info? 130).bind (·.zero)).isSome = true := by kernel_rfl
@[simp] theorem Tb.el130 : elOK Try.prog 130 := elOK_of (by kernel_rfl)
@[simp] theorem Tb.tk131 : tk Try.prog 131 = 1 := by kernel_rfl
@[simp] theorem Tb.sz131 : Program.cellsOf Try.prog 131 = 1 := by kernel_rfl
@[simp] theorem Tb.sl131 : slT Try.prog 131 = none := by kernel_rfl
@[simp] theorem Tb.st131 : isStr Try.prog 131 = false := by kernel_rfl
@[simp] theorem Tb.bo131 : isBool Try.prog 131 = false := by kernel_rfl
@[simp] theorem Tb.in131 : intT Try.prog 131 = none := by kernel_rfl
@[simp] theorem Tb.un131 : (Try.prog.underlying 131).isSome = true := by kernel_rfl
@[simp] theorem Tb.zr131 : zrT Try.prog 131 = [.nilFunc] := by kernel_rfl
@[simp] theorem Tb.za131 : (Try.prog.info? 131).any (·.zero.isSome) = true := by kernel_rfl
@[simp] theorem Tb.zb131 : ((Try.prog.info? 131).bind (·.zero)).isSome = true := by kernel_rfl
@[simp] theorem Tb.el131 : elOK Try.prog 131 := elOK_of (by kernel_rfl)
@[simp] theorem Tb.tk132 : tk Try.prog 132 = 1 := by kernel_rfl
@[simp] theorem Tb.sz132 : Program.cellsOf Try.prog 132 = 1 := by kernel_rfl
@[simp] theorem Tb.sl132 : slT Try.prog 132 = none := by kernel_rfl
@[simp] theorem Tb.st132 : isStr Try.prog 132 = false := by kernel_rfl
@[simp] theorem Tb.bo132 : isBool Try.prog 132 = false := by kernel_rfl
@[simp] theorem Tb.in132 : intT Try.prog 132 = none := by kernel_rfl
@[simp] theorem Tb.un132 : (Try.prog.underlying 132).isSome = true := by kernel_rfl
@[simp] theorem Tb.zr132 : zrT Try.prog 132 = [.nilFunc] := by kernel_rfl
@[simp] theorem Tb.za132 : (Try.prog.info? 132).any (·.zero.isSome) = true := by kernel_rfl
@[simp] theorem Tb.zb132 : ((Try.prog.info? 132).bind (·.zero)).isSome = true := by kernel_rfl
@[simp] theorem Tb.el132 : elOK Try.prog 132 := elOK_of (by kernel_rfl)
@[simp] theorem Tb.tk133 : tk Try.prog 133 = 1 := by kernel_rfl
@[simp] theorem Tb.sz133 : Program.cellsOf Try.prog 133 = 1 := by kernel_rfl
@[simp] theorem Tb.sl133 : slT Try.prog 133 = none := by kernel_rfl
@[simp] theorem Tb.st133 : isStr Try.prog 133 = false := by kernel_rfl
@[simp] theorem Tb.bo133 : isBool Try.prog 133 = false := by kernel_rfl
@[simp] theorem Tb.in133 : intT Try.prog 133 = none := by kernel_rfl
@[simp] theorem Tb.un133 : (Try.prog.underlying 133).isSome = true := by kernel_rfl
@[simp] theorem Tb.zr133 : zrT Try.prog 133 = [.nilFunc] := by kernel_rfl
@[simp] theorem Tb.za133 : (Try.prog.info? 133).any (·.zero.isSome) = true := by kernel_rfl
@[simp] theorem Tb.zb133 : ((Try.prog.info? 133).bind (·.zero)).isSome = true := by kernel_rfl
@[simp] theorem Tb.el133 : elOK Try.prog 133 := elOK_of (by kernel_rfl)
@[simp] theorem Tb.tk134 : tk Try.prog 134 = 1 := by kernel_rfl
@[simp] theorem Tb.sz134 : Program.cellsOf Try.prog 134 = 1 := by kernel_rfl
@[simp] theorem Tb.sl134 : slT Try.prog 134 = none := by kernel_rfl
@[simp] theorem Tb.st134 : isStr Try.prog 134 = false := by kernel_rfl
@[simp] theorem Tb.bo134 : isBool Try.prog 134 = false := by kernel_rfl
@[simp] theorem Tb.in134 : intT Try.prog 134 = none := by kernel_rfl
@[simp] theorem Tb.un134 : (Try.prog.underlying 134).isSome = true := by kernel_rfl
@[simp] theorem Tb.zr134 : zrT Try.prog 134 = [.nilFunc] := by kernel_rfl
@[simp] theorem Tb.za134 : (Try.prog.info? 134).any (·.zero.isSome) = true := by kernel_rfl
@[simp] theorem Tb.zb134 : ((Try.prog.info? 134).bind (·.zero)).isSome = true := by kernel_rfl
@[simp] theorem Tb.el134 : elOK Try.prog 134 := elOK_of (by kernel_rfl)
@[simp] theorem Tb.tk140 : tk Try.prog 140 = 1 := by kernel_rfl
@[simp] theorem Tb.sz140 : Program.cellsOf Try.prog 140 = 1 := by kernel_rfl
@[simp] theorem Tb.sl140 : slT Try.prog 140 = none := by kernel_rfl
@[simp] theorem Tb.st140 : isStr Try.prog 140 = false := by kernel_rfl
@[simp] theorem Tb.bo140 : isBool Try.prog 140 = false := by kernel_rfl
@[simp] theorem Tb.in140 : intT Try.prog 140 = none := by kernel_rfl
@[simp] theorem Tb.un140 : (Try.prog.underlying 140).isSome = true := by kernel_rfl
@[simp] theorem Tb.zr140 : zrT Try.prog 140 = [.nilFunc] := by kernel_rfl
@[simp] theorem Tb.za140 : (Try.prog.info? 140).any (·.zero.isSome) = true := by kernel_rfl
@[simp] theorem Tb.zb140 : ((Try.prog.info? 140).bind (·.zero)).isSome = true := by kernel_rfl
@[simp] theorem Tb.el140 : elOK Try.prog 140 := elOK_of (by kernel_rfl)
@[simp] theorem Tb.tk141 : tk Try.prog 141 = 1 := by kernel_rfl
@[simp] theorem Tb.sz141 : Program.cellsOf Try.prog 141 = 1 := by kernel_rfl
@[simp] theorem Tb.sl141 : slT Try.prog 141 = none := by kernel_rfl
@[simp] theorem Tb.st141 : isStr Try.prog 141 = false := by kernel_rfl
@[simp] theorem Tb.bo141 : isBool Try.prog 141 = false := by kernel_rfl
@[simp] theorem Tb.in141 : intT Try.prog 141 = some .u32 := by kernel_rfl
@[simp] theorem Tb.un141 : (Try.prog.underlying 141).isSome = true := by kernel_rfl
@[simp] theorem Tb.zr141 : zrT Try.prog 141 = [.int .u32 0] := by kernel_rfl
@[simp] theorem Tb.za141 : (Try.prog.info? 141).any (·.zero.isSome) = true := by kernel_rfl
@[simp] theorem Tb.zb141 : ((Try.prog.info? 141).bind (·.zero)).isSome = true := by kernel_rfl
@[simp] theorem Tb.el141 : elOK Try.prog 141 := elOK_of (by kernel_rfl)
@[simp] theorem Tb.tk144 : tk Try.prog 144 = 1 := by kernel_rfl
@[simp] theorem Tb.sz144 : Program.cellsOf Try.prog 144 = 1 := by kernel_rfl
@[simp] theorem Tb.sl144 : slT Try.prog 144 = none := by kernel_rfl
@[simp] theorem Tb.st144 : isStr Try.prog 144 = false := by kernel_rfl
@[simp] theorem Tb.bo144 : isBool Try.prog 144 = false := by kernel_rfl
@[simp] theorem Tb.in144 : intT Try.prog 144 = none := by kernel_rfl
@[simp] theorem Tb.un144 : (Try.prog.underlying 144).isSome = true := by kernel_rfl
@[simp] theorem Tb.zr144 : zrT Try.prog 144 = [.nilFunc] := by kernel_rfl
@[simp] theorem Tb.za144 : (Try.prog.info? 144).any (·.zero.isSome) = true := by kernel_rfl
@[simp] theorem Tb.zb144 : ((Try.prog.info? 144).bind (·.zero)).isSome = true := by kernel_rfl
@[simp] theorem Tb.el144 : elOK Try.prog 144 := elOK_of (by kernel_rfl)
@[simp] theorem Tb.tk145 : tk Try.prog 145 = 1 := by kernel_rfl
@[simp] theorem Tb.sz145 : Program.cellsOf Try.prog 145 = 1 := by kernel_rfl
@[simp] theorem Tb.sl145 : slT Try.prog 145 = none := by kernel_rfl
@[simp] theorem Tb.st145 : isStr Try.prog 145 = false := by kernel_rfl
@[simp] theorem Tb.bo145 : isBool Try.prog 145 = false := by kernel_rfl
@[simp] theorem Tb.in145 : intT Try.prog 145 = none := by kernel_rfl
@[simp] theorem Tb.un145 : (Try.prog.underlying 145).isSome = true := by kernel_rfl
@[simp] theorem Tb.zr145 : zrT Try.prog 145 = [.pointer none] := by kernel_rfl
@[simp] theorem Tb.za145 : (Try.prog.info? 145).any (·.zero.isSome) = true := by kernel_rfl
@[simp] theorem Tb.zb145 : ((Try.prog.info? 145).bind (·.zero)).isSome = true := by kernel_rfl
@[simp] theorem Tb.el145 : elOK Try.prog 145 := elOK_of (by kernel_rfl)
end Go.Proofs.Ytgceiedihmgooaa
end
