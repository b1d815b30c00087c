/- What the program's types and functions are, as equations (made by gen.py). -/
import Derived.Test.YtofeaajoohiijaaGreatTLp
import Derived.Test.YtofeaajoohiijaaGreatProg
import Derived.KernelRfl
namespace Go.TL
open Go Go.Proofs

@[simp] theorem csz3 : csz Tryz.prog 3 = some 1 := by kernel_rfl
@[simp] theorem tagg3 : tagg Tryz.prog 3 = some false := by kernel_rfl
@[simp] theorem zeroV3 : zeroV Tryz.prog 3 = some (.i .i64 0) := by kernel_rfl
@[simp] theorem tbytes3 : tbytes Tryz.prog 3 = 8 := by kernel_rfl
@[simp] theorem undI3 : Tryz.prog.underlying 3 = some (.int .i64) := by kernel_rfl
@[simp] theorem csz4 : csz Tryz.prog 4 = some 1 := by kernel_rfl
@[simp] theorem tagg4 : tagg Tryz.prog 4 = some false := by kernel_rfl
@[simp] theorem zeroV4 : zeroV Tryz.prog 4 = some (.b false) := by kernel_rfl
@[simp] theorem tbytes4 : tbytes Tryz.prog 4 = 1 := by kernel_rfl
@[simp] theorem isBoolT4 : isBoolT Tryz.prog 4 = true := by kernel_rfl
@[simp] theorem csz5 : csz Tryz.prog 5 = some 1 := by kernel_rfl
@[simp] theorem tagg5 : tagg Tryz.prog 5 = some false := by kernel_rfl
@[simp] theorem zeroV5 : zeroV Tryz.prog 5 = some (.i .u8 0) := by kernel_rfl
@[simp] theorem tbytes5 : tbytes Tryz.prog 5 = 1 := by kernel_rfl
@[simp] theorem undI5 : Tryz.prog.underlying 5 = some (.int .u8) := by kernel_rfl
@[simp] theorem csz9 : csz Tryz.prog 9 = some 1 := by kernel_rfl
@[simp] theorem tagg9 : tagg Tryz.prog 9 = some false := by kernel_rfl
@[simp] theorem zeroV9 : zeroV Tryz.prog 9 = some (.s ⟨#[]⟩) := by kernel_rfl
@[simp] theorem tbytes9 : tbytes Tryz.prog 9 = 16 := by kernel_rfl
@[simp] theorem isStr9 : isStr Tryz.prog 9 = true := by kernel_rfl
@[simp] theorem csz22 : csz Tryz.prog 22 = some 1 := by kernel_rfl
@[simp] theorem tagg22 : tagg Tryz.prog 22 = some false := by kernel_rfl
@[simp] theorem zeroV22 : zeroV Tryz.prog 22 = some .emp := by kernel_rfl
@[simp] theorem tbytes22 : tbytes Tryz.prog 22 = 24 := by kernel_rfl
@[simp] theorem selem22 : selem Tryz.prog 22 = some 54 := by kernel_rfl
@[simp] theorem csz23 : csz Tryz.prog 23 = some 1 := by kernel_rfl
@[simp] theorem tagg23 : tagg Tryz.prog 23 = some false := by kernel_rfl
@[simp] theorem zeroV23 : zeroV Tryz.prog 23 = some .emp := by kernel_rfl
@[simp] theorem tbytes23 : tbytes Tryz.prog 23 = 24 := by kernel_rfl
@[simp] theorem selem23 : selem Tryz.prog 23 = some 41 := by kernel_rfl
@[simp] theorem csz24 : csz Tryz.prog 24 = some 1 := by kernel_rfl
@[simp] theorem tagg24 : tagg Tryz.prog 24 = some false := by kernel_rfl
@[simp] theorem zeroV24 : zeroV Tryz.prog 24 = some .emp := by kernel_rfl
@[simp] theorem tbytes24 : tbytes Tryz.prog 24 = 24 := by kernel_rfl
@[simp] theorem selem24 : selem Tryz.prog 24 = some 3 := by kernel_rfl
@[simp] theorem csz26 : csz Tryz.prog 26 = some 3 := by kernel_rfl
@[simp] theorem tagg26 : tagg Tryz.prog 26 = some true := by kernel_rfl
@[simp] theorem zeroV26 : zeroV Tryz.prog 26 = some (.agg [(.i .i64 0), .emp, .emp]) := by kernel_rfl
@[simp] theorem tbytes26 : tbytes Tryz.prog 26 = 56 := by kernel_rfl
@[simp] theorem fieldOf26_0 : fieldOf Tryz.prog 26 0 = some (0, 3) := by kernel_rfl
@[simp] theorem fieldOf26_1 : fieldOf Tryz.prog 26 1 = some (1, 24) := by kernel_rfl
@[simp] theorem fieldOf26_2 : fieldOf Tryz.prog 26 2 = some (2, 24) := by kernel_rfl
@[simp] theorem places26 : places Tryz.prog 26 = some [(0, 1), (1, 1), (2, 1)] := by kernel_rfl
@[simp] theorem csz28 : csz Tryz.prog 28 = some 5 := by kernel_rfl
@[simp] theorem tagg28 : tagg Tryz.prog 28 = some true := by kernel_rfl
@[simp] theorem zeroV28 : zeroV Tryz.prog 28 = some (.agg [.emp, .emp, (.i .i64 0), .emp, .emp]) := by kernel_rfl
@[simp] theorem tbytes28 : tbytes Tryz.prog 28 = 104 := by kernel_rfl
@[simp] theorem fieldOf28_0 : fieldOf Tryz.prog 28 0 = some (0, 22) := by kernel_rfl
@[simp] theorem fieldOf28_1 : fieldOf Tryz.prog 28 1 = some (1, 23) := by kernel_rfl
@[simp] theorem fieldOf28_2 : fieldOf Tryz.prog 28 2 = some (2, 26) := by kernel_rfl
@[simp] theorem places28 : places Tryz.prog 28 = some [(0, 1), (1, 1), (2, 3)] := by kernel_rfl
@[simp] theorem csz32 : csz Tryz.prog 32 = some 1 := by kernel_rfl
@[simp] theorem tagg32 : tagg Tryz.prog 32 = some false := by kernel_rfl
@[simp] theorem zeroV32 : zeroV Tryz.prog 32 = some .emp := by kernel_rfl
@[simp] theorem tbytes32 : tbytes Tryz.prog 32 = 24 := by kernel_rfl
@[simp] theorem selem32 : selem Tryz.prog 32 = some 44 := by kernel_rfl
@[simp] theorem csz39 : csz Tryz.prog 39 = some 1 := by kernel_rfl
@[simp] theorem tagg39 : tagg Tryz.prog 39 = some false := by kernel_rfl
@[simp] theorem zeroV39 : zeroV Tryz.prog 39 = some .emp := by kernel_rfl
@[simp] theorem tbytes39 : tbytes Tryz.prog 39 = 24 := by kernel_rfl
@[simp] theorem selem39 : selem Tryz.prog 39 = some 24 := by kernel_rfl
@[simp] theorem csz41 : csz Tryz.prog 41 = some 7 := by kernel_rfl
@[simp] theorem tagg41 : tagg Tryz.prog 41 = some true := by kernel_rfl
@[simp] theorem zeroV41 : zeroV Tryz.prog 41 = some (.agg [(.i .i64 0), .emp, .emp, (.i .i64 0), (.i .i64 0), .emp, (.i .i64 0)]) := by kernel_rfl
@[simp] theorem tbytes41 : tbytes Tryz.prog 41 = 104 := by kernel_rfl
@[simp] theorem fieldOf41_0 : fieldOf Tryz.prog 41 0 = some (0, 3) := by kernel_rfl
@[simp] theorem fieldOf41_1 : fieldOf Tryz.prog 41 1 = some (1, 24) := by kernel_rfl
@[simp] theorem fieldOf41_2 : fieldOf Tryz.prog 41 2 = some (2, 24) := by kernel_rfl
@[simp] theorem fieldOf41_3 : fieldOf Tryz.prog 41 3 = some (3, 3) := by kernel_rfl
@[simp] theorem fieldOf41_4 : fieldOf Tryz.prog 41 4 = some (4, 3) := by kernel_rfl
@[simp] theorem fieldOf41_5 : fieldOf Tryz.prog 41 5 = some (5, 39) := by kernel_rfl
@[simp] theorem fieldOf41_6 : fieldOf Tryz.prog 41 6 = some (6, 3) := by kernel_rfl
@[simp] theorem places41 : places Tryz.prog 41 = some [(0, 1), (1, 1), (2, 1), (3, 1), (4, 1), (5, 1), (6, 1)] := by kernel_rfl
@[simp] theorem csz43 : csz Tryz.prog 43 = some 2 := by kernel_rfl
@[simp] theorem tagg43 : tagg Tryz.prog 43 = some true := by kernel_rfl
@[simp] theorem zeroV43 : zeroV Tryz.prog 43 = some (.agg [(.i .i64 0), (.i .i64 0)]) := by kernel_rfl
@[simp] theorem tbytes43 : tbytes Tryz.prog 43 = 16 := by kernel_rfl
@[simp] theorem fieldOf43_0 : fieldOf Tryz.prog 43 0 = some (0, 3) := by kernel_rfl
@[simp] theorem fieldOf43_1 : fieldOf Tryz.prog 43 1 = some (1, 3) := by kernel_rfl
@[simp] theorem intStruct43 : intStruct Tryz.prog 43 2 = true := by kernel_rfl
@[simp] theorem places43 : places Tryz.prog 43 = some [(0, 1), (1, 1)] := by kernel_rfl
@[simp] theorem csz44 : csz Tryz.prog 44 = some 1 := by kernel_rfl
@[simp] theorem tagg44 : tagg Tryz.prog 44 = some false := by kernel_rfl
@[simp] theorem zeroV44 : zeroV Tryz.prog 44 = some .emp := by kernel_rfl
@[simp] theorem tbytes44 : tbytes Tryz.prog 44 = 24 := by kernel_rfl
@[simp] theorem selem44 : selem Tryz.prog 44 = some 43 := by kernel_rfl
@[simp] theorem csz50 : csz Tryz.prog 50 = some 1 := by kernel_rfl
@[simp] theorem tagg50 : tagg Tryz.prog 50 = some false := by kernel_rfl
@[simp] theorem zeroV50 : zeroV Tryz.prog 50 = some (.i .i64 0) := by kernel_rfl
@[simp] theorem tbytes50 : tbytes Tryz.prog 50 = 8 := by kernel_rfl
@[simp] theorem undI50 : Tryz.prog.underlying 50 = some (.int .i64) := by kernel_rfl
@[simp] theorem csz54 : csz Tryz.prog 54 = some 2 := by kernel_rfl
@[simp] theorem tagg54 : tagg Tryz.prog 54 = some true := by kernel_rfl
@[simp] theorem zeroV54 : zeroV Tryz.prog 54 = some (.agg [(.s ⟨#[]⟩), .emp]) := by kernel_rfl
@[simp] theorem tbytes54 : tbytes Tryz.prog 54 = 40 := by kernel_rfl
@[simp] theorem fieldOf54_0 : fieldOf Tryz.prog 54 0 = some (0, 9) := by kernel_rfl
@[simp] theorem fieldOf54_1 : fieldOf Tryz.prog 54 1 = some (1, 44) := by kernel_rfl
@[simp] theorem places54 : places Tryz.prog 54 = some [(0, 1), (1, 1)] := by kernel_rfl
@[simp] theorem csz57 : csz Tryz.prog 57 = some 1 := by kernel_rfl
@[simp] theorem tagg57 : tagg Tryz.prog 57 = some false := by kernel_rfl
@[simp] theorem zeroV57 : zeroV Tryz.prog 57 = some (.raw (.pointer none)) := by kernel_rfl
@[simp] theorem tbytes57 : tbytes Tryz.prog 57 = 8 := by kernel_rfl
@[simp] theorem csz72 : csz Tryz.prog 72 = some 1 := by kernel_rfl
@[simp] theorem tagg72 : tagg Tryz.prog 72 = some false := by kernel_rfl
@[simp] theorem zeroV72 : zeroV Tryz.prog 72 = some (.raw (.map none)) := by kernel_rfl
@[simp] theorem tbytes72 : tbytes Tryz.prog 72 = 8 := by kernel_rfl
@[simp] theorem mapT72 : mapT Tryz.prog 72 = some ((.int .i64), (.b false)) := by kernel_rfl
@[simp] theorem csz73 : csz Tryz.prog 73 = some 1 := by kernel_rfl
@[simp] theorem tagg73 : tagg Tryz.prog 73 = some false := by kernel_rfl
@[simp] theorem zeroV73 : zeroV Tryz.prog 73 = some (.raw (.map none)) := by kernel_rfl
@[simp] theorem tbytes73 : tbytes Tryz.prog 73 = 8 := by kernel_rfl
@[simp] theorem mapT73 : mapT Tryz.prog 73 = some ((.int .i64), .emp) := by kernel_rfl
@[simp] theorem csz75 : csz Tryz.prog 75 = some 3 := by kernel_rfl
@[simp] theorem tagg75 : tagg Tryz.prog 75 = some true := by kernel_rfl
@[simp] theorem zeroV75 : zeroV Tryz.prog 75 = some (.agg [.emp, (.raw (.map none)), (.raw (.map none))]) := by kernel_rfl
@[simp] theorem tbytes75 : tbytes Tryz.prog 75 = 40 := by kernel_rfl
@[simp] theorem fieldOf75_0 : fieldOf Tryz.prog 75 0 = some (0, 23) := by kernel_rfl
@[simp] theorem fieldOf75_1 : fieldOf Tryz.prog 75 1 = some (1, 72) := by kernel_rfl
@[simp] theorem fieldOf75_2 : fieldOf Tryz.prog 75 2 = some (2, 73) := by kernel_rfl
@[simp] theorem places75 : places Tryz.prog 75 = some [(0, 1), (1, 1), (2, 1)] := by kernel_rfl
@[simp] theorem csz78 : csz Tryz.prog 78 = some 1 := by kernel_rfl
@[simp] theorem tagg78 : tagg Tryz.prog 78 = some false := by kernel_rfl
@[simp] theorem zeroV78 : zeroV Tryz.prog 78 = some (.raw (.pointer none)) := by kernel_rfl
@[simp] theorem tbytes78 : tbytes Tryz.prog 78 = 8 := by kernel_rfl
@[simp] theorem csz87 : csz Tryz.prog 87 = some 1 := by kernel_rfl
@[simp] theorem tagg87 : tagg Tryz.prog 87 = some false := by kernel_rfl
@[simp] theorem zeroV87 : zeroV Tryz.prog 87 = some (.raw .nilFunc) := by kernel_rfl
@[simp] theorem tbytes87 : tbytes Tryz.prog 87 = 8 := by kernel_rfl
@[simp] theorem csz88 : csz Tryz.prog 88 = some 1 := by kernel_rfl
@[simp] theorem tagg88 : tagg Tryz.prog 88 = some false := by kernel_rfl
@[simp] theorem zeroV88 : zeroV Tryz.prog 88 = some .emp := by kernel_rfl
@[simp] theorem tbytes88 : tbytes Tryz.prog 88 = 24 := by kernel_rfl
@[simp] theorem selem88 : selem Tryz.prog 88 = some 44 := by kernel_rfl
@[simp] theorem csz99 : csz Tryz.prog 99 = some 2 := by kernel_rfl
@[simp] theorem tagg99 : tagg Tryz.prog 99 = some true := by kernel_rfl
@[simp] theorem zeroV99 : zeroV Tryz.prog 99 = some (.agg [(.i .i64 0), (.i .i64 0)]) := by kernel_rfl
@[simp] theorem tbytes99 : tbytes Tryz.prog 99 = 16 := by kernel_rfl
@[simp] theorem fieldOf99_0 : fieldOf Tryz.prog 99 0 = some (0, 3) := by kernel_rfl
@[simp] theorem fieldOf99_1 : fieldOf Tryz.prog 99 1 = some (1, 3) := by kernel_rfl
@[simp] theorem intStruct99 : intStruct Tryz.prog 99 2 = true := by kernel_rfl
@[simp] theorem places99 : places Tryz.prog 99 = some [(0, 1), (1, 1)] := by kernel_rfl
@[simp] theorem csz108 : csz Tryz.prog 108 = some 1 := by kernel_rfl
@[simp] theorem tagg108 : tagg Tryz.prog 108 = some false := by kernel_rfl
@[simp] theorem zeroV108 : zeroV Tryz.prog 108 = some (.raw (.map none)) := by kernel_rfl
@[simp] theorem tbytes108 : tbytes Tryz.prog 108 = 8 := by kernel_rfl
@[simp] theorem mapT108 : mapT Tryz.prog 108 = some ((.int .i64), (.i .i64 0)) := by kernel_rfl
@[simp] theorem csz110 : csz Tryz.prog 110 = some 2 := by kernel_rfl
@[simp] theorem tagg110 : tagg Tryz.prog 110 = some true := by kernel_rfl
@[simp] theorem zeroV110 : zeroV Tryz.prog 110 = some (.agg [.emp, (.raw (.map none))]) := by kernel_rfl
@[simp] theorem tbytes110 : tbytes Tryz.prog 110 = 32 := by kernel_rfl
@[simp] theorem fieldOf110_0 : fieldOf Tryz.prog 110 0 = some (0, 39) := by kernel_rfl
@[simp] theorem fieldOf110_1 : fieldOf Tryz.prog 110 1 = some (1, 108) := by kernel_rfl
@[simp] theorem places110 : places Tryz.prog 110 = some [(0, 1), (1, 1)] := by kernel_rfl
@[simp] theorem csz114 : csz Tryz.prog 114 = some 1 := by kernel_rfl
@[simp] theorem tagg114 : tagg Tryz.prog 114 = some false := by kernel_rfl
@[simp] theorem zeroV114 : zeroV Tryz.prog 114 = some (.raw .nilFunc) := by kernel_rfl
@[simp] theorem tbytes114 : tbytes Tryz.prog 114 = 8 := by kernel_rfl
@[simp] theorem csz119 : csz Tryz.prog 119 = some 1 := by kernel_rfl
@[simp] theorem tagg119 : tagg Tryz.prog 119 = some false := by kernel_rfl
@[simp] theorem zeroV119 : zeroV Tryz.prog 119 = some (.raw .nilFunc) := by kernel_rfl
@[simp] theorem tbytes119 : tbytes Tryz.prog 119 = 8 := by kernel_rfl
@[simp] theorem csz121 : csz Tryz.prog 121 = some 1 := by kernel_rfl
@[simp] theorem tagg121 : tagg Tryz.prog 121 = some false := by kernel_rfl
@[simp] theorem zeroV121 : zeroV Tryz.prog 121 = some (.raw .nilFunc) := by kernel_rfl
@[simp] theorem tbytes121 : tbytes Tryz.prog 121 = 8 := by kernel_rfl
@[simp] theorem csz132 : csz Tryz.prog 132 = some 1 := by kernel_rfl
@[simp] theorem tagg132 : tagg Tryz.prog 132 = some false := by kernel_rfl
@[simp] theorem zeroV132 : zeroV Tryz.prog 132 = some (.i .u64 0) := by kernel_rfl
@[simp] theorem tbytes132 : tbytes Tryz.prog 132 = 8 := by kernel_rfl
@[simp] theorem undI132 : Tryz.prog.underlying 132 = some (.int .u64) := by kernel_rfl
@[simp] theorem csz138 : csz Tryz.prog 138 = some 1 := by kernel_rfl
@[simp] theorem tagg138 : tagg Tryz.prog 138 = some false := by kernel_rfl
@[simp] theorem zeroV138 : zeroV Tryz.prog 138 = some (.i .i64 0) := by kernel_rfl
@[simp] theorem tbytes138 : tbytes Tryz.prog 138 = 8 := by kernel_rfl
@[simp] theorem undI138 : Tryz.prog.underlying 138 = some (.int .i64) := by kernel_rfl
@[simp] theorem csz145 : csz Tryz.prog 145 = some 1 := by kernel_rfl
@[simp] theorem tagg145 : tagg Tryz.prog 145 = some false := by kernel_rfl
@[simp] theorem zeroV145 : zeroV Tryz.prog 145 = some (.i .u32 0) := by kernel_rfl
@[simp] theorem tbytes145 : tbytes Tryz.prog 145 = 4 := by kernel_rfl
@[simp] theorem undI145 : Tryz.prog.underlying 145 = some (.int .u32) := by kernel_rfl
@[simp] theorem csz147 : csz Tryz.prog 147 = some 1 := by kernel_rfl
@[simp] theorem tagg147 : tagg Tryz.prog 147 = some false := by kernel_rfl
@[simp] theorem zeroV147 : zeroV Tryz.prog 147 = some (.i .u64 0) := by kernel_rfl
@[simp] theorem tbytes147 : tbytes Tryz.prog 147 = 8 := by kernel_rfl
@[simp] theorem undI147 : Tryz.prog.underlying 147 = some (.int .u64) := by kernel_rfl
@[simp] theorem csz157 : csz Tryz.prog 157 = some 1 := by kernel_rfl
@[simp] theorem tagg157 : tagg Tryz.prog 157 = some false := by kernel_rfl
@[simp] theorem zeroV157 : zeroV Tryz.prog 157 = some (.i .u64 0) := by kernel_rfl
@[simp] theorem tbytes157 : tbytes Tryz.prog 157 = 8 := by kernel_rfl
@[simp] theorem undI157 : Tryz.prog.underlying 157 = some (.int .u64) := by kernel_rfl
@[simp] theorem csz161 : csz Tryz.prog 161 = some 1 := by kernel_rfl
@[simp] theorem tagg161 : tagg Tryz.prog 161 = some false := by kernel_rfl
@[simp] theorem zeroV161 : zeroV Tryz.prog 161 = some (.raw (.pointer none)) := by kernel_rfl
@[simp] theorem tbytes161 : tbytes Tryz.prog 161 = 8 := by kernel_rfl
theorem follows : Tryz.prog.follows .mixedOrders = true := by kernel_rfl
-- gosem.cut.init
theorem go2 {args : List V} {H : List Obj} {R : V → List Obj → Prop} (hn : args.length ≤ 1) (h : codeX Tryz.prog 1 (Tryz.f2.body.getD .skip) (argSlots args) H (retK Tryz.prog [] R)) : Fn Tryz.prog 2 args H R := Fn.ofB Tryz.func2 1 _ rfl rfl rfl (by kernel_rfl) hn h
-- secateur/secateurlaw13.FixTwice
theorem go3 {args : List V} {H : List Obj} {R : V → List Obj → Prop} (hn : args.length ≤ 67) (h : codeX Tryz.prog 67 (Tryz.f3.body.getD .skip) (argSlots args) H (retK Tryz.prog [.tmp 2] R)) : Fn Tryz.prog 3 args H R := Fn.ofB Tryz.func3 67 _ rfl rfl rfl (by kernel_rfl) hn h
-- secateur/secateurlaw13.FixEach
theorem go4 {args : List V} {H : List Obj} {R : V → List Obj → Prop} (hn : args.length ≤ 65) (h : codeX Tryz.prog 65 (Tryz.f4.body.getD .skip) (argSlots args) H (retK Tryz.prog [.tmp 2] R)) : Fn Tryz.prog 4 args H R := Fn.ofB Tryz.func4 65 _ rfl rfl rfl (by kernel_rfl) hn h
-- secateur/secateurlaw13.FixSolved
theorem go5 {args : List V} {H : List Obj} {R : V → List Obj → Prop} (hn : args.length ≤ 80) (h : codeX Tryz.prog 80 (Tryz.f5.body.getD .skip) (argSlots args) H (retK Tryz.prog [.tmp 4] R)) : Fn Tryz.prog 5 args H R := Fn.ofB Tryz.func5 80 _ rfl rfl rfl (by kernel_rfl) hn h
-- secateur/secateurlaw06.Right
theorem go6 {args : List V} {H : List Obj} {R : V → List Obj → Prop} (hn : args.length ≤ 18) (h : codeX Tryz.prog 18 (Tryz.f6.body.getD .skip) (argSlots args) H (retK Tryz.prog [.cell 4 28, .tmp 5] R)) : Fn Tryz.prog 6 args H R := Fn.ofB Tryz.func6 18 _ rfl rfl rfl (by kernel_rfl) hn h
-- secateur/secateurlaw13.fixed
theorem go7 {args : List V} {H : List Obj} {R : V → List Obj → Prop} (hn : args.length ≤ 78) (h : codeX Tryz.prog 78 (Tryz.f7.body.getD .skip) (argSlots args) H (retK Tryz.prog [.tmp 0] R)) : Fn Tryz.prog 7 args H R := Fn.ofB Tryz.func7 78 _ rfl rfl rfl (by kernel_rfl) hn h
-- secateur/secateurref04.Doms
theorem go8 {args : List V} {H : List Obj} {R : V → List Obj → Prop} (hn : args.length ≤ 24) (h : codeX Tryz.prog 24 (Tryz.f8.body.getD .skip) (argSlots args) H (retK Tryz.prog [.tmp 2] R)) : Fn Tryz.prog 8 args H R := Fn.ofB Tryz.func8 24 _ rfl rfl rfl (by kernel_rfl) hn h
-- secateur/fix.All
theorem go9 {args : List V} {H : List Obj} {R : V → List Obj → Prop} (hn : args.length ≤ 71) (h : codeX Tryz.prog 71 (Tryz.f9.body.getD .skip) (argSlots args) H (retK Tryz.prog [.tmp 4, .tmp 5] R)) : Fn Tryz.prog 9 args H R := Fn.ofB Tryz.func9 71 _ rfl rfl rfl (by kernel_rfl) hn h
-- secateur/secateurref03.Same
theorem go10 {args : List V} {H : List Obj} {R : V → List Obj → Prop} (hn : args.length ≤ 27) (h : codeX Tryz.prog 27 (Tryz.f10.body.getD .skip) (argSlots args) H (retK Tryz.prog [.tmp 4] R)) : Fn Tryz.prog 10 args H R := Fn.ofB Tryz.func10 27 _ rfl rfl rfl (by kernel_rfl) hn h
-- secateur/fix.One
theorem go11 {args : List V} {H : List Obj} {R : V → List Obj → Prop} (hn : args.length ≤ 55) (h : codeX Tryz.prog 55 (Tryz.f11.body.getD .skip) (argSlots args) H (retK Tryz.prog [.tmp 4, .tmp 5] R)) : Fn Tryz.prog 11 args H R := Fn.ofB Tryz.func11 55 _ rfl rfl rfl (by kernel_rfl) hn h
-- secateur/secateurref03.Within
theorem go12 {args : List V} {H : List Obj} {R : V → List Obj → Prop} (hn : args.length ≤ 28) (h : codeX Tryz.prog 28 (Tryz.f12.body.getD .skip) (argSlots args) H (retK Tryz.prog [.tmp 4] R)) : Fn Tryz.prog 12 args H R := Fn.ofB Tryz.func12 28 _ rfl rfl rfl (by kernel_rfl) hn h
-- secateur/fix.Solved
theorem go13 {args : List V} {H : List Obj} {R : V → List Obj → Prop} (hn : args.length ≤ 34) (h : codeX Tryz.prog 34 (Tryz.f13.body.getD .skip) (argSlots args) H (retK Tryz.prog [.tmp 2, .tmp 3] R)) : Fn Tryz.prog 13 args H R := Fn.ofB Tryz.func13 34 _ rfl rfl rfl (by kernel_rfl) hn h
-- secateur/secateurref02.Nums
theorem go14 {args : List V} {H : List Obj} {R : V → List Obj → Prop} (hn : args.length ≤ 26) (h : codeX Tryz.prog 26 (Tryz.f14.body.getD .skip) (argSlots args) H (retK Tryz.prog [.tmp 4] R)) : Fn Tryz.prog 14 args H R := Fn.ofB Tryz.func14 26 _ rfl rfl rfl (by kernel_rfl) hn h
-- secateur/secateurlaw04.Bound
theorem go15 {args : List V} {H : List Obj} {R : V → List Obj → Prop} (hn : args.length ≤ 147) (h : codeX Tryz.prog 147 (Tryz.f15.body.getD .skip) (argSlots args) H (retK Tryz.prog [.cell 2 28] R)) : Fn Tryz.prog 15 args H R := Fn.ofB Tryz.func15 147 _ rfl rfl rfl (by kernel_rfl) hn h
-- secateur/secateurref04.Check
theorem go16 {args : List V} {H : List Obj} {R : V → List Obj → Prop} (hn : args.length ≤ 92) (h : codeX Tryz.prog 92 (Tryz.f16.body.getD .skip) (argSlots args) H (retK Tryz.prog [.tmp 2] R)) : Fn Tryz.prog 16 args H R := Fn.ofB Tryz.func16 92 _ rfl rfl rfl (by kernel_rfl) hn h
-- secateur/secateurref06.Small
theorem go17 {args : List V} {H : List Obj} {R : V → List Obj → Prop} (hn : args.length ≤ 24) (h : codeX Tryz.prog 24 (Tryz.f17.body.getD .skip) (argSlots args) H (retK Tryz.prog [.tmp 4] R)) : Fn Tryz.prog 17 args H R := Fn.ofB Tryz.func17 24 _ rfl rfl rfl (by kernel_rfl) hn h
-- secateur/secateurref03.Lists
theorem go18 {args : List V} {H : List Obj} {R : V → List Obj → Prop} (hn : args.length ≤ 22) (h : codeX Tryz.prog 22 (Tryz.f18.body.getD .skip) (argSlots args) H (retK Tryz.prog [.tmp 2] R)) : Fn Tryz.prog 18 args H R := Fn.ofB Tryz.func18 22 _ rfl rfl rfl (by kernel_rfl) hn h
-- slices.Clone[[]secateur/api.Range,secateur/api.Range]
theorem go19 {args : List V} {H : List Obj} {R : V → List Obj → Prop} (hn : args.length ≤ 8) (h : codeX Tryz.prog 8 (Tryz.f19.body.getD .skip) (argSlots args) H (retK Tryz.prog [.tmp 2] R)) : Fn Tryz.prog 19 args H R := Fn.ofB Tryz.func19 8 _ rfl rfl rfl (by kernel_rfl) hn h
-- secateur/fix.begun
theorem go20 {args : List V} {H : List Obj} {R : V → List Obj → Prop} (hn : args.length ≤ 49) (h : codeX Tryz.prog 49 (Tryz.f20.body.getD .skip) (argSlots args) H (retK Tryz.prog [.tmp 2] R)) : Fn Tryz.prog 20 args H R := Fn.ofB Tryz.func20 49 _ rfl rfl rfl (by kernel_rfl) hn h
-- (*secateur/fix.queue).next
theorem go21 {args : List V} {H : List Obj} {R : V → List Obj → Prop} (hn : args.length ≤ 26) (h : codeX Tryz.prog 26 (Tryz.f21.body.getD .skip) (argSlots args) H (retK Tryz.prog [.tmp 2, .tmp 3] R)) : Fn Tryz.prog 21 args H R := Fn.ofB Tryz.func21 26 _ rfl rfl rfl (by kernel_rfl) hn h
-- secateur/dom.Same
theorem go22 {args : List V} {H : List Obj} {R : V → List Obj → Prop} (hn : args.length ≤ 8) (h : codeX Tryz.prog 8 (Tryz.f22.body.getD .skip) (argSlots args) H (retK Tryz.prog [.tmp 4] R)) : Fn Tryz.prog 22 args H R := Fn.ofB Tryz.func22 8 _ rfl rfl rfl (by kernel_rfl) hn h
-- (*secateur/fix.queue).changed
theorem go23 {args : List V} {H : List Obj} {R : V → List Obj → Prop} (hn : args.length ≤ 23) (h : codeX Tryz.prog 23 (Tryz.f23.body.getD .skip) (argSlots args) H (retK Tryz.prog [] R)) : Fn Tryz.prog 23 args H R := Fn.ofB Tryz.func23 23 _ rfl rfl rfl (by kernel_rfl) hn h
-- secateur/secateurref02.Same
theorem go24 {args : List V} {H : List Obj} {R : V → List Obj → Prop} (hn : args.length ≤ 26) (h : codeX Tryz.prog 26 (Tryz.f24.body.getD .skip) (argSlots args) H (retK Tryz.prog [.tmp 4] R)) : Fn Tryz.prog 24 args H R := Fn.ofB Tryz.func24 26 _ rfl rfl rfl (by kernel_rfl) hn h
-- secateur/unlike.Prune
theorem go25 {args : List V} {H : List Obj} {R : V → List Obj → Prop} (hn : args.length ≤ 91) (h : codeX Tryz.prog 91 (Tryz.f25.body.getD .skip) (argSlots args) H (retK Tryz.prog [.tmp 4, .tmp 5] R)) : Fn Tryz.prog 25 args H R := Fn.ofB Tryz.func25 91 _ rfl rfl rfl (by kernel_rfl) hn h
-- secateur/table.Prune
theorem go26 {args : List V} {H : List Obj} {R : V → List Obj → Prop} (hn : args.length ≤ 68) (h : codeX Tryz.prog 68 (Tryz.f26.body.getD .skip) (argSlots args) H (retK Tryz.prog [.tmp 4, .tmp 5] R)) : Fn Tryz.prog 26 args H R := Fn.ofB Tryz.func26 68 _ rfl rfl rfl (by kernel_rfl) hn h
-- secateur/element.Prune
theorem go27 {args : List V} {H : List Obj} {R : V → List Obj → Prop} (hn : args.length ≤ 99) (h : codeX Tryz.prog 99 (Tryz.f27.body.getD .skip) (argSlots args) H (retK Tryz.prog [.tmp 4, .tmp 5] R)) : Fn Tryz.prog 27 args H R := Fn.ofB Tryz.func27 99 _ rfl rfl rfl (by kernel_rfl) hn h
-- secateur/logic.Reif
theorem go28 {args : List V} {H : List Obj} {R : V → List Obj → Prop} (hn : args.length ≤ 81) (h : codeX Tryz.prog 81 (Tryz.f28.body.getD .skip) (argSlots args) H (retK Tryz.prog [.tmp 4, .tmp 5] R)) : Fn Tryz.prog 28 args H R := Fn.ofB Tryz.func28 81 _ rfl rfl rfl (by kernel_rfl) hn h
-- secateur/logic.Clause
theorem go29 {args : List V} {H : List Obj} {R : V → List Obj → Prop} (hn : args.length ≤ 62) (h : codeX Tryz.prog 62 (Tryz.f29.body.getD .skip) (argSlots args) H (retK Tryz.prog [.tmp 4, .tmp 5] R)) : Fn Tryz.prog 29 args H R := Fn.ofB Tryz.func29 62 _ rfl rfl rfl (by kernel_rfl) hn h
-- secateur/order.Prune
theorem go30 {args : List V} {H : List Obj} {R : V → List Obj → Prop} (hn : args.length ≤ 106) (h : codeX Tryz.prog 106 (Tryz.f30.body.getD .skip) (argSlots args) H (retK Tryz.prog [.tmp 4, .tmp 5] R)) : Fn Tryz.prog 30 args H R := Fn.ofB Tryz.func30 106 _ rfl rfl rfl (by kernel_rfl) hn h
-- secateur/linear.Prune
theorem go31 {args : List V} {H : List Obj} {R : V → List Obj → Prop} (hn : args.length ≤ 66) (h : codeX Tryz.prog 66 (Tryz.f31.body.getD .skip) (argSlots args) H (retK Tryz.prog [.tmp 4, .tmp 5] R)) : Fn Tryz.prog 31 args H R := Fn.ofB Tryz.func31 66 _ rfl rfl rfl (by kernel_rfl) hn h
-- secateur/secateurref02.Pick
theorem go32 {args : List V} {H : List Obj} {R : V → List Obj → Prop} (hn : args.length ≤ 39) (h : codeX Tryz.prog 39 (Tryz.f32.body.getD .skip) (argSlots args) H (retK Tryz.prog [.tmp 6] R)) : Fn Tryz.prog 32 args H R := Fn.ofB Tryz.func32 39 _ rfl rfl rfl (by kernel_rfl) hn h
-- secateur/dom.Least
theorem go33 {args : List V} {H : List Obj} {R : V → List Obj → Prop} (hn : args.length ≤ 11) (h : codeX Tryz.prog 11 (Tryz.f33.body.getD .skip) (argSlots args) H (retK Tryz.prog [.tmp 2, .tmp 3] R)) : Fn Tryz.prog 33 args H R := Fn.ofB Tryz.func33 11 _ rfl rfl rfl (by kernel_rfl) hn h
-- secateur/dom.Size
theorem go34 {args : List V} {H : List Obj} {R : V → List Obj → Prop} (hn : args.length ≤ 22) (h : codeX Tryz.prog 22 (Tryz.f34.body.getD .skip) (argSlots args) H (retK Tryz.prog [.tmp 2] R)) : Fn Tryz.prog 34 args H R := Fn.ofB Tryz.func34 22 _ rfl rfl rfl (by kernel_rfl) hn h
-- secateur/secateurref04.Own
theorem go35 {args : List V} {H : List Obj} {R : V → List Obj → Prop} (hn : args.length ≤ 18) (h : codeX Tryz.prog 18 (Tryz.f35.body.getD .skip) (argSlots args) H (retK Tryz.prog [.cell 2 41] R)) : Fn Tryz.prog 35 args H R := Fn.ofB Tryz.func35 18 _ rfl rfl rfl (by kernel_rfl) hn h
-- secateur/secateurref04.Name
theorem go36 {args : List V} {H : List Obj} {R : V → List Obj → Prop} (hn : args.length ≤ 52) (h : codeX Tryz.prog 52 (Tryz.f36.body.getD .skip) (argSlots args) H (retK Tryz.prog [.tmp 2] R)) : Fn Tryz.prog 36 args H R := Fn.ofB Tryz.func36 52 _ rfl rfl rfl (by kernel_rfl) hn h
-- secateur/secateurref02.Check
theorem go37 {args : List V} {H : List Obj} {R : V → List Obj → Prop} (hn : args.length ≤ 75) (h : codeX Tryz.prog 75 (Tryz.f37.body.getD .skip) (argSlots args) H (retK Tryz.prog [.tmp 2] R)) : Fn Tryz.prog 37 args H R := Fn.ofB Tryz.func37 75 _ rfl rfl rfl (by kernel_rfl) hn h
-- secateur/secateurref04.Con
theorem go38 {args : List V} {H : List Obj} {R : V → List Obj → Prop} (hn : args.length ≤ 46) (h : codeX Tryz.prog 46 (Tryz.f38.body.getD .skip) (argSlots args) H (retK Tryz.prog [.tmp 4] R)) : Fn Tryz.prog 38 args H R := Fn.ofB Tryz.func38 46 _ rfl rfl rfl (by kernel_rfl) hn h
-- secateur/secateurref04.Goal
theorem go39 {args : List V} {H : List Obj} {R : V → List Obj → Prop} (hn : args.length ≤ 35) (h : codeX Tryz.prog 35 (Tryz.f39.body.getD .skip) (argSlots args) H (retK Tryz.prog [.tmp 4] R)) : Fn Tryz.prog 39 args H R := Fn.ofB Tryz.func39 35 _ rfl rfl rfl (by kernel_rfl) hn h
-- secateur/secateurref02.Values
theorem go40 {args : List V} {H : List Obj} {R : V → List Obj → Prop} (hn : args.length ≤ 32) (h : codeX Tryz.prog 32 (Tryz.f40.body.getD .skip) (argSlots args) H (retK Tryz.prog [.tmp 2] R)) : Fn Tryz.prog 40 args H R := Fn.ofB Tryz.func40 32 _ rfl rfl rfl (by kernel_rfl) hn h
-- secateur/model.Uses
theorem go41 {args : List V} {H : List Obj} {R : V → List Obj → Prop} (hn : args.length ≤ 19) (h : codeX Tryz.prog 19 (Tryz.f41.body.getD .skip) (argSlots args) H (retK Tryz.prog [.tmp 2] R)) : Fn Tryz.prog 41 args H R := Fn.ofB Tryz.func41 19 _ rfl rfl rfl (by kernel_rfl) hn h
-- slices.Equal[[]secateur/api.Range,secateur/api.Range]
theorem go42 {args : List V} {H : List Obj} {R : V → List Obj → Prop} (hn : args.length ≤ 26) (h : codeX Tryz.prog 26 (Tryz.f42.body.getD .skip) (argSlots args) H (retK Tryz.prog [.tmp 4] R)) : Fn Tryz.prog 42 args H R := Fn.ofB Tryz.func42 26 _ rfl rfl rfl (by kernel_rfl) hn h
-- secateur/unlike.lists
theorem go43 {args : List V} {H : List Obj} {R : V → List Obj → Prop} (hn : args.length ≤ 24) (h : codeX Tryz.prog 24 (Tryz.f43.body.getD .skip) (argSlots args) H (retK Tryz.prog [.tmp 4] R)) : Fn Tryz.prog 43 args H R := Fn.ofB Tryz.func43 24 _ rfl rfl rfl (by kernel_rfl) hn h
-- secateur/unlike.matched
theorem go44 {args : List V} {H : List Obj} {R : V → List Obj → Prop} (hn : args.length ≤ 21) (h : codeX Tryz.prog 21 (Tryz.f44.body.getD .skip) (argSlots args) H (retK Tryz.prog [.tmp 2, .tmp 3] R)) : Fn Tryz.prog 44 args H R := Fn.ofB Tryz.func44 21 _ rfl rfl rfl (by kernel_rfl) hn h
-- slices.Clone[[][]int,[]int]
theorem go45 {args : List V} {H : List Obj} {R : V → List Obj → Prop} (hn : args.length ≤ 8) (h : codeX Tryz.prog 8 (Tryz.f45.body.getD .skip) (argSlots args) H (retK Tryz.prog [.tmp 2] R)) : Fn Tryz.prog 45 args H R := Fn.ofB Tryz.func45 8 _ rfl rfl rfl (by kernel_rfl) hn h
-- secateur/dom.Of
theorem go46 {args : List V} {H : List Obj} {R : V → List Obj → Prop} (hn : args.length ≤ 15) (h : codeX Tryz.prog 15 (Tryz.f46.body.getD .skip) (argSlots args) H (retK Tryz.prog [.tmp 2, .tmp 3] R)) : Fn Tryz.prog 46 args H R := Fn.ofB Tryz.func46 15 _ rfl rfl rfl (by kernel_rfl) hn h
-- secateur/table.Rows
theorem go47 {args : List V} {H : List Obj} {R : V → List Obj → Prop} (hn : args.length ≤ 43) (h : codeX Tryz.prog 43 (Tryz.f47.body.getD .skip) (argSlots args) H (retK Tryz.prog [.tmp 4] R)) : Fn Tryz.prog 47 args H R := Fn.ofB Tryz.func47 43 _ rfl rfl rfl (by kernel_rfl) hn h
-- slices.DeleteFunc[[]int,int]
theorem go48 {args : List V} {H : List Obj} {R : V → List Obj → Prop} (hn : args.length ≤ 42) (h : codeX Tryz.prog 42 (Tryz.f48.body.getD .skip) (argSlots args) H (retK Tryz.prog [.tmp 4] R)) : Fn Tryz.prog 48 args H R := Fn.ofB Tryz.func48 42 _ rfl rfl rfl (by kernel_rfl) hn h
-- secateur/dom.Values
theorem go49 {args : List V} {H : List Obj} {R : V → List Obj → Prop} (hn : args.length ≤ 6) (h : codeX Tryz.prog 6 (Tryz.f49.body.getD .skip) (argSlots args) H (retK Tryz.prog [.tmp 2] R)) : Fn Tryz.prog 49 args H R := Fn.ofB Tryz.func49 6 _ rfl rfl rfl (by kernel_rfl) hn h
-- secateur/element.Prune$1
theorem go50 {args : List V} {H : List Obj} {R : V → List Obj → Prop} (hn : args.length ≤ 30) (h : codeX Tryz.prog 30 (Tryz.f50.body.getD .skip) (argSlots args) H (retK Tryz.prog [.tmp 5] R)) : Fn Tryz.prog 50 args H R := Fn.ofB Tryz.func50 30 _ rfl rfl rfl (by kernel_rfl) hn h
-- secateur/dom.Meet
theorem go51 {args : List V} {H : List Obj} {R : V → List Obj → Prop} (hn : args.length ≤ 67) (h : codeX Tryz.prog 67 (Tryz.f51.body.getD .skip) (argSlots args) H (retK Tryz.prog [.tmp 4] R)) : Fn Tryz.prog 51 args H R := Fn.ofB Tryz.func51 67 _ rfl rfl rfl (by kernel_rfl) hn h
-- secateur/dom.Join
theorem go52 {args : List V} {H : List Obj} {R : V → List Obj → Prop} (hn : args.length ≤ 58) (h : codeX Tryz.prog 58 (Tryz.f52.body.getD .skip) (argSlots args) H (retK Tryz.prog [.tmp 4] R)) : Fn Tryz.prog 52 args H R := Fn.ofB Tryz.func52 58 _ rfl rfl rfl (by kernel_rfl) hn h
-- (secateur/logic.doms).own
theorem go53 {args : List V} {H : List Obj} {R : V → List Obj → Prop} (hn : args.length ≤ 23) (h : codeX Tryz.prog 23 (Tryz.f53.body.getD .skip) (argSlots args) H (retK Tryz.prog [.tmp 2, .tmp 3] R)) : Fn Tryz.prog 53 args H R := Fn.ofB Tryz.func53 23 _ rfl rfl rfl (by kernel_rfl) hn h
-- (secateur/logic.doms).keep
theorem go54 {args : List V} {H : List Obj} {R : V → List Obj → Prop} (hn : args.length ≤ 23) (h : codeX Tryz.prog 23 (Tryz.f54.body.getD .skip) (argSlots args) H (retK Tryz.prog [.tmp 6] R)) : Fn Tryz.prog 54 args H R := Fn.ofB Tryz.func54 23 _ rfl rfl rfl (by kernel_rfl) hn h
-- secateur/linear.Known
theorem go55 {args : List V} {H : List Obj} {R : V → List Obj → Prop} (hn : args.length ≤ 13) (h : codeX Tryz.prog 13 (Tryz.f55.body.getD .skip) (argSlots args) H (retK Tryz.prog [.tmp 4, .tmp 5] R)) : Fn Tryz.prog 55 args H R := Fn.ofB Tryz.func55 13 _ rfl rfl rfl (by kernel_rfl) hn h
-- secateur/dom.Has
theorem go56 {args : List V} {H : List Obj} {R : V → List Obj → Prop} (hn : args.length ≤ 8) (h : codeX Tryz.prog 8 (Tryz.f56.body.getD .skip) (argSlots args) H (retK Tryz.prog [.tmp 4] R)) : Fn Tryz.prog 56 args H R := Fn.ofB Tryz.func56 8 _ rfl rfl rfl (by kernel_rfl) hn h
-- secateur/linear.Not
theorem go57 {args : List V} {H : List Obj} {R : V → List Obj → Prop} (hn : args.length ≤ 32) (h : codeX Tryz.prog 32 (Tryz.f57.body.getD .skip) (argSlots args) H (retK Tryz.prog [.cell 2 41] R)) : Fn Tryz.prog 57 args H R := Fn.ofB Tryz.func57 32 _ rfl rfl rfl (by kernel_rfl) hn h
-- secateur/logic.so
theorem go58 {args : List V} {H : List Obj} {R : V → List Obj → Prop} (hn : args.length ≤ 6) (h : codeX Tryz.prog 6 (Tryz.f58.body.getD .skip) (argSlots args) H (retK Tryz.prog [.tmp 2] R)) : Fn Tryz.prog 58 args H R := Fn.ofB Tryz.func58 6 _ rfl rfl rfl (by kernel_rfl) hn h
-- secateur/order.Place
theorem go59 {args : List V} {H : List Obj} {R : V → List Obj → Prop} (hn : args.length ≤ 33) (h : codeX Tryz.prog 33 (Tryz.f59.body.getD .skip) (argSlots args) H (retK Tryz.prog [.tmp 4] R)) : Fn Tryz.prog 59 args H R := Fn.ofB Tryz.func59 33 _ rfl rfl rfl (by kernel_rfl) hn h
-- secateur/dom.Cut
theorem go60 {args : List V} {H : List Obj} {R : V → List Obj → Prop} (hn : args.length ≤ 16) (h : codeX Tryz.prog 16 (Tryz.f60.body.getD .skip) (argSlots args) H (retK Tryz.prog [.tmp 6] R)) : Fn Tryz.prog 60 args H R := Fn.ofB Tryz.func60 16 _ rfl rfl rfl (by kernel_rfl) hn h
-- secateur/order.of
theorem go61 {args : List V} {H : List Obj} {R : V → List Obj → Prop} (hn : args.length ≤ 20) (h : codeX Tryz.prog 20 (Tryz.f61.body.getD .skip) (argSlots args) H (retK Tryz.prog [.cell 2 99] R)) : Fn Tryz.prog 61 args H R := Fn.ofB Tryz.func61 20 _ rfl rfl rfl (by kernel_rfl) hn h
-- secateur/linear.own
theorem go62 {args : List V} {H : List Obj} {R : V → List Obj → Prop} (hn : args.length ≤ 23) (h : codeX Tryz.prog 23 (Tryz.f62.body.getD .skip) (argSlots args) H (retK Tryz.prog [.tmp 2, .tmp 3] R)) : Fn Tryz.prog 62 args H R := Fn.ofB Tryz.func62 23 _ rfl rfl rfl (by kernel_rfl) hn h
-- secateur/linear.other
theorem go63 {args : List V} {H : List Obj} {R : V → List Obj → Prop} (hn : args.length ≤ 95) (h : codeX Tryz.prog 95 (Tryz.f63.body.getD .skip) (argSlots args) H (retK Tryz.prog [.tmp 4] R)) : Fn Tryz.prog 63 args H R := Fn.ofB Tryz.func63 95 _ rfl rfl rfl (by kernel_rfl) hn h
-- secateur/linear.turned
theorem go64 {args : List V} {H : List Obj} {R : V → List Obj → Prop} (hn : args.length ≤ 19) (h : codeX Tryz.prog 19 (Tryz.f64.body.getD .skip) (argSlots args) H (retK Tryz.prog [.tmp 2] R)) : Fn Tryz.prog 64 args H R := Fn.ofB Tryz.func64 19 _ rfl rfl rfl (by kernel_rfl) hn h
-- secateur/linear.most
theorem go65 {args : List V} {H : List Obj} {R : V → List Obj → Prop} (hn : args.length ≤ 91) (h : codeX Tryz.prog 91 (Tryz.f65.body.getD .skip) (argSlots args) H (retK Tryz.prog [.tmp 8, .tmp 9] R)) : Fn Tryz.prog 65 args H R := Fn.ofB Tryz.func65 91 _ rfl rfl rfl (by kernel_rfl) hn h
-- secateur/secateurref02.Has
theorem go66 {args : List V} {H : List Obj} {R : V → List Obj → Prop} (hn : args.length ≤ 18) (h : codeX Tryz.prog 18 (Tryz.f66.body.getD .skip) (argSlots args) H (retK Tryz.prog [.tmp 4] R)) : Fn Tryz.prog 66 args H R := Fn.ofB Tryz.func66 18 _ rfl rfl rfl (by kernel_rfl) hn h
-- secateur/secateurref02.Pack
theorem go67 {args : List V} {H : List Obj} {R : V → List Obj → Prop} (hn : args.length ≤ 46) (h : codeX Tryz.prog 46 (Tryz.f67.body.getD .skip) (argSlots args) H (retK Tryz.prog [.tmp 2] R)) : Fn Tryz.prog 67 args H R := Fn.ofB Tryz.func67 46 _ rfl rfl rfl (by kernel_rfl) hn h
-- secateur/secateurref04.Nums
theorem go68 {args : List V} {H : List Obj} {R : V → List Obj → Prop} (hn : args.length ≤ 22) (h : codeX Tryz.prog 22 (Tryz.f68.body.getD .skip) (argSlots args) H (retK Tryz.prog [.tmp 2] R)) : Fn Tryz.prog 68 args H R := Fn.ofB Tryz.func68 22 _ rfl rfl rfl (by kernel_rfl) hn h
-- secateur/secateurref02.Value
theorem go69 {args : List V} {H : List Obj} {R : V → List Obj → Prop} (hn : args.length ≤ 9) (h : codeX Tryz.prog 9 (Tryz.f69.body.getD .skip) (argSlots args) H (retK Tryz.prog [.tmp 2] R)) : Fn Tryz.prog 69 args H R := Fn.ofB Tryz.func69 9 _ rfl rfl rfl (by kernel_rfl) hn h
-- secateur/secateurref04.Uses
theorem go70 {args : List V} {H : List Obj} {R : V → List Obj → Prop} (hn : args.length ≤ 18) (h : codeX Tryz.prog 18 (Tryz.f70.body.getD .skip) (argSlots args) H (retK Tryz.prog [.tmp 2] R)) : Fn Tryz.prog 70 args H R := Fn.ofB Tryz.func70 18 _ rfl rfl rfl (by kernel_rfl) hn h
-- secateur/secateurref04.right
theorem go71 {args : List V} {H : List Obj} {R : V → List Obj → Prop} (hn : args.length ≤ 160) (h : codeX Tryz.prog 160 (Tryz.f71.body.getD .skip) (argSlots args) H (retK Tryz.prog [.tmp 4] R)) : Fn Tryz.prog 71 args H R := Fn.ofB Tryz.func71 160 _ rfl rfl rfl (by kernel_rfl) hn h
-- secateur/secateurref04.big
theorem go72 {args : List V} {H : List Obj} {R : V → List Obj → Prop} (hn : args.length ≤ 55) (h : codeX Tryz.prog 55 (Tryz.f72.body.getD .skip) (argSlots args) H (retK Tryz.prog [.tmp 4] R)) : Fn Tryz.prog 72 args H R := Fn.ofB Tryz.func72 55 _ rfl rfl rfl (by kernel_rfl) hn h
-- slices.Clone[[]int,int]
theorem go73 {args : List V} {H : List Obj} {R : V → List Obj → Prop} (hn : args.length ≤ 8) (h : codeX Tryz.prog 8 (Tryz.f73.body.getD .skip) (argSlots args) H (retK Tryz.prog [.tmp 2] R)) : Fn Tryz.prog 73 args H R := Fn.ofB Tryz.func73 8 _ rfl rfl rfl (by kernel_rfl) hn h
-- slices.Sort[[]int,int]
theorem go74 {args : List V} {H : List Obj} {R : V → List Obj → Prop} (hn : args.length ≤ 11) (h : codeX Tryz.prog 11 (Tryz.f74.body.getD .skip) (argSlots args) H (retK Tryz.prog [] R)) : Fn Tryz.prog 74 args H R := Fn.ofB Tryz.func74 11 _ rfl rfl rfl (by kernel_rfl) hn h
-- slices.Compact[[]int,int]
theorem go75 {args : List V} {H : List Obj} {R : V → List Obj → Prop} (hn : args.length ≤ 61) (h : codeX Tryz.prog 61 (Tryz.f75.body.getD .skip) (argSlots args) H (retK Tryz.prog [.tmp 2] R)) : Fn Tryz.prog 75 args H R := Fn.ofB Tryz.func75 61 _ rfl rfl rfl (by kernel_rfl) hn h
-- (*secateur/unlike.matching).give
theorem go76 {args : List V} {H : List Obj} {R : V → List Obj → Prop} (hn : args.length ≤ 12) (h : codeX Tryz.prog 12 (Tryz.f76.body.getD .skip) (argSlots args) H (retK Tryz.prog [.tmp 4] R)) : Fn Tryz.prog 76 args H R := Fn.ofB Tryz.func76 12 _ rfl rfl rfl (by kernel_rfl) hn h
-- slices.ContainsFunc[[]int,int]
theorem go77 {args : List V} {H : List Obj} {R : V → List Obj → Prop} (hn : args.length ≤ 9) (h : codeX Tryz.prog 9 (Tryz.f77.body.getD .skip) (argSlots args) H (retK Tryz.prog [.tmp 4] R)) : Fn Tryz.prog 77 args H R := Fn.ofB Tryz.func77 9 _ rfl rfl rfl (by kernel_rfl) hn h
-- secateur/dom.Of$1
theorem go78 {args : List V} {H : List Obj} {R : V → List Obj → Prop} (hn : args.length ≤ 6) (h : codeX Tryz.prog 6 (Tryz.f78.body.getD .skip) (argSlots args) H (retK Tryz.prog [.tmp 2] R)) : Fn Tryz.prog 78 args H R := Fn.ofB Tryz.func78 6 _ rfl rfl rfl (by kernel_rfl) hn h
-- secateur/dom.value
theorem go79 {args : List V} {H : List Obj} {R : V → List Obj → Prop} (hn : args.length ≤ 9) (h : codeX Tryz.prog 9 (Tryz.f79.body.getD .skip) (argSlots args) H (retK Tryz.prog [.tmp 2] R)) : Fn Tryz.prog 79 args H R := Fn.ofB Tryz.func79 9 _ rfl rfl rfl (by kernel_rfl) hn h
-- secateur/dom.packed
theorem go80 {args : List V} {H : List Obj} {R : V → List Obj → Prop} (hn : args.length ≤ 56) (h : codeX Tryz.prog 56 (Tryz.f80.body.getD .skip) (argSlots args) H (retK Tryz.prog [.tmp 2] R)) : Fn Tryz.prog 80 args H R := Fn.ofB Tryz.func80 56 _ rfl rfl rfl (by kernel_rfl) hn h
-- slices.Sorted[int]
theorem go81 {args : List V} {H : List Obj} {R : V → List Obj → Prop} (hn : args.length ≤ 9) (h : codeX Tryz.prog 9 (Tryz.f81.body.getD .skip) (argSlots args) H (retK Tryz.prog [.tmp 2] R)) : Fn Tryz.prog 81 args H R := Fn.ofB Tryz.func81 9 _ rfl rfl rfl (by kernel_rfl) hn h
-- slices.Values[[]int,int]
theorem go82 {args : List V} {H : List Obj} {R : V → List Obj → Prop} (hn : args.length ≤ 4) (h : codeX Tryz.prog 4 (Tryz.f82.body.getD .skip) (argSlots args) H (retK Tryz.prog [.tmp 2] R)) : Fn Tryz.prog 82 args H R := Fn.ofB Tryz.func82 4 _ rfl rfl rfl (by kernel_rfl) hn h
-- slices.IndexFunc[[]int,int]
theorem go83 {args : List V} {H : List Obj} {R : V → List Obj → Prop} (hn : args.length ≤ 19) (h : codeX Tryz.prog 19 (Tryz.f83.body.getD .skip) (argSlots args) H (retK Tryz.prog [.tmp 4] R)) : Fn Tryz.prog 83 args H R := Fn.ofB Tryz.func83 19 _ rfl rfl rfl (by kernel_rfl) hn h
-- slices.Collect[int]
theorem go84 {args : List V} {H : List Obj} {R : V → List Obj → Prop} (hn : args.length ≤ 5) (h : codeX Tryz.prog 5 (Tryz.f84.body.getD .skip) (argSlots args) H (retK Tryz.prog [.tmp 2] R)) : Fn Tryz.prog 84 args H R := Fn.ofB Tryz.func84 5 _ rfl rfl rfl (by kernel_rfl) hn h
-- secateur/dom.all
theorem go85 {args : List V} {H : List Obj} {R : V → List Obj → Prop} (hn : args.length ≤ 4) (h : codeX Tryz.prog 4 (Tryz.f85.body.getD .skip) (argSlots args) H (retK Tryz.prog [.tmp 2] R)) : Fn Tryz.prog 85 args H R := Fn.ofB Tryz.func85 4 _ rfl rfl rfl (by kernel_rfl) hn h
-- slices.SortFunc[[]secateur/api.Range,secateur/api.Range]
theorem go86 {args : List V} {H : List Obj} {R : V → List Obj → Prop} (hn : args.length ≤ 14) (h : codeX Tryz.prog 14 (Tryz.f86.body.getD .skip) (argSlots args) H (retK Tryz.prog [] R)) : Fn Tryz.prog 86 args H R := Fn.ofB Tryz.func86 14 _ rfl rfl rfl (by kernel_rfl) hn h
-- secateur/dom.Join$1
theorem go87 {args : List V} {H : List Obj} {R : V → List Obj → Prop} (hn : args.length ≤ 10) (h : codeX Tryz.prog 10 (Tryz.f87.body.getD .skip) (argSlots args) H (retK Tryz.prog [.tmp 4] R)) : Fn Tryz.prog 87 args H R := Fn.ofB Tryz.func87 10 _ rfl rfl rfl (by kernel_rfl) hn h
-- secateur/linear.so
theorem go88 {args : List V} {H : List Obj} {R : V → List Obj → Prop} (hn : args.length ≤ 53) (h : codeX Tryz.prog 53 (Tryz.f88.body.getD .skip) (argSlots args) H (retK Tryz.prog [.tmp 4] R)) : Fn Tryz.prog 88 args H R := Fn.ofB Tryz.func88 53 _ rfl rfl rfl (by kernel_rfl) hn h
-- slices.ContainsFunc[[]secateur/api.Range,secateur/api.Range]
theorem go89 {args : List V} {H : List Obj} {R : V → List Obj → Prop} (hn : args.length ≤ 9) (h : codeX Tryz.prog 9 (Tryz.f89.body.getD .skip) (argSlots args) H (retK Tryz.prog [.tmp 4] R)) : Fn Tryz.prog 89 args H R := Fn.ofB Tryz.func89 9 _ rfl rfl rfl (by kernel_rfl) hn h
-- secateur/dom.Has$1
theorem go90 {args : List V} {H : List Obj} {R : V → List Obj → Prop} (hn : args.length ≤ 14) (h : codeX Tryz.prog 14 (Tryz.f90.body.getD .skip) (argSlots args) H (retK Tryz.prog [.tmp 3] R)) : Fn Tryz.prog 90 args H R := Fn.ofB Tryz.func90 14 _ rfl rfl rfl (by kernel_rfl) hn h
-- secateur/order.known
theorem go91 {args : List V} {H : List Obj} {R : V → List Obj → Prop} (hn : args.length ≤ 48) (h : codeX Tryz.prog 48 (Tryz.f91.body.getD .skip) (argSlots args) H (retK Tryz.prog [.tmp 6] R)) : Fn Tryz.prog 91 args H R := Fn.ofB Tryz.func91 48 _ rfl rfl rfl (by kernel_rfl) hn h
-- secateur/dom.Most
theorem go92 {args : List V} {H : List Obj} {R : V → List Obj → Prop} (hn : args.length ≤ 14) (h : codeX Tryz.prog 14 (Tryz.f92.body.getD .skip) (argSlots args) H (retK Tryz.prog [.tmp 2, .tmp 3] R)) : Fn Tryz.prog 92 args H R := Fn.ofB Tryz.func92 14 _ rfl rfl rfl (by kernel_rfl) hn h
-- secateur/linear.end
theorem go93 {args : List V} {H : List Obj} {R : V → List Obj → Prop} (hn : args.length ≤ 37) (h : codeX Tryz.prog 37 (Tryz.f93.body.getD .skip) (argSlots args) H (retK Tryz.prog [.tmp 6, .tmp 7] R)) : Fn Tryz.prog 93 args H R := Fn.ofB Tryz.func93 37 _ rfl rfl rfl (by kernel_rfl) hn h
-- secateur/dom.Minus
theorem go94 {args : List V} {H : List Obj} {R : V → List Obj → Prop} (hn : args.length ≤ 64) (h : codeX Tryz.prog 64 (Tryz.f94.body.getD .skip) (argSlots args) H (retK Tryz.prog [.tmp 4] R)) : Fn Tryz.prog 94 args H R := Fn.ofB Tryz.func94 64 _ rfl rfl rfl (by kernel_rfl) hn h
-- secateur/linear.Ends
theorem go95 {args : List V} {H : List Obj} {R : V → List Obj → Prop} (hn : args.length ≤ 59) (h : codeX Tryz.prog 59 (Tryz.f95.body.getD .skip) (argSlots args) H (retK Tryz.prog [.tmp 6, .tmp 7, .tmp 8] R)) : Fn Tryz.prog 95 args H R := Fn.ofB Tryz.func95 59 _ rfl rfl rfl (by kernel_rfl) hn h
-- secateur/linear.floor
theorem go96 {args : List V} {H : List Obj} {R : V → List Obj → Prop} (hn : args.length ≤ 16) (h : codeX Tryz.prog 16 (Tryz.f96.body.getD .skip) (argSlots args) H (retK Tryz.prog [.tmp 4] R)) : Fn Tryz.prog 96 args H R := Fn.ofB Tryz.func96 16 _ rfl rfl rfl (by kernel_rfl) hn h
-- secateur/secateurref02.Sorted
theorem go97 {args : List V} {H : List Obj} {R : V → List Obj → Prop} (hn : args.length ≤ 66) (h : codeX Tryz.prog 66 (Tryz.f97.body.getD .skip) (argSlots args) H (retK Tryz.prog [.tmp 2] R)) : Fn Tryz.prog 97 args H R := Fn.ofB Tryz.func97 66 _ rfl rfl rfl (by kernel_rfl) hn h
-- secateur/secateurref04.others
theorem go98 {args : List V} {H : List Obj} {R : V → List Obj → Prop} (hn : args.length ≤ 25) (h : codeX Tryz.prog 25 (Tryz.f98.body.getD .skip) (argSlots args) H (retK Tryz.prog [.tmp 2] R)) : Fn Tryz.prog 98 args H R := Fn.ofB Tryz.func98 25 _ rfl rfl rfl (by kernel_rfl) hn h
-- secateur/secateurref04.sum
theorem go99 {args : List V} {H : List Obj} {R : V → List Obj → Prop} (hn : args.length ≤ 27) (h : codeX Tryz.prog 27 (Tryz.f99.body.getD .skip) (argSlots args) H (retK Tryz.prog [.tmp 2] R)) : Fn Tryz.prog 99 args H R := Fn.ofB Tryz.func99 27 _ rfl rfl rfl (by kernel_rfl) hn h
-- secateur/secateurref04.rows
theorem go100 {args : List V} {H : List Obj} {R : V → List Obj → Prop} (hn : args.length ≤ 46) (h : codeX Tryz.prog 46 (Tryz.f100.body.getD .skip) (argSlots args) H (retK Tryz.prog [.tmp 2] R)) : Fn Tryz.prog 100 args H R := Fn.ofB Tryz.func100 46 _ rfl rfl rfl (by kernel_rfl) hn h
-- secateur/secateurref04.truth
theorem go101 {args : List V} {H : List Obj} {R : V → List Obj → Prop} (hn : args.length ≤ 24) (h : codeX Tryz.prog 24 (Tryz.f101.body.getD .skip) (argSlots args) H (retK Tryz.prog [.tmp 2] R)) : Fn Tryz.prog 101 args H R := Fn.ofB Tryz.func101 24 _ rfl rfl rfl (by kernel_rfl) hn h
-- secateur/secateurref04.units
theorem go102 {args : List V} {H : List Obj} {R : V → List Obj → Prop} (hn : args.length ≤ 39) (h : codeX Tryz.prog 39 (Tryz.f102.body.getD .skip) (argSlots args) H (retK Tryz.prog [.tmp 4] R)) : Fn Tryz.prog 102 args H R := Fn.ofB Tryz.func102 39 _ rfl rfl rfl (by kernel_rfl) hn h
-- slices.pdqsortOrdered[int]
theorem go103 {args : List V} {H : List Obj} {R : V → List Obj → Prop} (hn : args.length ≤ 134) (h : codeX Tryz.prog 134 (Tryz.f103.body.getD .skip) (argSlots args) H (retK Tryz.prog [] R)) : Fn Tryz.prog 103 args H R := Fn.ofB Tryz.func103 134 _ rfl rfl rfl (by kernel_rfl) hn h
-- math/bits.Len
theorem go104 {args : List V} {H : List Obj} {R : V → List Obj → Prop} (hn : args.length ≤ 8) (h : codeX Tryz.prog 8 (Tryz.f104.body.getD .skip) (argSlots args) H (retK Tryz.prog [.tmp 2] R)) : Fn Tryz.prog 104 args H R := Fn.ofB Tryz.func104 8 _ rfl rfl rfl (by kernel_rfl) hn h
-- (*secateur/unlike.matching).give$1
theorem go105 {args : List V} {H : List Obj} {R : V → List Obj → Prop} (hn : args.length ≤ 50) (h : codeX Tryz.prog 50 (Tryz.f105.body.getD .skip) (argSlots args) H (retK Tryz.prog [.tmp 5] R)) : Fn Tryz.prog 105 args H R := Fn.ofB Tryz.func105 50 _ rfl rfl rfl (by kernel_rfl) hn h
-- slices.Values[[]int,int]$1
theorem go106 {args : List V} {H : List Obj} {R : V → List Obj → Prop} (hn : args.length ≤ 16) (h : codeX Tryz.prog 16 (Tryz.f106.body.getD .skip) (argSlots args) H (retK Tryz.prog [] R)) : Fn Tryz.prog 106 args H R := Fn.ofB Tryz.func106 16 _ rfl rfl rfl (by kernel_rfl) hn h
-- slices.AppendSeq[[]int,int]
theorem go107 {args : List V} {H : List Obj} {R : V → List Obj → Prop} (hn : args.length ≤ 13) (h : codeX Tryz.prog 13 (Tryz.f107.body.getD .skip) (argSlots args) H (retK Tryz.prog [.tmp 4] R)) : Fn Tryz.prog 107 args H R := Fn.ofB Tryz.func107 13 _ rfl rfl rfl (by kernel_rfl) hn h
-- secateur/dom.all$1
theorem go108 {args : List V} {H : List Obj} {R : V → List Obj → Prop} (hn : args.length ≤ 32) (h : codeX Tryz.prog 32 (Tryz.f108.body.getD .skip) (argSlots args) H (retK Tryz.prog [] R)) : Fn Tryz.prog 108 args H R := Fn.ofB Tryz.func108 32 _ rfl rfl rfl (by kernel_rfl) hn h
-- slices.pdqsortCmpFunc[secateur/api.Range]
theorem go109 {args : List V} {H : List Obj} {R : V → List Obj → Prop} (hn : args.length ≤ 148) (h : codeX Tryz.prog 148 (Tryz.f109.body.getD .skip) (argSlots args) H (retK Tryz.prog [] R)) : Fn Tryz.prog 109 args H R := Fn.ofB Tryz.func109 148 _ rfl rfl rfl (by kernel_rfl) hn h
-- slices.IndexFunc[[]secateur/api.Range,secateur/api.Range]
theorem go110 {args : List V} {H : List Obj} {R : V → List Obj → Prop} (hn : args.length ≤ 19) (h : codeX Tryz.prog 19 (Tryz.f110.body.getD .skip) (argSlots args) H (retK Tryz.prog [.tmp 4] R)) : Fn Tryz.prog 110 args H R := Fn.ofB Tryz.func110 19 _ rfl rfl rfl (by kernel_rfl) hn h
-- secateur/ints.Mul
theorem go111 {args : List V} {H : List Obj} {R : V → List Obj → Prop} (hn : args.length ≤ 37) (h : codeX Tryz.prog 37 (Tryz.f111.body.getD .skip) (argSlots args) H (retK Tryz.prog [.tmp 4, .tmp 5] R)) : Fn Tryz.prog 111 args H R := Fn.ofB Tryz.func111 37 _ rfl rfl rfl (by kernel_rfl) hn h
-- slices.insertionSortOrdered[int]
theorem go112 {args : List V} {H : List Obj} {R : V → List Obj → Prop} (hn : args.length ≤ 49) (h : codeX Tryz.prog 49 (Tryz.f112.body.getD .skip) (argSlots args) H (retK Tryz.prog [] R)) : Fn Tryz.prog 112 args H R := Fn.ofB Tryz.func112 49 _ rfl rfl rfl (by kernel_rfl) hn h
-- slices.heapSortOrdered[int]
theorem go113 {args : List V} {H : List Obj} {R : V → List Obj → Prop} (hn : args.length ≤ 56) (h : codeX Tryz.prog 56 (Tryz.f113.body.getD .skip) (argSlots args) H (retK Tryz.prog [] R)) : Fn Tryz.prog 113 args H R := Fn.ofB Tryz.func113 56 _ rfl rfl rfl (by kernel_rfl) hn h
-- slices.breakPatternsOrdered[int]
theorem go114 {args : List V} {H : List Obj} {R : V → List Obj → Prop} (hn : args.length ≤ 65) (h : codeX Tryz.prog 65 (Tryz.f114.body.getD .skip) (argSlots args) H (retK Tryz.prog [] R)) : Fn Tryz.prog 114 args H R := Fn.ofB Tryz.func114 65 _ rfl rfl rfl (by kernel_rfl) hn h
-- slices.choosePivotOrdered[int]
theorem go115 {args : List V} {H : List Obj} {R : V → List Obj → Prop} (hn : args.length ≤ 57) (h : codeX Tryz.prog 57 (Tryz.f115.body.getD .skip) (argSlots args) H (retK Tryz.prog [.tmp 6, .tmp 7] R)) : Fn Tryz.prog 115 args H R := Fn.ofB Tryz.func115 57 _ rfl rfl rfl (by kernel_rfl) hn h
-- slices.reverseRangeOrdered[int]
theorem go116 {args : List V} {H : List Obj} {R : V → List Obj → Prop} (hn : args.length ≤ 32) (h : codeX Tryz.prog 32 (Tryz.f116.body.getD .skip) (argSlots args) H (retK Tryz.prog [] R)) : Fn Tryz.prog 116 args H R := Fn.ofB Tryz.func116 32 _ rfl rfl rfl (by kernel_rfl) hn h
-- slices.partialInsertionSortOrdered[int]
theorem go117 {args : List V} {H : List Obj} {R : V → List Obj → Prop} (hn : args.length ≤ 133) (h : codeX Tryz.prog 133 (Tryz.f117.body.getD .skip) (argSlots args) H (retK Tryz.prog [.tmp 6] R)) : Fn Tryz.prog 117 args H R := Fn.ofB Tryz.func117 133 _ rfl rfl rfl (by kernel_rfl) hn h
-- cmp.Less[int]
theorem go118 {args : List V} {H : List Obj} {R : V → List Obj → Prop} (hn : args.length ≤ 17) (h : codeX Tryz.prog 17 (Tryz.f118.body.getD .skip) (argSlots args) H (retK Tryz.prog [.tmp 4] R)) : Fn Tryz.prog 118 args H R := Fn.ofB Tryz.func118 17 _ rfl rfl rfl (by kernel_rfl) hn h
-- slices.partitionEqualOrdered[int]
theorem go119 {args : List V} {H : List Obj} {R : V → List Obj → Prop} (hn : args.length ≤ 84) (h : codeX Tryz.prog 84 (Tryz.f119.body.getD .skip) (argSlots args) H (retK Tryz.prog [.tmp 8] R)) : Fn Tryz.prog 119 args H R := Fn.ofB Tryz.func119 84 _ rfl rfl rfl (by kernel_rfl) hn h
-- slices.partitionOrdered[int]
theorem go120 {args : List V} {H : List Obj} {R : V → List Obj → Prop} (hn : args.length ≤ 168) (h : codeX Tryz.prog 168 (Tryz.f120.body.getD .skip) (argSlots args) H (retK Tryz.prog [.tmp 8, .tmp 9] R)) : Fn Tryz.prog 120 args H R := Fn.ofB Tryz.func120 168 _ rfl rfl rfl (by kernel_rfl) hn h
-- math/bits.Len32
theorem go121 {args : List V} {H : List Obj} {R : V → List Obj → Prop} (hn : args.length ≤ 19) (h : codeX Tryz.prog 19 (Tryz.f121.body.getD .skip) (argSlots args) H (retK Tryz.prog [.tmp 2] R)) : Fn Tryz.prog 121 args H R := Fn.ofB Tryz.func121 19 _ rfl rfl rfl (by kernel_rfl) hn h
-- math/bits.Len64
theorem go122 {args : List V} {H : List Obj} {R : V → List Obj → Prop} (hn : args.length ≤ 25) (h : codeX Tryz.prog 25 (Tryz.f122.body.getD .skip) (argSlots args) H (retK Tryz.prog [.tmp 2] R)) : Fn Tryz.prog 122 args H R := Fn.ofB Tryz.func122 25 _ rfl rfl rfl (by kernel_rfl) hn h
-- slices.insertionSortCmpFunc[secateur/api.Range]
theorem go123 {args : List V} {H : List Obj} {R : V → List Obj → Prop} (hn : args.length ≤ 53) (h : codeX Tryz.prog 53 (Tryz.f123.body.getD .skip) (argSlots args) H (retK Tryz.prog [] R)) : Fn Tryz.prog 123 args H R := Fn.ofB Tryz.func123 53 _ rfl rfl rfl (by kernel_rfl) hn h
-- slices.heapSortCmpFunc[secateur/api.Range]
theorem go124 {args : List V} {H : List Obj} {R : V → List Obj → Prop} (hn : args.length ≤ 60) (h : codeX Tryz.prog 60 (Tryz.f124.body.getD .skip) (argSlots args) H (retK Tryz.prog [] R)) : Fn Tryz.prog 124 args H R := Fn.ofB Tryz.func124 60 _ rfl rfl rfl (by kernel_rfl) hn h
-- slices.breakPatternsCmpFunc[secateur/api.Range]
theorem go125 {args : List V} {H : List Obj} {R : V → List Obj → Prop} (hn : args.length ≤ 67) (h : codeX Tryz.prog 67 (Tryz.f125.body.getD .skip) (argSlots args) H (retK Tryz.prog [] R)) : Fn Tryz.prog 125 args H R := Fn.ofB Tryz.func125 67 _ rfl rfl rfl (by kernel_rfl) hn h
-- slices.choosePivotCmpFunc[secateur/api.Range]
theorem go126 {args : List V} {H : List Obj} {R : V → List Obj → Prop} (hn : args.length ≤ 63) (h : codeX Tryz.prog 63 (Tryz.f126.body.getD .skip) (argSlots args) H (retK Tryz.prog [.tmp 8, .tmp 9] R)) : Fn Tryz.prog 126 args H R := Fn.ofB Tryz.func126 63 _ rfl rfl rfl (by kernel_rfl) hn h
-- slices.reverseRangeCmpFunc[secateur/api.Range]
theorem go127 {args : List V} {H : List Obj} {R : V → List Obj → Prop} (hn : args.length ≤ 34) (h : codeX Tryz.prog 34 (Tryz.f127.body.getD .skip) (argSlots args) H (retK Tryz.prog [] R)) : Fn Tryz.prog 127 args H R := Fn.ofB Tryz.func127 34 _ rfl rfl rfl (by kernel_rfl) hn h
-- slices.partialInsertionSortCmpFunc[secateur/api.Range]
theorem go128 {args : List V} {H : List Obj} {R : V → List Obj → Prop} (hn : args.length ≤ 141) (h : codeX Tryz.prog 141 (Tryz.f128.body.getD .skip) (argSlots args) H (retK Tryz.prog [.tmp 8] R)) : Fn Tryz.prog 128 args H R := Fn.ofB Tryz.func128 141 _ rfl rfl rfl (by kernel_rfl) hn h
-- slices.partitionEqualCmpFunc[secateur/api.Range]
theorem go129 {args : List V} {H : List Obj} {R : V → List Obj → Prop} (hn : args.length ≤ 90) (h : codeX Tryz.prog 90 (Tryz.f129.body.getD .skip) (argSlots args) H (retK Tryz.prog [.tmp 10] R)) : Fn Tryz.prog 129 args H R := Fn.ofB Tryz.func129 90 _ rfl rfl rfl (by kernel_rfl) hn h
-- slices.partitionCmpFunc[secateur/api.Range]
theorem go130 {args : List V} {H : List Obj} {R : V → List Obj → Prop} (hn : args.length ≤ 178) (h : codeX Tryz.prog 178 (Tryz.f130.body.getD .skip) (argSlots args) H (retK Tryz.prog [.tmp 10, .tmp 11] R)) : Fn Tryz.prog 130 args H R := Fn.ofB Tryz.func130 178 _ rfl rfl rfl (by kernel_rfl) hn h
-- secateur/ints.small
theorem go131 {args : List V} {H : List Obj} {R : V → List Obj → Prop} (hn : args.length ≤ 18) (h : codeX Tryz.prog 18 (Tryz.f131.body.getD .skip) (argSlots args) H (retK Tryz.prog [.tmp 2] R)) : Fn Tryz.prog 131 args H R := Fn.ofB Tryz.func131 18 _ rfl rfl rfl (by kernel_rfl) hn h
-- math/bits.Mul64
theorem go132 {args : List V} {H : List Obj} {R : V → List Obj → Prop} (hn : args.length ≤ 51) (h : codeX Tryz.prog 51 (Tryz.f132.body.getD .skip) (argSlots args) H (retK Tryz.prog [.tmp 4, .tmp 5] R)) : Fn Tryz.prog 132 args H R := Fn.ofB Tryz.func132 51 _ rfl rfl rfl (by kernel_rfl) hn h
-- secateur/ints.size
theorem go133 {args : List V} {H : List Obj} {R : V → List Obj → Prop} (hn : args.length ≤ 10) (h : codeX Tryz.prog 10 (Tryz.f133.body.getD .skip) (argSlots args) H (retK Tryz.prog [.tmp 2] R)) : Fn Tryz.prog 133 args H R := Fn.ofB Tryz.func133 10 _ rfl rfl rfl (by kernel_rfl) hn h
-- slices.siftDownOrdered[int]
theorem go134 {args : List V} {H : List Obj} {R : V → List Obj → Prop} (hn : args.length ≤ 76) (h : codeX Tryz.prog 76 (Tryz.f134.body.getD .skip) (argSlots args) H (retK Tryz.prog [] R)) : Fn Tryz.prog 134 args H R := Fn.ofB Tryz.func134 76 _ rfl rfl rfl (by kernel_rfl) hn h
-- slices.nextPowerOfTwo
theorem go135 {args : List V} {H : List Obj} {R : V → List Obj → Prop} (hn : args.length ≤ 7) (h : codeX Tryz.prog 7 (Tryz.f135.body.getD .skip) (argSlots args) H (retK Tryz.prog [.tmp 2] R)) : Fn Tryz.prog 135 args H R := Fn.ofB Tryz.func135 7 _ rfl rfl rfl (by kernel_rfl) hn h
-- (*slices.xorshift).Next
theorem go136 {args : List V} {H : List Obj} {R : V → List Obj → Prop} (hn : args.length ≤ 33) (h : codeX Tryz.prog 33 (Tryz.f136.body.getD .skip) (argSlots args) H (retK Tryz.prog [.tmp 2] R)) : Fn Tryz.prog 136 args H R := Fn.ofB Tryz.func136 33 _ rfl rfl rfl (by kernel_rfl) hn h
-- slices.medianAdjacentOrdered[int]
theorem go137 {args : List V} {H : List Obj} {R : V → List Obj → Prop} (hn : args.length ≤ 15) (h : codeX Tryz.prog 15 (Tryz.f137.body.getD .skip) (argSlots args) H (retK Tryz.prog [.tmp 6] R)) : Fn Tryz.prog 137 args H R := Fn.ofB Tryz.func137 15 _ rfl rfl rfl (by kernel_rfl) hn h
-- slices.medianOrdered[int]
theorem go138 {args : List V} {H : List Obj} {R : V → List Obj → Prop} (hn : args.length ≤ 36) (h : codeX Tryz.prog 36 (Tryz.f138.body.getD .skip) (argSlots args) H (retK Tryz.prog [.tmp 10] R)) : Fn Tryz.prog 138 args H R := Fn.ofB Tryz.func138 36 _ rfl rfl rfl (by kernel_rfl) hn h
-- cmp.isNaN[int]
theorem go139 {args : List V} {H : List Obj} {R : V → List Obj → Prop} (hn : args.length ≤ 6) (h : codeX Tryz.prog 6 (Tryz.f139.body.getD .skip) (argSlots args) H (retK Tryz.prog [.tmp 2] R)) : Fn Tryz.prog 139 args H R := Fn.ofB Tryz.func139 6 _ rfl rfl rfl (by kernel_rfl) hn h
-- slices.siftDownCmpFunc[secateur/api.Range]
theorem go140 {args : List V} {H : List Obj} {R : V → List Obj → Prop} (hn : args.length ≤ 82) (h : codeX Tryz.prog 82 (Tryz.f140.body.getD .skip) (argSlots args) H (retK Tryz.prog [] R)) : Fn Tryz.prog 140 args H R := Fn.ofB Tryz.func140 82 _ rfl rfl rfl (by kernel_rfl) hn h
-- slices.medianAdjacentCmpFunc[secateur/api.Range]
theorem go141 {args : List V} {H : List Obj} {R : V → List Obj → Prop} (hn : args.length ≤ 18) (h : codeX Tryz.prog 18 (Tryz.f141.body.getD .skip) (argSlots args) H (retK Tryz.prog [.tmp 8] R)) : Fn Tryz.prog 141 args H R := Fn.ofB Tryz.func141 18 _ rfl rfl rfl (by kernel_rfl) hn h
-- slices.medianCmpFunc[secateur/api.Range]
theorem go142 {args : List V} {H : List Obj} {R : V → List Obj → Prop} (hn : args.length ≤ 41) (h : codeX Tryz.prog 41 (Tryz.f142.body.getD .skip) (argSlots args) H (retK Tryz.prog [.tmp 12] R)) : Fn Tryz.prog 142 args H R := Fn.ofB Tryz.func142 41 _ rfl rfl rfl (by kernel_rfl) hn h
-- slices.order2Ordered[int]
theorem go143 {args : List V} {H : List Obj} {R : V → List Obj → Prop} (hn : args.length ≤ 28) (h : codeX Tryz.prog 28 (Tryz.f143.body.getD .skip) (argSlots args) H (retK Tryz.prog [.tmp 8, .tmp 9] R)) : Fn Tryz.prog 143 args H R := Fn.ofB Tryz.func143 28 _ rfl rfl rfl (by kernel_rfl) hn h
-- slices.order2CmpFunc[secateur/api.Range]
theorem go144 {args : List V} {H : List Obj} {R : V → List Obj → Prop} (hn : args.length ≤ 32) (h : codeX Tryz.prog 32 (Tryz.f144.body.getD .skip) (argSlots args) H (retK Tryz.prog [.tmp 10, .tmp 11] R)) : Fn Tryz.prog 144 args H R := Fn.ofB Tryz.func144 32 _ rfl rfl rfl (by kernel_rfl) hn h

end Go.TL
