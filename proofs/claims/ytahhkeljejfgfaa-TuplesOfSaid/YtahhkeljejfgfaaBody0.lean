/- the functions as conditions (by program) -/
import Derived.Test.YtahhkeljejfgfaaNames
namespace Go.Proofs.Ytahhkeljejfgfaa
open Go Go.Vc Go.Proofs Go.Proofs.Try
set_option maxRecDepth 100000
set_option linter.unusedVariables false

/-- pennyweight/pennyweightlaw24.ScriptReads -/
def law24_ScriptReads.body (p : Value) (w : World) (Q : Value → World → Prop) : Prop :=
  Cal prog F.law24_awake [] w fun t7 w1 =>
  RunQ prog (Op.unary .not t7) w1 fun t8 =>
  Split t8 (Q (.bool false) w1)
   (RunQ prog (Builtin.len_ #[T.t_sl_uint8] T.t_int #[p]) w1 fun t11 =>
  RunQ prog (Builtin.min_ #[T.t_int, T.t_int] T.t_int #[t11, (.int .i64 200)]) w1 fun t12 =>
  RunQ prog (Instr.sliceAt T.t_sl_uint8 p none (some t12) none) w1 fun t13 =>
  Cal prog F.slices_Clone_byte_byte [t13] w1 fun t14 w2 =>
  Cal prog F.slices_Clone_byte_byte [t14] w2 fun t16 w3 =>
  Cal prog F.script_Read [t16] w3 fun t18 w4 =>
  Cal prog F.ref24_Read [t14] w4 fun t20 w5 =>
  JoinC (α := Value → World → Prop) (fun (t31 : Value) (w6 : World) =>
    Split t31 (Q (.bool false) w6)
     (RunQ prog (Builtin.len_ #[T.t_sl_script_Op] T.t_int #[t18]) w6 fun t33 =>
  Loop2 (.bool false) (.int .i64 0) w6 fun t2 t34 w7 k =>
    RunQ prog (binS .lss T.t_int false false t34 t33) w7 fun t35 =>
    Split t35 (Drew w7 fun w8 =>
    RunQ prog (Instr.indexAt T.t_sl_script_Op t18 t34) w8 fun t39 =>
    RunQ prog (Instr.loadAt T.t_script_Op t39) w8 fun t40 =>
    RunQ prog (Instr.indexAt T.t_sl_ref24_Op t20 t34) w8 fun t43 =>
    RunQ prog (Instr.loadAt T.t_ref24_Op t43) w8 fun t44 =>
    RunQ prog (binS .neq T.t_ref24_Op false false t40 t44) w8 fun t45 =>
    Split t45 (Q (.bool false) w8)
     (RunQ prog (binS .add T.t_int false true t34 (.int .i64 1)) w8 fun t46 =>
    k t2 t46 w8))
     (Q (.bool true) w7))) fun J =>
  RunQ prog (Builtin.len_ #[T.t_sl_script_Op] T.t_int #[t18]) w5 fun t22 =>
  RunQ prog (Builtin.len_ #[T.t_sl_ref24_Op] T.t_int #[t20]) w5 fun t24 =>
  RunQ prog (binS .neq T.t_int false false t22 t24) w5 fun t25 =>
  Split t25 (J (.bool true) w5)
   (Cal prog F.slices_Equal_byte_byte [t16, t14] w5 fun t29 w9 =>
  RunQ prog (Op.unary .not t29) w9 fun t30 =>
  J t30 w9))

theorem law24_ScriptReads.enter {p : Value} {w : World} {Q : Value → World → Prop} (h : law24_ScriptReads.body p w Q) : Cal prog F.law24_ScriptReads [p] w Q :=
  Cal.enter' (P := prog) mixed (show prog.funcs[F.law24_ScriptReads]? = some Try.f3 from Try.func3) rfl (by kernel_rfl) (by kernel_rfl) (by kernel_rfl) (by kernel_rfl) (Eq.mp (by kernel_rfl) h)

/-- pennyweight/pennyweightlaw05.TuplesPlays -/
def law05_TuplesPlays.body (l k other acts : Value) (w : World) (Q : Value → World → Prop) : Prop :=
  Cal prog F.law05_awake [] w fun t23 w1 =>
  RunQ prog (Op.unary .not t23) w1 fun t24 =>
  Split t24 (Q (.bool false) w1)
   (Cal prog F.ref03_Small [l] w1 fun t26 w2 =>
  RunQ prog (binS .rem T.t_uint16 false true k (.int .u16 200)) w2 fun t28 =>
  RunQ prog (convert T.t_uint16 T.t_int64 t28) w2 fun t29 =>
  RunQ prog (binS .add T.t_int64 true false (.int .i64 1) t29) w2 fun t30 =>
  RunQ prog (convert T.t_uint16 T.t_int64 other) w2 fun t32 =>
  RunQ prog (binS .add T.t_int64 false true t30 (.int .i64 1)) w2 fun t34 =>
  RunQ prog (binS .rem T.t_int64 false false t32 t34) w2 fun t35 =>
  Cal prog F.tuples_New [t26, t30, t35] w2 fun t40 w3 =>
  RunQ prog (Instr.extract t40 0) w3 fun t41 =>
  RunQ prog (Instr.extract t40 1) w3 fun t42 =>
  RunQ prog (binS .neq T.t_api_Errno false true t42 (.int .i64 0)) w3 fun t44 =>
  Split t44 (Q (.bool false) w3)
   (RunQ prog (Instr.build T.t_ref04_Table #[(0, t26), (1, t30)]) w3 fun t47 =>
  RunC prog (Instr.alloc T.t_ref04_Table true (.tuple #[])) w3 fun x w4 =>
  RunC prog (Instr.storeAt T.t_ref04_Table x t47) w4 fun (_ : Unit) w5 =>
  Cal prog F.ref03_Count [t26] w5 fun t49 w6 =>
  Loop1 (.int .i64 0) w6 fun t50 w7 k_1 =>
    RunQ prog (binS .lss T.t_int false false t50 t49) w7 fun t51 =>
    Split t51 (RunQ prog (Instr.fieldAt T.t_ref04_Table x 2) w7 fun t52 =>
    RunQ prog (Instr.loadAt T.t_sl_int64 t52) w7 fun t53 =>
    RunC prog (Instr.buildSlice T.t_sl_int64 1 #[(0, t35)]) w7 fun t55 w8 =>
    RunC prog (Builtin.append_ #[T.t_sl_int64, T.t_sl_int64] T.t_sl_int64 #[t53, t55]) w8 fun t56 w9 =>
    RunQ prog (Instr.fieldAt T.t_ref04_Table x 2) w9 fun t57 =>
    RunC prog (Instr.storeAt T.t_sl_int64 t57 t56) w9 fun (_ : Unit) w10 =>
    RunQ prog (binS .add T.t_int false true t50 (.int .i64 1)) w10 fun t58 =>
    k_1 t58 w10)
     (JoinC (α := Value → World → Prop) (fun (t8 : Value) (w11 : World) =>
    RunQ prog (Instr.loadAt T.t_ref04_Table x) w11 fun t132 =>
    Cal prog F.law05_like [t41, t132, t35] w11 fun t134 w12 =>
    Q t134 w12) fun J =>
  RunQ prog (Builtin.len_ #[T.t_sl_law05_Act] T.t_int #[acts]) w7 fun t60 =>
  Loop2 (.bool false) (.int .i64 0) w7 fun t8_1 t61 w13 k_2 =>
    RunQ prog (binS .lss T.t_int false false t61 t60) w13 fun t62 =>
    Split t62 (RunQ prog (Instr.indexAt T.t_sl_law05_Act acts t61) w13 fun t64 =>
    RunQ prog (Instr.loadAt T.t_law05_Act t64) w13 fun t65 =>
    RunC prog (Instr.alloc T.t_law05_Act true (.tuple #[])) w13 fun a w14 =>
    RunC prog (Instr.storeAt T.t_law05_Act a t65) w14 fun (_ : Unit) w15 =>
    RunQ prog (binS .geq T.t_int false true t61 (.int .i64 30)) w15 fun t67 =>
    Split t67 (J t8_1 w15)
     (RunQ prog (Instr.fieldAt T.t_law05_Act a 0) w15 fun t68 =>
    RunQ prog (Instr.loadAt T.t_sl_int t68) w15 fun t69 =>
    RunQ prog (Instr.fieldAt T.t_law05_Act a 0) w15 fun t70 =>
    RunQ prog (Instr.loadAt T.t_sl_int t70) w15 fun t71 =>
    RunQ prog (Builtin.len_ #[T.t_sl_int] T.t_int #[t71]) w15 fun t72 =>
    RunQ prog (Builtin.min_ #[T.t_int, T.t_int] T.t_int #[t72, (.int .i64 5)]) w15 fun t73 =>
    RunQ prog (Instr.sliceAt T.t_sl_int t69 none (some t73) none) w15 fun t74 =>
    Cal prog F.slices_Clone_int_int [t74] w15 fun t75 w16 =>
    Cal prog F.ref03_Index [t26, t75] w16 fun t78 w17 =>
    JoinC (α := Value → World → Prop) (fun (ok : Value) (w18 : World) =>
      RunQ prog (Instr.fieldAt T.t_law05_Act a 1) w18 fun t89 =>
      RunQ prog (Instr.loadAt T.t_int64 t89) w18 fun t90 =>
      Cal prog F.P_tuples_Tuples_Put [t41, t75, t90] w18 fun t91 w19 =>
      JoinC (α := Value → World → Prop) (fun (t103 : Value) (w20 : World) =>
        Split t103 (Q (.bool false) w20)
         (JoinC (α := World → Prop) (fun (w21 : World) =>
        Cal prog F.P_tuples_Tuples_Get [t41, t75] w21 fun t114 w22 =>
        RunQ prog (Instr.extract t114 0) w22 fun t115 =>
        RunQ prog (Instr.extract t114 1) w22 fun t116 =>
        JoinC (α := Value → World → Prop) (fun (t129 : Value) (w23 : World) =>
          Split t129 (Q (.bool false) w23)
           (RunQ prog (binS .add T.t_int false true t61 (.int .i64 1)) w23 fun t130 =>
    k_2 t8_1 t130 w23)) fun J_4 =>
        RunQ prog (binS .eql T.t_api_Errno false true t116 (.int .i64 0)) w22 fun t118 =>
        RunQ prog (binS .geq T.t_int false true t78 (.int .i64 0)) w22 fun t120 =>
        RunQ prog (binS .neq T.t_bool false false t118 t120) w22 fun t121 =>
        Split t121 (J_4 (.bool true) w22)
         (RunQ prog (binS .lss T.t_int false true t78 (.int .i64 0)) w22 fun t124 =>
        Split t124 (RunQ prog (binS .neq T.t_api_Errno false true t116 (.int .i64 3)) w22 fun t127 =>
        J_4 t127 w22)
         (J_4 (.bool false) w22))) fun J_3 =>
      Split ok (RunQ prog (Instr.fieldAt T.t_ref04_Table x 2) w20 fun t105 =>
       RunQ prog (Instr.loadAt T.t_sl_int64 t105) w20 fun t106 =>
       RunQ prog (Instr.fieldAt T.t_law05_Act a 1) w20 fun t108 =>
       RunQ prog (Instr.loadAt T.t_int64 t108) w20 fun t109 =>
       RunQ prog (Instr.indexAt T.t_sl_int64 t106 t78) w20 fun t110 =>
       RunC prog (Instr.storeAt T.t_int64 t110 t109) w20 fun (_ : Unit) w24 =>
       J_3 w24)
       (J_3 w20))) fun J_2 =>
      RunQ prog (binS .eql T.t_api_Errno false true t91 (.int .i64 0)) w19 fun t93 =>
      RunQ prog (binS .neq T.t_bool false false t93 ok) w19 fun t95 =>
      Split t95 (J_2 (.bool true) w19)
       (RunQ prog (Op.unary .not ok) w19 fun t98 =>
      Split t98 (RunQ prog (binS .neq T.t_api_Errno false true t91 (.int .i64 3)) w19 fun t101 =>
      J_2 t101 w19)
       (J_2 (.bool false) w19))) fun J_1 =>
    RunQ prog (binS .geq T.t_int false true t78 (.int .i64 0)) w17 fun t80 =>
    Split t80 (RunQ prog (Instr.fieldAt T.t_law05_Act a 1) w17 fun t82 =>
     RunQ prog (Instr.loadAt T.t_int64 t82) w17 fun t83 =>
    Cal prog F.ref01_In [t83, t30] w17 fun t85 w25 =>
    J_1 t85 w25)
     (J_1 (.bool false) w17)))
     (J t8_1 w13))))

theorem law05_TuplesPlays.enter {l k other acts : Value} {w : World} {Q : Value → World → Prop} (h : law05_TuplesPlays.body l k other acts w Q) : Cal prog F.law05_TuplesPlays [l, k, other, acts] w Q :=
  Cal.enter' (P := prog) mixed (show prog.funcs[F.law05_TuplesPlays]? = some Try.f4 from Try.func4) rfl (by kernel_rfl) (by kernel_rfl) (by kernel_rfl) (by kernel_rfl) (Eq.mp (by kernel_rfl) h)

/-- pennyweight/pennyweightlaw05.TuplesSame -/
def law05_TuplesSame.body (l m k c d o p same : Value) (w : World) (Q : Value → World → Prop) : Prop :=
  Cal prog F.law05_awake [] w fun t29 w1 =>
  RunQ prog (Op.unary .not t29) w1 fun t30 =>
  Split t30 (Q (.bool false) w1)
   (JoinC (α := Value → Value → World → Prop) (fun (m_1 d_1 : Value) (w2 : World) =>
    RunQ prog (binS .rem T.t_uint16 false true k (.int .u16 6)) w2 fun t35 =>
    RunQ prog (convert T.t_uint16 T.t_int64 t35) w2 fun t36 =>
    RunQ prog (binS .add T.t_int64 true false (.int .i64 1) t36) w2 fun t37 =>
    Cal prog F.ref03_Small [l] w2 fun t39 w3 =>
    Cal prog F.ref04_Make [t39, t37, c] w3 fun t42 w4 =>
    Cal prog F.ref03_Small [m_1] w4 fun t44 w5 =>
    Cal prog F.ref04_Make [t44, t37, d_1] w5 fun t47 w6 =>
    RunC prog (Instr.alloc T.t_ref04_Table true (.tuple #[])) w6 fun x w7 =>
    RunC prog (Instr.alloc T.t_ref04_Table true (.tuple #[])) w7 fun y w8 =>
    RunC prog (Instr.storeAt T.t_ref04_Table x t42) w8 fun (_ : Unit) w9 =>
    RunC prog (Instr.storeAt T.t_ref04_Table y t47) w9 fun (_ : Unit) w10 =>
    Drew w10 fun w11 =>
    RunQ prog (Instr.fieldAt T.t_ref04_Table x 0) w11 fun t49 =>
    RunQ prog (Instr.loadAt T.t_sl_int t49) w11 fun t50 =>
    RunQ prog (convert T.t_uint16 T.t_int64 o) w11 fun t53 =>
    RunQ prog (binS .add T.t_int64 false true t37 (.int .i64 1)) w11 fun t55 =>
    RunQ prog (binS .rem T.t_int64 false false t53 t55) w11 fun t56 =>
    Cal prog F.tuples_New [t50, t37, t56] w11 fun t57 w12 =>
     RunQ prog (Instr.extract t57 0) w12 fun t58 =>
     RunQ prog (Instr.extract t57 1) w12 fun t59 =>
     Drew w12 fun w13 =>
    RunQ prog (Instr.fieldAt T.t_ref04_Table y 0) w13 fun t61 =>
    RunQ prog (Instr.loadAt T.t_sl_int t61) w13 fun t62 =>
    RunQ prog (convert T.t_uint16 T.t_int64 p) w13 fun t65 =>
    RunQ prog (binS .add T.t_int64 false true t37 (.int .i64 1)) w13 fun t67 =>
    RunQ prog (binS .rem T.t_int64 false false t65 t67) w13 fun t68 =>
    Cal prog F.tuples_New [t62, t37, t68] w13 fun t69 w14 =>
     RunQ prog (Instr.extract t69 0) w14 fun t70 =>
     RunQ prog (Instr.extract t69 1) w14 fun t71 =>
     RunQ prog (Instr.fieldAt T.t_ref04_Table x 0) w14 fun t72 =>
    RunQ prog (Instr.loadAt T.t_sl_int t72) w14 fun t73 =>
    Cal prog F.ref03_All [t73] w14 fun t74 w15 =>
    RunQ prog (Builtin.len_ #[T.t_sl_sl_int] T.t_int #[t74]) w15 fun t75 =>
    Loop1 (.int .i64 0) w15 fun t76 w16 k_1 =>
      RunQ prog (binS .lss T.t_int false false t76 t75) w16 fun t77 =>
      Split t77 (RunQ prog (Instr.indexAt T.t_sl_sl_int t74 t76) w16 fun t79 =>
      RunQ prog (Instr.loadAt T.t_sl_int t79) w16 fun t80 =>
      RunQ prog (Instr.fieldAt T.t_ref04_Table x 2) w16 fun t83 =>
      RunQ prog (Instr.loadAt T.t_sl_int64 t83) w16 fun t84 =>
      RunQ prog (Instr.indexAt T.t_sl_int64 t84 t76) w16 fun t86 =>
      RunQ prog (Instr.loadAt T.t_int64 t86) w16 fun t87 =>
      Cal prog F.P_tuples_Tuples_Put [t58, t80, t87] w16 fun t88 w17 =>
      RunQ prog (binS .add T.t_int false true t76 (.int .i64 1)) w17 fun t89 =>
      k_1 t89 w17)
       (RunQ prog (Instr.fieldAt T.t_ref04_Table y 0) w16 fun t90 =>
    RunQ prog (Instr.loadAt T.t_sl_int t90) w16 fun t91 =>
    Cal prog F.ref03_All [t91] w16 fun t92 w18 =>
    RunQ prog (Builtin.len_ #[T.t_sl_sl_int] T.t_int #[t92]) w18 fun t93 =>
    Loop1 (.int .i64 0) w18 fun t94 w19 k_2 =>
      RunQ prog (binS .lss T.t_int false false t94 t93) w19 fun t95 =>
      Split t95 (RunQ prog (Instr.indexAt T.t_sl_sl_int t92 t94) w19 fun t97 =>
      RunQ prog (Instr.loadAt T.t_sl_int t97) w19 fun t98 =>
      RunQ prog (Instr.fieldAt T.t_ref04_Table y 2) w19 fun t101 =>
      RunQ prog (Instr.loadAt T.t_sl_int64 t101) w19 fun t102 =>
      RunQ prog (Instr.indexAt T.t_sl_int64 t102 t94) w19 fun t104 =>
      RunQ prog (Instr.loadAt T.t_int64 t104) w19 fun t105 =>
      Cal prog F.P_tuples_Tuples_Put [t70, t98, t105] w19 fun t106 w20 =>
      RunQ prog (binS .add T.t_int false true t94 (.int .i64 1)) w20 fun t107 =>
      k_2 t107 w20)
       (JoinC (α := Value → World → Prop) (fun (want : Value) (w21 : World) =>
      JoinC (α := Value → World → Prop) (fun (t16 : Value) (w22 : World) =>
        Q t16 w22) fun J_2 =>
      Drew w21 fun w23 =>
      Cal prog F.tuples_Same [t58, t70] w23 fun t122 w24 =>
       RunQ prog (binS .eql T.t_bool false false t122 want) w24 fun t124 =>
       Split t124 (Cal prog F.tuples_Same [t70, t58] w24 fun t128 w25 =>
        RunQ prog (binS .eql T.t_bool false false t128 want) w25 fun t130 =>
        Split t130 (RunQ prog (Instr.loadAt T.t_ref04_Table x) w25 fun t134 =>
        RunQ prog (convert T.t_uint16 T.t_int64 o) w25 fun t136 =>
        RunQ prog (binS .add T.t_int64 false true t37 (.int .i64 1)) w25 fun t138 =>
        RunQ prog (binS .rem T.t_int64 false false t136 t138) w25 fun t139 =>
        Cal prog F.law05_like [t58, t134, t139] w25 fun t140 w26 =>
         J_2 t140 w26)
         (J_2 (.bool false) w25))
        (J_2 (.bool false) w24)) fun J_1 =>
    RunQ prog (Instr.fieldAt T.t_ref04_Table x 0) w19 fun t108 =>
    RunQ prog (Instr.loadAt T.t_sl_int t108) w19 fun t109 =>
    RunQ prog (Instr.fieldAt T.t_ref04_Table y 0) w19 fun t110 =>
    RunQ prog (Instr.loadAt T.t_sl_int t110) w19 fun t111 =>
    Cal prog F.slices_Equal_int_int [t109, t111] w19 fun t112 w27 =>
    Split t112 (RunQ prog (Instr.fieldAt T.t_ref04_Table x 2) w27 fun t114 =>
     RunQ prog (Instr.loadAt T.t_sl_int64 t114) w27 fun t115 =>
    RunQ prog (Instr.fieldAt T.t_ref04_Table y 2) w27 fun t116 =>
    RunQ prog (Instr.loadAt T.t_sl_int64 t116) w27 fun t117 =>
    Cal prog F.slices_Equal_int64_int64 [t115, t117] w27 fun t118 w28 =>
    J_1 t118 w28)
     (J_1 (.bool false) w27)))) fun J =>
  Split same (J l c w1)
   (J m d w1))

theorem law05_TuplesSame.enter {l m k c d o p same : Value} {w : World} {Q : Value → World → Prop} (h : law05_TuplesSame.body l m k c d o p same w Q) : Cal prog F.law05_TuplesSame [l, m, k, c, d, o, p, same] w Q :=
  Cal.enter' (P := prog) mixed (show prog.funcs[F.law05_TuplesSame]? = some Try.f5 from Try.func5) rfl (by kernel_rfl) (by kernel_rfl) (by kernel_rfl) (by kernel_rfl) (Eq.mp (by kernel_rfl) h)

/-- pennyweight/pennyweightlaw05.TuplesOrder -/
def law05_TuplesOrder.body (l k c order : Value) (w : World) (Q : Value → World → Prop) : Prop :=
  Cal prog F.law05_awake [] w fun t23 w1 =>
  RunQ prog (Op.unary .not t23) w1 fun t24 =>
  Split t24 (Q (.bool false) w1)
   (Cal prog F.ref03_Small [l] w1 fun t26 w2 =>
  RunQ prog (binS .rem T.t_uint16 false true k (.int .u16 30)) w2 fun t28 =>
  RunQ prog (convert T.t_uint16 T.t_int64 t28) w2 fun t29 =>
  RunQ prog (binS .add T.t_int64 true false (.int .i64 1) t29) w2 fun t30 =>
  Cal prog F.ref04_Make [t26, t30, c] w2 fun t32 w3 =>
  RunC prog (Instr.alloc T.t_ref04_Table true (.tuple #[])) w3 fun x w4 =>
  RunC prog (Instr.storeAt T.t_ref04_Table x t32) w4 fun (_ : Unit) w5 =>
  RunQ prog (Instr.fieldAt T.t_ref04_Table x 0) w5 fun t34 =>
  RunQ prog (Instr.loadAt T.t_sl_int t34) w5 fun t35 =>
  RunQ prog (Instr.fieldAt T.t_ref04_Table x 1) w5 fun t36 =>
  RunQ prog (Instr.loadAt T.t_int64 t36) w5 fun t37 =>
  Cal prog F.tuples_New [t35, t37, (.int .i64 0)] w5 fun t38 w6 =>
  RunQ prog (Instr.extract t38 0) w6 fun t39 =>
  RunQ prog (Instr.extract t38 1) w6 fun t40 =>
  RunQ prog (Instr.fieldAt T.t_ref04_Table x 0) w6 fun t42 =>
  RunQ prog (Instr.loadAt T.t_sl_int t42) w6 fun t43 =>
  RunQ prog (Instr.fieldAt T.t_ref04_Table x 1) w6 fun t44 =>
  RunQ prog (Instr.loadAt T.t_int64 t44) w6 fun t45 =>
  RunQ prog (Instr.fieldAt T.t_ref04_Table x 1) w6 fun t46 =>
  RunQ prog (Instr.loadAt T.t_int64 t46) w6 fun t47 =>
  Cal prog F.tuples_New [t43, t45, t47] w6 fun t48 w7 =>
  RunQ prog (Instr.extract t48 0) w7 fun t49 =>
  RunQ prog (Instr.extract t48 1) w7 fun t50 =>
  RunQ prog (Instr.fieldAt T.t_ref04_Table x 0) w7 fun t51 =>
  RunQ prog (Instr.loadAt T.t_sl_int t51) w7 fun t52 =>
  Cal prog F.ref03_All [t52] w7 fun t53 w8 =>
  RunQ prog (Builtin.len_ #[T.t_sl_sl_int] T.t_int #[t53]) w8 fun t55 =>
  RunC prog (Instr.makeSlice T.t_sl_int t55 t55) w8 fun t56 w9 =>
  RunQ prog (Builtin.len_ #[T.t_sl_int] T.t_int #[t56]) w9 fun t58 =>
  Loop1 (.int .i64 0) w9 fun t59 w10 k_1 =>
    RunQ prog (binS .lss T.t_int false false t59 t58) w10 fun t60 =>
    Split t60 (RunQ prog (Instr.indexAt T.t_sl_int t56 t59) w10 fun t65 =>
    RunC prog (Instr.storeAt T.t_int t65 t59) w10 fun (_ : Unit) w11 =>
    RunQ prog (binS .add T.t_int false true t59 (.int .i64 1)) w11 fun t66 =>
    k_1 t66 w11)
     (RunQ prog (Builtin.len_ #[T.t_sl_int] T.t_int #[t56]) w10 fun t68 =>
  Loop1 (.int .i64 0) w10 fun t69 w12 k_2 =>
    RunQ prog (binS .lss T.t_int false false t69 t68) w12 fun t70 =>
    Split t70 (JoinC (α := World → Prop) (fun (w13 : World) =>
      RunQ prog (binS .add T.t_int false true t69 (.int .i64 1)) w13 fun t102 =>
      k_2 t102 w13) fun J =>
    RunQ prog (Builtin.len_ #[T.t_sl_uint8] T.t_int #[order]) w12 fun t74 =>
    RunQ prog (binS .lss T.t_int false false t69 t74) w12 fun t75 =>
    Split t75 (RunQ prog (Instr.indexAt T.t_sl_uint8 order t69) w12 fun t79 =>
     RunQ prog (Instr.loadAt T.t_uint8 t79) w12 fun t80 =>
     RunQ prog (convert T.t_uint8 T.t_int t80) w12 fun t81 =>
     RunQ prog (Builtin.len_ #[T.t_sl_int] T.t_int #[t56]) w12 fun t83 =>
     RunQ prog (binS .sub T.t_int false false t83 t69) w12 fun t85 =>
     RunQ prog (binS .rem T.t_int false false t81 t85) w12 fun t86 =>
     RunQ prog (binS .add T.t_int false false t69 t86) w12 fun t87 =>
     Drew w12 fun w14 =>
     RunQ prog (Instr.indexAt T.t_sl_int t56 t87) w14 fun t94 =>
     RunQ prog (Instr.loadAt T.t_int t94) w14 fun t95 =>
     RunQ prog (Instr.indexAt T.t_sl_int t56 t69) w14 fun t98 =>
     RunQ prog (Instr.loadAt T.t_int t98) w14 fun t99 =>
     RunQ prog (Instr.indexAt T.t_sl_int t56 t69) w14 fun t100 =>
     RunC prog (Instr.storeAt T.t_int t100 t95) w14 fun (_ : Unit) w15 =>
      RunQ prog (Instr.indexAt T.t_sl_int t56 t87) w15 fun t101 =>
      RunC prog (Instr.storeAt T.t_int t101 t99) w15 fun (_ : Unit) w16 =>
       J w16)
     (J w12))
     (RunQ prog (Builtin.len_ #[T.t_sl_sl_int] T.t_int #[t53]) w12 fun t104 =>
  Loop1 (.int .i64 0) w12 fun t105 w17 k_3 =>
    RunQ prog (binS .lss T.t_int false false t105 t104) w17 fun t106 =>
    Split t106 (RunQ prog (Instr.indexAt T.t_sl_sl_int t53 t105) w17 fun t108 =>
    RunQ prog (Instr.loadAt T.t_sl_int t108) w17 fun t109 =>
    RunQ prog (Instr.fieldAt T.t_ref04_Table x 2) w17 fun t112 =>
    RunQ prog (Instr.loadAt T.t_sl_int64 t112) w17 fun t113 =>
    RunQ prog (Instr.indexAt T.t_sl_int64 t113 t105) w17 fun t115 =>
    RunQ prog (Instr.loadAt T.t_int64 t115) w17 fun t116 =>
    Cal prog F.P_tuples_Tuples_Put [t39, t109, t116] w17 fun t117 w18 =>
    RunQ prog (binS .add T.t_int false true t105 (.int .i64 1)) w18 fun t118 =>
    k_3 t118 w18)
     (RunQ prog (Builtin.len_ #[T.t_sl_int] T.t_int #[t56]) w17 fun t120 =>
  Loop1 (.int .i64 0) w17 fun t121 w19 k_4 =>
    RunQ prog (binS .lss T.t_int false false t121 t120) w19 fun t122 =>
    Split t122 (RunQ prog (Instr.indexAt T.t_sl_int t56 t121) w19 fun t123 =>
    RunQ prog (Instr.loadAt T.t_int t123) w19 fun t124 =>
    RunQ prog (Instr.indexAt T.t_sl_sl_int t53 t124) w19 fun t128 =>
    RunQ prog (Instr.loadAt T.t_sl_int t128) w19 fun t129 =>
    Cal prog F.P_tuples_Tuples_Put [t49, t129, (.int .i64 0)] w19 fun t130 w20 =>
    Drew w20 fun w21 =>
    RunQ prog (Instr.indexAt T.t_sl_sl_int t53 t124) w21 fun t134 =>
    RunQ prog (Instr.loadAt T.t_sl_int t134) w21 fun t135 =>
    RunQ prog (Instr.fieldAt T.t_ref04_Table x 2) w21 fun t136 =>
    RunQ prog (Instr.loadAt T.t_sl_int64 t136) w21 fun t137 =>
    RunQ prog (Instr.indexAt T.t_sl_int64 t137 t124) w21 fun t139 =>
    RunQ prog (Instr.loadAt T.t_int64 t139) w21 fun t140 =>
    Cal prog F.P_tuples_Tuples_Put [t49, t135, t140] w21 fun t141 w22 =>
     RunQ prog (binS .add T.t_int false true t121 (.int .i64 1)) w22 fun t142 =>
    k_4 t142 w22)
     (JoinC (α := Value → World → Prop) (fun (t8 : Value) (w23 : World) =>
    Q t8 w23) fun J_1 =>
  Cal prog F.tuples_Same [t39, t49] w19 fun t145 w24 =>
  Split t145 (RunQ prog (Instr.loadAt T.t_ref04_Table x) w24 fun t148 =>
  Cal prog F.law05_like [t39, t148, (.int .i64 0)] w24 fun t149 w25 =>
  Split t149 (RunQ prog (Instr.loadAt T.t_ref04_Table x) w25 fun t153 =>
  RunQ prog (Instr.fieldAt T.t_ref04_Table x 1) w25 fun t154 =>
  RunQ prog (Instr.loadAt T.t_int64 t154) w25 fun t155 =>
  Cal prog F.law05_like [t49, t153, t155] w25 fun t156 w26 =>
  J_1 t156 w26)
   (J_1 (.bool false) w25))
   (J_1 (.bool false) w24))))))

theorem law05_TuplesOrder.enter {l k c order : Value} {w : World} {Q : Value → World → Prop} (h : law05_TuplesOrder.body l k c order w Q) : Cal prog F.law05_TuplesOrder [l, k, c, order] w Q :=
  Cal.enter' (P := prog) mixed (show prog.funcs[F.law05_TuplesOrder]? = some Try.f6 from Try.func6) rfl (by kernel_rfl) (by kernel_rfl) (by kernel_rfl) (by kernel_rfl) (Eq.mp (by kernel_rfl) h)

/-- pennyweight/pennyweightlaw05.TuplesOf -/
def law05_TuplesOf.body (l k c : Value) (w : World) (Q : Value → World → Prop) : Prop :=
  Cal prog F.law05_awake [] w fun t15 w1 =>
  RunQ prog (Op.unary .not t15) w1 fun t16 =>
  Split t16 (Q (.bool false) w1)
   (Cal prog F.ref03_Small [l] w1 fun t18 w2 =>
  RunQ prog (binS .rem T.t_uint16 false true k (.int .u16 50)) w2 fun t20 =>
  RunQ prog (convert T.t_uint16 T.t_int64 t20) w2 fun t21 =>
  RunQ prog (binS .add T.t_int64 true false (.int .i64 1) t21) w2 fun t22 =>
  Cal prog F.ref04_Make [t18, t22, c] w2 fun t24 w3 =>
  RunC prog (Instr.alloc T.t_ref04_Table true (.tuple #[])) w3 fun x w4 =>
  RunC prog (Instr.storeAt T.t_ref04_Table x t24) w4 fun (_ : Unit) w5 =>
  RunQ prog (Instr.fieldAt T.t_ref04_Table x 0) w5 fun t26 =>
  RunQ prog (Instr.loadAt T.t_sl_int t26) w5 fun t27 =>
  RunQ prog (Instr.fieldAt T.t_ref04_Table x 1) w5 fun t28 =>
  RunQ prog (Instr.loadAt T.t_int64 t28) w5 fun t29 =>
  Cal prog F.table_New [t27, t29, (.int .i64 0)] w5 fun t30 w6 =>
  RunQ prog (Instr.extract t30 0) w6 fun t31 =>
  RunQ prog (Instr.extract t30 1) w6 fun t32 =>
  RunQ prog (Instr.fieldAt T.t_ref04_Table x 0) w6 fun t33 =>
  RunQ prog (Instr.loadAt T.t_sl_int t33) w6 fun t34 =>
  Cal prog F.ref03_All [t34] w6 fun t35 w7 =>
  RunQ prog (Builtin.len_ #[T.t_sl_sl_int] T.t_int #[t35]) w7 fun t36 =>
  Loop1 (.int .i64 0) w7 fun t37 w8 k_1 =>
    RunQ prog (binS .lss T.t_int false false t37 t36) w8 fun t38 =>
    Split t38 (RunQ prog (Instr.indexAt T.t_sl_sl_int t35 t37) w8 fun t40 =>
    RunQ prog (Instr.loadAt T.t_sl_int t40) w8 fun t41 =>
    RunQ prog (Instr.fieldAt T.t_ref04_Table x 2) w8 fun t44 =>
    RunQ prog (Instr.loadAt T.t_sl_int64 t44) w8 fun t45 =>
    RunQ prog (Instr.indexAt T.t_sl_int64 t45 t37) w8 fun t47 =>
    RunQ prog (Instr.loadAt T.t_int64 t47) w8 fun t48 =>
    Cal prog F.P_table_Table_Put [t31, t41, t48] w8 fun t49 w9 =>
    RunQ prog (binS .add T.t_int false true t37 (.int .i64 1)) w9 fun t50 =>
    k_1 t50 w9)
     (Cal prog F.tuples_Of [t31] w8 fun t52 w10 =>
  Cal prog F.P_tuples_Tuples_Table [t52] w10 fun t55 w11 =>
  RunQ prog (Instr.extract t55 0) w11 fun t56 =>
  RunQ prog (Instr.extract t55 1) w11 fun t57 =>
  JoinC (α := Value → World → Prop) (fun (t6 : Value) (w12 : World) =>
    Q t6 w12) fun J =>
  Drew w11 fun w13 =>
  RunQ prog (Instr.loadAt T.t_ref04_Table x) w13 fun t59 =>
  RunQ prog (Instr.loadAt T.t_ref04_Table x) w13 fun t60 =>
  Cal prog F.ref05_Most [t60] w13 fun t61 w14 =>
   (Ext w13 w14 ∨ Stays prog (Instr.loadAt T.t_ref04_Table x) t59 w14 ∧ True) ∧
  Cal prog F.law05_like [t52, t59, t61] w14 fun t62 w15 =>
    Split t62 (RunQ prog (binS .eql T.t_api_Errno false true t57 (.int .i64 0)) w15 fun t65 =>
    Split t65 (Cal prog F.table_Same [t56, t31] w15 fun t70 w16 =>
     J t70 w16)
     (J (.bool false) w15))
     (J (.bool false) w15)))

theorem law05_TuplesOf.enter {l k c : Value} {w : World} {Q : Value → World → Prop} (h : law05_TuplesOf.body l k c w Q) : Cal prog F.law05_TuplesOf [l, k, c] w Q :=
  Cal.enter' (P := prog) mixed (show prog.funcs[F.law05_TuplesOf]? = some Try.f7 from Try.func7) rfl (by kernel_rfl) (by kernel_rfl) (by kernel_rfl) (by kernel_rfl) (Eq.mp (by kernel_rfl) h)

/-- pennyweight/pennyweightlaw05.TuplesRaw -/
def law05_TuplesRaw.body (sizes k other t c : Value) (w : World) (Q : Value → World → Prop) : Prop :=
  Cal prog F.law05_awake [] w fun t31 w1 =>
  RunQ prog (Op.unary .not t31) w1 fun t32 =>
  Split t32 (Q (.bool false) w1)
   (Drew w1 fun w2 =>
  RunQ prog (Builtin.len_ #[T.t_sl_int] T.t_int #[sizes]) w2 fun t35 =>
  RunQ prog (Builtin.min_ #[T.t_int, T.t_int] T.t_int #[t35, (.int .i64 8)]) w2 fun t36 =>
  RunQ prog (Instr.sliceAt T.t_sl_int sizes none (some t36) none) w2 fun t37 =>
  RunQ prog (Builtin.len_ #[T.t_sl_int] T.t_int #[t]) w2 fun t41 =>
  RunQ prog (Builtin.min_ #[T.t_int, T.t_int] T.t_int #[t41, (.int .i64 8)]) w2 fun t42 =>
  RunQ prog (Instr.sliceAt T.t_sl_int t none (some t42) none) w2 fun t43 =>
  Cal prog F.slices_Clone_int_int [t37] w2 fun t38 w3 =>
   (Ext w2 w3 ∨ Stays prog (Instr.sliceAt T.t_sl_int t none (some t42) none) t43 w3 ∧ Stays prog (Builtin.min_ #[T.t_int, T.t_int] T.t_int #[t41, (.int .i64 8)]) t42 w3 ∧ Stays prog (Builtin.len_ #[T.t_sl_int] T.t_int #[t]) t41 w3 ∧ True) ∧
  Cal prog F.slices_Clone_int_int [t43] w3 fun t44 w4 =>
    Cal prog F.tuples_New [t38, k, other] w4 fun t49 w5 =>
  RunQ prog (Instr.extract t49 0) w5 fun t50 =>
  RunQ prog (Instr.extract t49 1) w5 fun t51 =>
  RunQ prog (Builtin.len_ #[T.t_sl_int] T.t_int #[t38]) w5 fun t53 =>
  RunQ prog (binS .leq T.t_int false true t53 (.int .i64 6)) w5 fun t54 =>
  RunQ prog (Builtin.len_ #[T.t_sl_int] T.t_int #[t38]) w5 fun t56 =>
  Loop3 t54 (.int .i64 1) (.int .i64 0) w5 fun ok count t57 w6 k_1 =>
    RunQ prog (binS .lss T.t_int false false t57 t56) w6 fun t58 =>
    Split t58 (JoinC (α := Value → Value → World → Prop) (fun (ok_1 count_1 : Value) (w7 : World) =>
      RunQ prog (binS .add T.t_int false true t57 (.int .i64 1)) w7 fun t74 =>
      k_1 ok_1 count_1 t74 w7) fun J =>
    RunQ prog (Instr.indexAt T.t_sl_int t38 t57) w6 fun t59 =>
    RunQ prog (Instr.loadAt T.t_int t59) w6 fun t60 =>
    JoinC (α := Value → World → Prop) (fun (ok_2 : Value) (w8 : World) =>
      Split ok_2 (RunQ prog (binS .mul T.t_int false false count t60) w8 fun t73 =>
       J ok_2 t73 w8)
       (J ok_2 count w8)) fun J_1 =>
    Split ok (RunQ prog (binS .geq T.t_int false true t60 (.int .i64 1)) w6 fun t64 =>
    Split t64 (RunQ prog (binS .leq T.t_int false true t60 (.int .i64 32)) w6 fun t68 =>
    J_1 t68 w6)
     (J_1 (.bool false) w6))
     (J_1 (.bool false) w6))
     (JoinC (α := Value → World → Prop) (fun (t82 : Value) (w9 : World) =>
    Split t82 (JoinC (α := Value → World → Prop) (fun (want : Value) (w10 : World) =>
       JoinC (α := Value → World → Prop) (fun (t10 : Value) (w11 : World) =>
         Q t10 w11) fun J_4 =>
       RunQ prog (binS .eql T.t_api_Errno false false t51 want) w10 fun t87 =>
       Split t87 (RunQ prog (binS .eql T.t_p_tuples_Tuples false true t50 (.pointer none)) w10 fun t90 =>
       J_4 t90 w10)
        (J_4 (.bool false) w10)) fun J_3 =>
     RunQ prog (Op.unary .not ok) w9 fun t84 =>
     Split t84 (J_3 (.int .i64 1) w9)
      (J_3 (.int .i64 3) w9))
     (RunQ prog (Builtin.len_ #[T.t_sl_int] T.t_int #[t44]) w9 fun t93 =>
  RunQ prog (Builtin.len_ #[T.t_sl_int] T.t_int #[t38]) w9 fun t95 =>
  RunQ prog (binS .eql T.t_int false false t93 t95) w9 fun t96 =>
  RunQ prog (Builtin.len_ #[T.t_sl_int] T.t_int #[t44]) w9 fun t98 =>
  Loop2 t96 (.int .i64 0) w9 fun inv t99 w12 k_2 =>
    RunQ prog (binS .lss T.t_int false false t99 t98) w12 fun t100 =>
    Split t100 (JoinC (α := Value → World → Prop) (fun (inv_1 : Value) (w13 : World) =>
      RunQ prog (binS .add T.t_int false true t99 (.int .i64 1)) w13 fun t117 =>
      k_2 inv_1 t117 w13) fun J_5 =>
    RunQ prog (Instr.indexAt T.t_sl_int t44 t99) w12 fun t102 =>
    RunQ prog (Instr.loadAt T.t_int t102) w12 fun t103 =>
    Split inv (RunQ prog (binS .geq T.t_int false true t103 (.int .i64 0)) w12 fun t107 =>
    Split t107 (RunQ prog (Instr.indexAt T.t_sl_int t38 t99) w12 fun t113 =>
    RunQ prog (Instr.loadAt T.t_int t113) w12 fun t114 =>
    RunQ prog (binS .lss T.t_int false false t103 t114) w12 fun t115 =>
    J_5 t115 w12)
     (J_5 (.bool false) w12))
     (J_5 (.bool false) w12))
     (Cal prog F.P_tuples_Tuples_Put [t50, t44, c] w12 fun t121 w14 =>
  Cal prog F.P_tuples_Tuples_Get [t50, t44] w14 fun t125 w15 =>
  RunQ prog (Instr.extract t125 0) w15 fun t126 =>
  RunQ prog (Instr.extract t125 1) w15 fun t127 =>
  Cal prog F.P_tuples_Tuples_Table [t50] w15 fun t130 w16 =>
  RunQ prog (Instr.extract t130 0) w16 fun t131 =>
  RunQ prog (Instr.extract t130 1) w16 fun t132 =>
  JoinC (α := Value → World → Prop) (fun (t185 : Value) (w17 : World) =>
    Split t185 (Q (.bool false) w17)
     (Cal prog F.P_tuples_Tuples_Get [(.pointer none), t44] w17 fun t189 w18 =>
  RunQ prog (Instr.extract t189 0) w18 fun t190 =>
  RunQ prog (Instr.extract t189 1) w18 fun t191 =>
  Cal prog F.P_tuples_Tuples_Table [(.pointer none)] w18 fun t194 w19 =>
  RunQ prog (Instr.extract t194 0) w19 fun t195 =>
  RunQ prog (Instr.extract t194 1) w19 fun t196 =>
  JoinC (α := Value → World → Prop) (fun (t10_1 : Value) (w20 : World) =>
    Q t10_1 w20) fun J_7 =>
  RunQ prog (binS .eql T.t_api_Errno false true t51 (.int .i64 0)) w19 fun t198 =>
  Split t198 (Cal prog F.P_tuples_Tuples_Put [(.pointer none), t44, c] w19 fun t203 w21 =>
  RunQ prog (binS .eql T.t_api_Errno false true t203 (.int .i64 2)) w21 fun t204 =>
  Split t204 (RunQ prog (binS .eql T.t_api_Errno false true t191 (.int .i64 2)) w21 fun t208 =>
  Split t208 (RunQ prog (binS .eql T.t_api_Errno false true t196 (.int .i64 2)) w21 fun t212 =>
  Split t212 (Cal prog F.P_tuples_Tuples_Arity [(.pointer none)] w21 fun t216 w22 =>
  Cal prog F.P_tuples_Tuples_Len [(.pointer none)] w22 fun t218 w23 =>
  RunQ prog (binS .add T.t_int false false t216 t218) w23 fun t219 =>
  Cal prog F.P_tuples_Tuples_Lines [(.pointer none)] w23 fun t221 w24 =>
  RunQ prog (Builtin.len_ #[T.t_sl_tuples_Line] T.t_int #[t221]) w24 fun t222 =>
  RunQ prog (binS .add T.t_int false false t219 t222) w24 fun t223 =>
  Cal prog F.P_tuples_Tuples_Sizes [(.pointer none)] w24 fun t225 w25 =>
  RunQ prog (Builtin.len_ #[T.t_sl_int] T.t_int #[t225]) w25 fun t226 =>
  RunQ prog (binS .add T.t_int false false t223 t226) w25 fun t227 =>
  RunQ prog (binS .eql T.t_int false true t227 (.int .i64 0)) w25 fun t228 =>
  Split t228 (Cal prog F.P_tuples_Tuples_K [(.pointer none)] w25 fun t232 w26 =>
  RunQ prog (binS .eql T.t_int64 false true t232 (.int .i64 0)) w26 fun t233 =>
  Split t233 (Cal prog F.P_tuples_Tuples_Other [(.pointer none)] w26 fun t237 w27 =>
  RunQ prog (binS .eql T.t_int64 false true t237 (.int .i64 0)) w27 fun t238 =>
  Split t238 (Cal prog F.tuples_Of [(.pointer none)] w27 fun t241 w28 =>
   RunQ prog (binS .eql T.t_p_tuples_Tuples false true t241 (.pointer none)) w28 fun t242 =>
  Split t242 (Cal prog F.tuples_Same [(.pointer none), (.pointer none)] w28 fun t245 w29 =>
   Split t245 (Cal prog F.tuples_Same [(.pointer none), t50] w29 fun t249 w30 =>
  RunQ prog (Op.unary .not t249) w30 fun t250 =>
  J_7 t250 w30)
   (J_7 (.bool false) w29))
   (J_7 (.bool false) w28))
   (J_7 (.bool false) w27))
   (J_7 (.bool false) w26))
   (J_7 (.bool false) w25))
   (J_7 (.bool false) w21))
   (J_7 (.bool false) w21))
   (J_7 (.bool false) w21))
   (J_7 (.bool false) w19))) fun J_6 =>
  RunQ prog (binS .eql T.t_api_Errno false true t121 (.int .i64 0)) w16 fun t134 =>
  Split inv (Cal prog F.ref01_In [c, k] w16 fun t139 w31 =>
  RunQ prog (binS .neq T.t_bool false false t134 t139) w31 fun t141 =>
  Split t141 (J_6 (.bool true) w31)
   (RunQ prog (binS .eql T.t_api_Errno false true t127 (.int .i64 0)) w31 fun t144 =>
  RunQ prog (binS .neq T.t_bool false false t144 inv) w31 fun t146 =>
  Split t146 (J_6 (.bool true) w31)
   (RunQ prog (binS .eql T.t_api_Errno false true t121 (.int .i64 0)) w31 fun t150 =>
  Split t150 (RunQ prog (binS .neq T.t_int64 false false t126 c) w31 fun t154 =>
  Split t154 (J_6 (.bool true) w31)
   (Cal prog F.P_tuples_Tuples_Len [t50] w31 fun t157 w32 =>
  RunQ prog (binS .gtr T.t_int false true t157 (.int .i64 1)) w32 fun t158 =>
  Split t158 (J_6 (.bool true) w32)
   (Cal prog F.P_tuples_Tuples_Len [t50] w32 fun t162 w33 =>
  RunQ prog (binS .eql T.t_int false true t162 (.int .i64 1)) w33 fun t163 =>
  RunQ prog (binS .neq T.t_int64 false false c other) w33 fun t166 =>
  RunQ prog (binS .neq T.t_bool false false t163 t166) w33 fun t167 =>
  Split t167 (J_6 (.bool true) w33)
   (RunQ prog (binS .eql T.t_api_Errno false true t132 (.int .i64 0)) w33 fun t173 =>
  RunQ prog (binS .leq T.t_int false true count (.int .i64 4096)) w33 fun t175 =>
  RunQ prog (binS .neq T.t_bool false false t173 t175) w33 fun t176 =>
  Split t176 (J_6 (.bool true) w33)
   (RunQ prog (binS .neq T.t_api_Errno false true t132 (.int .i64 0)) w33 fun t180 =>
  Split t180 (RunQ prog (binS .neq T.t_api_Errno false true t132 (.int .i64 5)) w33 fun t183 =>
  J_6 t183 w33)
   (J_6 (.bool false) w33))))))
   (RunQ prog (binS .eql T.t_api_Errno false true t132 (.int .i64 0)) w31 fun t173_1 =>
  RunQ prog (binS .leq T.t_int false true count (.int .i64 4096)) w31 fun t175_1 =>
  RunQ prog (binS .neq T.t_bool false false t173_1 t175_1) w31 fun t176_1 =>
  Split t176_1 (J_6 (.bool true) w31)
   (RunQ prog (binS .neq T.t_api_Errno false true t132 (.int .i64 0)) w31 fun t180_1 =>
  Split t180_1 (RunQ prog (binS .neq T.t_api_Errno false true t132 (.int .i64 5)) w31 fun t183_1 =>
  J_6 t183_1 w31)
   (J_6 (.bool false) w31))))))
   (RunQ prog (binS .neq T.t_bool false false t134 (.bool false)) w16 fun t141_1 =>
  Split t141_1 (J_6 (.bool true) w16)
   (RunQ prog (binS .eql T.t_api_Errno false true t127 (.int .i64 0)) w16 fun t144_1 =>
  RunQ prog (binS .neq T.t_bool false false t144_1 inv) w16 fun t146_1 =>
  Split t146_1 (J_6 (.bool true) w16)
   (RunQ prog (binS .eql T.t_api_Errno false true t121 (.int .i64 0)) w16 fun t150_1 =>
  Split t150_1 (RunQ prog (binS .neq T.t_int64 false false t126 c) w16 fun t154_1 =>
  Split t154_1 (J_6 (.bool true) w16)
   (Cal prog F.P_tuples_Tuples_Len [t50] w16 fun t157_1 w34 =>
  RunQ prog (binS .gtr T.t_int false true t157_1 (.int .i64 1)) w34 fun t158_1 =>
  Split t158_1 (J_6 (.bool true) w34)
   (Cal prog F.P_tuples_Tuples_Len [t50] w34 fun t162_1 w35 =>
  RunQ prog (binS .eql T.t_int false true t162_1 (.int .i64 1)) w35 fun t163_1 =>
  RunQ prog (binS .neq T.t_int64 false false c other) w35 fun t166_1 =>
  RunQ prog (binS .neq T.t_bool false false t163_1 t166_1) w35 fun t167_1 =>
  Split t167_1 (J_6 (.bool true) w35)
   (RunQ prog (binS .eql T.t_api_Errno false true t132 (.int .i64 0)) w35 fun t173_2 =>
  RunQ prog (binS .leq T.t_int false true count (.int .i64 4096)) w35 fun t175_2 =>
  RunQ prog (binS .neq T.t_bool false false t173_2 t175_2) w35 fun t176_2 =>
  Split t176_2 (J_6 (.bool true) w35)
   (RunQ prog (binS .neq T.t_api_Errno false true t132 (.int .i64 0)) w35 fun t180_2 =>
  Split t180_2 (RunQ prog (binS .neq T.t_api_Errno false true t132 (.int .i64 5)) w35 fun t183_2 =>
  J_6 t183_2 w35)
   (J_6 (.bool false) w35))))))
   (RunQ prog (binS .eql T.t_api_Errno false true t132 (.int .i64 0)) w16 fun t173_3 =>
  RunQ prog (binS .leq T.t_int false true count (.int .i64 4096)) w16 fun t175_3 =>
  RunQ prog (binS .neq T.t_bool false false t173_3 t175_3) w16 fun t176_3 =>
  Split t176_3 (J_6 (.bool true) w16)
   (RunQ prog (binS .neq T.t_api_Errno false true t132 (.int .i64 0)) w16 fun t180_3 =>
  Split t180_3 (RunQ prog (binS .neq T.t_api_Errno false true t132 (.int .i64 5)) w16 fun t183_3 =>
  J_6 t183_3 w16)
   (J_6 (.bool false) w16))))))))) fun J_2 =>
  RunQ prog (Op.unary .not ok) w6 fun t76 =>
  Split t76 (J_2 (.bool true) w6)
   (Cal prog F.ref01_In [other, k] w6 fun t80 w36 =>
  RunQ prog (Op.unary .not t80) w36 fun t81 =>
  J_2 t81 w36)))

theorem law05_TuplesRaw.enter {sizes k other t c : Value} {w : World} {Q : Value → World → Prop} (h : law05_TuplesRaw.body sizes k other t c w Q) : Cal prog F.law05_TuplesRaw [sizes, k, other, t, c] w Q :=
  Cal.enter' (P := prog) mixed (show prog.funcs[F.law05_TuplesRaw]? = some Try.f8 from Try.func8) rfl (by kernel_rfl) (by kernel_rfl) (by kernel_rfl) (by kernel_rfl) (Eq.mp (by kernel_rfl) h)

/-- pennyweight/pennyweightlaw24.awake -/
def law24_awake.body (w : World) (Q : Value → World → Prop) : Prop :=
  RunC prog (Instr.buildSlice T.t_sl_uint8 2 #[(0, (.int .u8 6)), (1, (.int .u8 4))]) w fun t2 w1 =>
  Cal prog F.script_Read [t2] w1 fun t3 w2 =>
  JoinC (α := Value → World → Prop) (fun (t0 : Value) (w3 : World) =>
    Q t0 w3) fun J =>
  RunQ prog (Builtin.len_ #[T.t_sl_script_Op] T.t_int #[t3]) w2 fun t5 =>
  RunQ prog (binS .eql T.t_int false true t5 (.int .i64 1)) w2 fun t6 =>
  Split t6 (RunQ prog (Instr.indexAt T.t_sl_script_Op t3 (.int .i64 0)) w2 fun t9 =>
  RunQ prog (Instr.fieldAt T.t_script_Op t9 0) w2 fun t10 =>
  RunQ prog (Instr.loadAt T.t_int t10) w2 fun t11 =>
  RunQ prog (binS .eql T.t_int false true t11 (.int .i64 6)) w2 fun t12 =>
  Split t12 (RunQ prog (Instr.indexAt T.t_sl_script_Op t3 (.int .i64 0)) w2 fun t16 =>
  RunQ prog (Instr.fieldAt T.t_script_Op t16 1) w2 fun t17 =>
  RunQ prog (Instr.loadAt T.t_int t17) w2 fun t18 =>
  RunQ prog (binS .eql T.t_int false true t18 (.int .i64 4)) w2 fun t19 =>
  J t19 w2)
   (J (.bool false) w2))
   (J (.bool false) w2)

theorem law24_awake.enter {w : World} {Q : Value → World → Prop} (h : law24_awake.body w Q) : Cal prog F.law24_awake [] w Q :=
  Cal.enter' (P := prog) mixed (show prog.funcs[F.law24_awake]? = some Try.f9 from Try.func9) rfl (by kernel_rfl) (by kernel_rfl) (by kernel_rfl) (by kernel_rfl) (Eq.mp (by kernel_rfl) h)

/-- slices.Clone[[]byte,byte] -/
def slices_Clone_byte_byte.body (s : Value) (w : World) (Q : Value → World → Prop) : Prop :=
  RunQ prog (binS .eql T.t_sl_uint8 false true s (.slice none 0 0)) w fun t4 =>
  Split t4 (Q (.slice none 0 0) w)
   (RunC prog (Instr.buildSlice T.t_sl_uint8 0 #[]) w fun t5 w1 =>
  RunC prog (Builtin.append_ #[T.t_sl_uint8, T.t_sl_uint8] T.t_sl_uint8 #[t5, s]) w1 fun t7 w2 =>
  Q t7 w2)

theorem slices_Clone_byte_byte.enter {s : Value} {w : World} {Q : Value → World → Prop} (h : slices_Clone_byte_byte.body s w Q) : Cal prog F.slices_Clone_byte_byte [s] w Q :=
  Cal.enter' (P := prog) mixed (show prog.funcs[F.slices_Clone_byte_byte]? = some Try.f10 from Try.func10) rfl (by kernel_rfl) (by kernel_rfl) (by kernel_rfl) (by kernel_rfl) (Eq.mp (by kernel_rfl) h)

/-- pennyweight/script.Read -/
def script_Read.body (p : Value) (w : World) (Q : Value → World → Prop) : Prop :=
  RunC prog (Instr.alloc T.t_sl_script_Op true (.tuple #[])) w fun out w1 =>
  Cal prog F.slices_Chunk_byte_byte [p, (.int .i64 6)] w1 fun t7 w2 =>
  Range1 prog t7 w2 (fun t8 w3 k =>
    Over w3 fun w4 =>
    RunC prog (Instr.alloc T.t_arr6_uint8 true (.tuple #[])) w4 fun b w5 =>
    RunQ prog (Instr.sliceAt T.t_arr6_uint8 b none none none) w5 fun t9 =>
    RunC prog (Builtin.copy_ #[T.t_sl_uint8, T.t_sl_uint8] T.t_int #[t9, t8]) w5 fun t11 w6 =>
    RunQ prog (Instr.loadAt T.t_sl_script_Op out) w6 fun t12 =>
    RunQ prog (Instr.indexAt T.t_arr6_uint8 b (.int .i64 0)) w6 fun t13 =>
    RunQ prog (Instr.loadAt T.t_uint8 t13) w6 fun t14 =>
    RunQ prog (convert T.t_uint8 T.t_int t14) w6 fun t15 =>
    RunQ prog (binS .rem T.t_int false true t15 (.int .i64 11)) w6 fun t16 =>
    RunQ prog (Instr.indexAt T.t_arr6_uint8 b (.int .i64 1)) w6 fun t17 =>
    RunQ prog (Instr.loadAt T.t_uint8 t17) w6 fun t18 =>
    RunQ prog (binS .rem T.t_uint8 false true t18 (.int .u8 6)) w6 fun t19 =>
    RunQ prog (convert T.t_uint8 T.t_int t19) w6 fun t20 =>
    RunQ prog (Instr.indexAt T.t_arr6_uint8 b (.int .i64 2)) w6 fun t21 =>
    RunQ prog (Instr.loadAt T.t_uint8 t21) w6 fun t22 =>
    RunQ prog (binS .rem T.t_uint8 false true t22 (.int .u8 4)) w6 fun t23 =>
    RunQ prog (convert T.t_uint8 T.t_int t23) w6 fun t24 =>
    RunQ prog (Instr.indexAt T.t_arr6_uint8 b (.int .i64 3)) w6 fun t25 =>
    RunQ prog (Instr.loadAt T.t_uint8 t25) w6 fun t26 =>
    RunQ prog (binS .rem T.t_uint8 false true t26 (.int .u8 4)) w6 fun t27 =>
    RunQ prog (convert T.t_uint8 T.t_int t27) w6 fun t28 =>
    RunQ prog (Instr.indexAt T.t_arr6_uint8 b (.int .i64 4)) w6 fun t29 =>
    RunQ prog (Instr.loadAt T.t_uint8 t29) w6 fun t30 =>
    RunQ prog (convert T.t_uint8 T.t_int64 t30) w6 fun t31 =>
    RunQ prog (Instr.indexAt T.t_arr6_uint8 b (.int .i64 5)) w6 fun t32 =>
    RunQ prog (Instr.loadAt T.t_uint8 t32) w6 fun t33 =>
    RunQ prog (convert T.t_uint8 T.t_int64 t33) w6 fun t34 =>
    RunQ prog (binS .shl T.t_int64 false true t34 (.int .u64 8)) w6 fun t35 =>
    RunQ prog (binS .add T.t_int64 false false t31 t35) w6 fun t36 =>
    RunQ prog (Instr.build T.t_script_Op #[(0, t16), (1, t20), (2, t24), (3, t28), (4, t36)]) w6 fun t37 =>
    RunC prog (Instr.buildSlice T.t_sl_script_Op 1 #[(0, t37)]) w6 fun t38 w7 =>
    RunC prog (Builtin.append_ #[T.t_sl_script_Op, T.t_sl_script_Op] T.t_sl_script_Op #[t12, t38]) w7 fun t39 w8 =>
    RunC prog (Instr.storeAt T.t_sl_script_Op out t39) w8 fun (_ : Unit) w9 =>
    k .normal w9)
   (fun w10 =>
    RunQ prog (Instr.loadAt T.t_sl_script_Op out) w10 fun t40 =>
  Again w10 fun w11 => Q t40 w11)
   (fun _ => False)
   []

theorem script_Read.enter {p : Value} {w : World} {Q : Value → World → Prop} (h : script_Read.body p w Q) : Cal prog F.script_Read [p] w Q :=
  Cal.enter (P := prog) mixed (show prog.funcs[F.script_Read]? = some Try.f11 from Try.func11) rfl (by kernel_rfl) (by kernel_rfl) (by kernel_rfl) (Eq.mp (by kernel_rfl) h)

/-- pennyweight/pennyweightref24.Read -/
def ref24_Read.body (p : Value) (w : World) (Q : Value → World → Prop) : Prop :=
  RunC prog (Instr.buildSlice T.t_sl_uint8 0 #[]) w fun t4 w1 =>
  RunC prog (Builtin.append_ #[T.t_sl_uint8, T.t_sl_uint8] T.t_sl_uint8 #[t4, p]) w1 fun t6 w2 =>
  Loop1 t6 w2 fun p_1 w3 k =>
    RunQ prog (Builtin.len_ #[T.t_sl_uint8] T.t_int #[p_1]) w3 fun t8 =>
    RunQ prog (binS .rem T.t_int false true t8 (.int .i64 6)) w3 fun t9 =>
    RunQ prog (binS .gtr T.t_int false true t9 (.int .i64 0)) w3 fun t10 =>
    Split t10 (RunC prog (Instr.buildSlice T.t_sl_uint8 1 #[(0, (.int .u8 0))]) w3 fun t12 w4 =>
    RunC prog (Builtin.append_ #[T.t_sl_uint8, T.t_sl_uint8] T.t_sl_uint8 #[p_1, t12]) w4 fun t13 w5 =>
    k t13 w5)
     (Loop2 p_1 (.slice none 0 0) w3 fun p_2 out w6 k_1 =>
    RunQ prog (Builtin.len_ #[T.t_sl_uint8] T.t_int #[p_2]) w6 fun t15 =>
    RunQ prog (binS .gtr T.t_int false true t15 (.int .i64 0)) w6 fun t16 =>
    Split t16 (Drew w6 fun w7 =>
    RunQ prog (Instr.indexAt T.t_sl_uint8 p_2 (.int .i64 0)) w7 fun t21 =>
    RunQ prog (Instr.loadAt T.t_uint8 t21) w7 fun t22 =>
    RunQ prog (convert T.t_uint8 T.t_int t22) w7 fun t23 =>
    RunQ prog (binS .rem T.t_int false true t23 (.int .i64 11)) w7 fun t24 =>
    RunQ prog (Instr.indexAt T.t_sl_uint8 p_2 (.int .i64 1)) w7 fun t26 =>
    RunQ prog (Instr.loadAt T.t_uint8 t26) w7 fun t27 =>
    RunQ prog (convert T.t_uint8 T.t_int t27) w7 fun t28 =>
    RunQ prog (binS .rem T.t_int false true t28 (.int .i64 6)) w7 fun t29 =>
    RunQ prog (Instr.indexAt T.t_sl_uint8 p_2 (.int .i64 2)) w7 fun t31 =>
    RunQ prog (Instr.loadAt T.t_uint8 t31) w7 fun t32 =>
    RunQ prog (convert T.t_uint8 T.t_int t32) w7 fun t33 =>
    RunQ prog (binS .rem T.t_int false true t33 (.int .i64 4)) w7 fun t34 =>
    RunQ prog (Instr.indexAt T.t_sl_uint8 p_2 (.int .i64 3)) w7 fun t36 =>
    RunQ prog (Instr.loadAt T.t_uint8 t36) w7 fun t37 =>
    RunQ prog (convert T.t_uint8 T.t_int t37) w7 fun t38 =>
    RunQ prog (binS .rem T.t_int false true t38 (.int .i64 4)) w7 fun t39 =>
    RunQ prog (Instr.indexAt T.t_sl_uint8 p_2 (.int .i64 4)) w7 fun t41 =>
    RunQ prog (Instr.loadAt T.t_uint8 t41) w7 fun t42 =>
    RunQ prog (convert T.t_uint8 T.t_int64 t42) w7 fun t43 =>
    RunQ prog (Instr.indexAt T.t_sl_uint8 p_2 (.int .i64 5)) w7 fun t45 =>
    RunQ prog (Instr.loadAt T.t_uint8 t45) w7 fun t46 =>
    RunQ prog (convert T.t_uint8 T.t_int64 t46) w7 fun t47 =>
    RunQ prog (binS .mul T.t_int64 true false (.int .i64 256) t47) w7 fun t48 =>
    RunQ prog (binS .add T.t_int64 false false t43 t48) w7 fun t49 =>
    RunQ prog (Instr.build T.t_ref24_Op #[(0, t24), (1, t29), (2, t34), (3, t39), (4, t49)]) w7 fun t50 =>
    RunC prog (Instr.buildSlice T.t_sl_ref24_Op 1 #[(0, t50)]) w7 fun t51 w8 =>
     RunC prog (Builtin.append_ #[T.t_sl_ref24_Op, T.t_sl_ref24_Op] T.t_sl_ref24_Op #[out, t51]) w8 fun t52 w9 =>
      RunQ prog (Instr.sliceAt T.t_sl_uint8 p_2 (some (.int .i64 6)) none none) w9 fun t18 =>
    k_1 t18 t52 w9)
     (Q out w6))

theorem ref24_Read.enter {p : Value} {w : World} {Q : Value → World → Prop} (h : ref24_Read.body p w Q) : Cal prog F.ref24_Read [p] w Q :=
  Cal.enter' (P := prog) mixed (show prog.funcs[F.ref24_Read]? = some Try.f12 from Try.func12) rfl (by kernel_rfl) (by kernel_rfl) (by kernel_rfl) (by kernel_rfl) (Eq.mp (by kernel_rfl) h)

/-- slices.Equal[[]byte,byte] -/
def slices_Equal_byte_byte.body (s1 s2 : Value) (w : World) (Q : Value → World → Prop) : Prop :=
  RunQ prog (Builtin.len_ #[T.t_sl_uint8] T.t_int #[s1]) w fun t7 =>
  RunQ prog (Builtin.len_ #[T.t_sl_uint8] T.t_int #[s2]) w fun t9 =>
  RunQ prog (binS .neq T.t_int false false t7 t9) w fun t10 =>
  Split t10 (Q (.bool false) w)
   (RunQ prog (Builtin.len_ #[T.t_sl_uint8] T.t_int #[s1]) w fun t12 =>
  Loop2 (.bool false) (.int .i64 0) w fun t4 t13 w1 k =>
    RunQ prog (binS .lss T.t_int false false t13 t12) w1 fun t14 =>
    Split t14 (Drew w1 fun w2 =>
    RunQ prog (Instr.indexAt T.t_sl_uint8 s1 t13) w2 fun t18 =>
    RunQ prog (Instr.loadAt T.t_uint8 t18) w2 fun t19 =>
    RunQ prog (Instr.indexAt T.t_sl_uint8 s2 t13) w2 fun t22 =>
    RunQ prog (Instr.loadAt T.t_uint8 t22) w2 fun t23 =>
    RunQ prog (binS .neq T.t_uint8 false false t19 t23) w2 fun t24 =>
    Split t24 (Q (.bool false) w2)
     (RunQ prog (binS .add T.t_int false true t13 (.int .i64 1)) w2 fun t25 =>
    k t4 t25 w2))
     (Q (.bool true) w1))

theorem slices_Equal_byte_byte.enter {s1 s2 : Value} {w : World} {Q : Value → World → Prop} (h : slices_Equal_byte_byte.body s1 s2 w Q) : Cal prog F.slices_Equal_byte_byte [s1, s2] w Q :=
  Cal.enter' (P := prog) mixed (show prog.funcs[F.slices_Equal_byte_byte]? = some Try.f13 from Try.func13) rfl (by kernel_rfl) (by kernel_rfl) (by kernel_rfl) (by kernel_rfl) (Eq.mp (by kernel_rfl) h)

/-- pennyweight/pennyweightlaw05.awake -/
def law05_awake.body (w : World) (Q : Value → World → Prop) : Prop :=
  RunC prog (Instr.buildSlice T.t_sl_int 2 #[(0, (.int .i64 2)), (1, (.int .i64 2))]) w fun t5 w1 =>
  Cal prog F.tuples_New [t5, (.int .i64 9), (.int .i64 0)] w1 fun t6 w2 =>
  RunQ prog (Instr.extract t6 0) w2 fun t7 =>
  RunQ prog (Instr.extract t6 1) w2 fun t8 =>
  JoinC (α := Value → World → Prop) (fun (t16 : Value) (w3 : World) =>
    Split t16 (Q (.bool false) w3)
     (Cal prog F.P_tuples_Tuples_Lines [t7] w3 fun t18 w4 =>
  JoinC (α := Value → World → Prop) (fun (t0 : Value) (w5 : World) =>
    Q t0 w5) fun J_1 =>
  RunQ prog (Builtin.len_ #[T.t_sl_tuples_Line] T.t_int #[t18]) w4 fun t20 =>
  RunQ prog (binS .eql T.t_int false true t20 (.int .i64 1)) w4 fun t21 =>
  Split t21 (RunQ prog (Instr.indexAt T.t_sl_tuples_Line t18 (.int .i64 0)) w4 fun t24 =>
  RunQ prog (Instr.fieldAt T.t_tuples_Line t24 0) w4 fun t25 =>
  RunQ prog (Instr.loadAt T.t_sl_int t25) w4 fun t26 =>
  RunC prog (Instr.buildSlice T.t_sl_int 2 #[(0, (.int .i64 0)), (1, (.int .i64 1))]) w4 fun t27 w6 =>
  Cal prog F.slices_Equal_int_int [t26, t27] w6 fun t28 w7 =>
  Split t28 (RunQ prog (Instr.indexAt T.t_sl_tuples_Line t18 (.int .i64 0)) w7 fun t32 =>
  RunQ prog (Instr.fieldAt T.t_tuples_Line t32 1) w7 fun t33 =>
  RunQ prog (Instr.loadAt T.t_int64 t33) w7 fun t34 =>
  RunQ prog (binS .eql T.t_int64 false true t34 (.int .i64 5)) w7 fun t35 =>
  J_1 t35 w7)
   (J_1 (.bool false) w7))
   (J_1 (.bool false) w4))) fun J =>
  RunQ prog (binS .neq T.t_api_Errno false true t8 (.int .i64 0)) w2 fun t10 =>
  Split t10 (J (.bool true) w2)
   (RunC prog (Instr.buildSlice T.t_sl_int 2 #[(0, (.int .i64 0)), (1, (.int .i64 1))]) w2 fun t13 w8 =>
  Cal prog F.P_tuples_Tuples_Put [t7, t13, (.int .i64 5)] w8 fun t14 w9 =>
  RunQ prog (binS .neq T.t_api_Errno false true t14 (.int .i64 0)) w9 fun t15 =>
  J t15 w9)

theorem law05_awake.enter {w : World} {Q : Value → World → Prop} (h : law05_awake.body w Q) : Cal prog F.law05_awake [] w Q :=
  Cal.enter' (P := prog) mixed (show prog.funcs[F.law05_awake]? = some Try.f14 from Try.func14) rfl (by kernel_rfl) (by kernel_rfl) (by kernel_rfl) (by kernel_rfl) (Eq.mp (by kernel_rfl) h)

/-- pennyweight/pennyweightref03.Small -/
def ref03_Small.body (l : Value) (w : World) (Q : Value → World → Prop) : Prop :=
  RunQ prog (Builtin.len_ #[T.t_sl_uint8] T.t_int #[l]) w fun t7 =>
  Loop2 (.slice none 0 0) (.int .i64 0) w fun out t8 w1 k =>
    RunQ prog (binS .lss T.t_int false false t8 t7) w1 fun t9 =>
    Split t9 (JoinC (α := Value → World → Prop) (fun (out_1 : Value) (w2 : World) =>
      RunQ prog (binS .add T.t_int false true t8 (.int .i64 1)) w2 fun t22 =>
      k out_1 t22 w2) fun J =>
    RunQ prog (Instr.indexAt T.t_sl_uint8 l t8) w1 fun t11 =>
    RunQ prog (Instr.loadAt T.t_uint8 t11) w1 fun t12 =>
    RunQ prog (binS .lss T.t_int false true t8 (.int .i64 3)) w1 fun t14 =>
    Split t14 (RunQ prog (binS .rem T.t_uint8 false true t12 (.int .u8 4)) w1 fun t17 =>
     RunQ prog (convert T.t_uint8 T.t_int t17) w1 fun t18 =>
     RunQ prog (binS .add T.t_int true false (.int .i64 1) t18) w1 fun t19 =>
     RunC prog (Instr.buildSlice T.t_sl_int 1 #[(0, t19)]) w1 fun t20 w3 =>
     RunC prog (Builtin.append_ #[T.t_sl_int, T.t_sl_int] T.t_sl_int #[out, t20]) w3 fun t21 w4 =>
     J t21 w4)
     (J out w1))
     (Q out w1)

theorem ref03_Small.enter {l : Value} {w : World} {Q : Value → World → Prop} (h : ref03_Small.body l w Q) : Cal prog F.ref03_Small [l] w Q :=
  Cal.enter' (P := prog) mixed (show prog.funcs[F.ref03_Small]? = some Try.f15 from Try.func15) rfl (by kernel_rfl) (by kernel_rfl) (by kernel_rfl) (by kernel_rfl) (Eq.mp (by kernel_rfl) h)

/-- pennyweight/tuples.New -/
def tuples_New.body (sizes k other : Value) (w : World) (Q : Value → World → Prop) : Prop :=
  JoinC (α := Value → World → Prop) (fun (t9 : Value) (w1 : World) =>
    Split t9 (Q (.tuple #[(.pointer none), (.int .i64 1)]) w1)
     (Cal prog F.cost_In [other, k] w1 fun t21 w2 =>
     RunQ prog (Op.unary .not t21) w2 fun t22 =>
     Split t22 (Q (.tuple #[(.pointer none), (.int .i64 3)]) w2)
      (Cal prog F.slices_Clone_int_int [sizes] w2 fun t24 w3 =>
  RunC prog (Instr.makeMap T.t_map_tuples_key_int64 none) w3 fun t27 w4 =>
  RunQ prog (Instr.build T.t_tuples_Tuples #[(0, t24), (1, k), (2, other), (3, t27)]) w4 fun t28 =>
  RunC prog (Instr.box T.t_tuples_Tuples t28) w4 fun t29 w5 =>
  Q (.tuple #[t29, (.int .i64 0)]) w5))) fun J =>
  RunQ prog (Builtin.len_ #[T.t_sl_int] T.t_int #[sizes]) w fun t11 =>
  RunQ prog (binS .gtr T.t_int false true t11 (.int .i64 6)) w fun t12 =>
  Split t12 (J (.bool true) w)
   (Cal prog F.slices_ContainsFunc_int_int [sizes, (.func (.func F.tuples_New_c1) #[] #[])] w fun t16 w6 =>
  J t16 w6)

theorem tuples_New.enter {sizes k other : Value} {w : World} {Q : Value → World → Prop} (h : tuples_New.body sizes k other w Q) : Cal prog F.tuples_New [sizes, k, other] w Q :=
  Cal.enter' (P := prog) mixed (show prog.funcs[F.tuples_New]? = some Try.f16 from Try.func16) rfl (by kernel_rfl) (by kernel_rfl) (by kernel_rfl) (by kernel_rfl) (Eq.mp (by kernel_rfl) h)

/-- pennyweight/pennyweightref03.Count -/
def ref03_Count.body (sizes : Value) (w : World) (Q : Value → World → Prop) : Prop :=
  RunQ prog (Builtin.len_ #[T.t_sl_int] T.t_int #[sizes]) w fun t7 =>
  Loop2 (.int .i64 1) (.int .i64 0) w fun n t8 w1 k =>
    RunQ prog (binS .lss T.t_int false false t8 t7) w1 fun t9 =>
    Split t9 (RunQ prog (Instr.indexAt T.t_sl_int sizes t8) w1 fun t10 =>
    RunQ prog (Instr.loadAt T.t_int t10) w1 fun t11 =>
    RunQ prog (binS .mul T.t_int false false n t11) w1 fun t14 =>
    RunQ prog (binS .add T.t_int false true t8 (.int .i64 1)) w1 fun t15 =>
    k t14 t15 w1)
     (Q n w1)

theorem ref03_Count.enter {sizes : Value} {w : World} {Q : Value → World → Prop} (h : ref03_Count.body sizes w Q) : Cal prog F.ref03_Count [sizes] w Q :=
  Cal.enter' (P := prog) mixed (show prog.funcs[F.ref03_Count]? = some Try.f17 from Try.func17) rfl (by kernel_rfl) (by kernel_rfl) (by kernel_rfl) (by kernel_rfl) (Eq.mp (by kernel_rfl) h)

/-- slices.Clone[[]int,int] -/
def slices_Clone_int_int.body (s : Value) (w : World) (Q : Value → World → Prop) : Prop :=
  RunQ prog (binS .eql T.t_sl_int false true s (.slice none 0 0)) w fun t4 =>
  Split t4 (Q (.slice none 0 0) w)
   (RunC prog (Instr.buildSlice T.t_sl_int 0 #[]) w fun t5 w1 =>
  RunC prog (Builtin.append_ #[T.t_sl_int, T.t_sl_int] T.t_sl_int #[t5, s]) w1 fun t7 w2 =>
  Q t7 w2)

theorem slices_Clone_int_int.enter {s : Value} {w : World} {Q : Value → World → Prop} (h : slices_Clone_int_int.body s w Q) : Cal prog F.slices_Clone_int_int [s] w Q :=
  Cal.enter' (P := prog) mixed (show prog.funcs[F.slices_Clone_int_int]? = some Try.f18 from Try.func18) rfl (by kernel_rfl) (by kernel_rfl) (by kernel_rfl) (by kernel_rfl) (Eq.mp (by kernel_rfl) h)

/-- pennyweight/pennyweightref03.Index -/
def ref03_Index.body (sizes t : Value) (w : World) (Q : Value → World → Prop) : Prop :=
  Cal prog F.ref03_All [sizes] w fun t8 w1 =>
  RunQ prog (Builtin.len_ #[T.t_sl_sl_int] T.t_int #[t8]) w1 fun t9 =>
  Loop2 (.int .i64 0) (.int .i64 0) w1 fun t4 t10 w2 k =>
    RunQ prog (binS .lss T.t_int false false t10 t9) w2 fun t11 =>
    Split t11 (RunQ prog (Instr.indexAt T.t_sl_sl_int t8 t10) w2 fun t13 =>
    RunQ prog (Instr.loadAt T.t_sl_int t13) w2 fun t14 =>
    Cal prog F.ref03_Same [t14, t] w2 fun t17 w3 =>
    Split t17 (Q t10 w3)
     (RunQ prog (binS .add T.t_int false true t10 (.int .i64 1)) w3 fun t19 =>
    k t4 t19 w3))
     (Q (.int .i64 (-1)) w2)

theorem ref03_Index.enter {sizes t : Value} {w : World} {Q : Value → World → Prop} (h : ref03_Index.body sizes t w Q) : Cal prog F.ref03_Index [sizes, t] w Q :=
  Cal.enter' (P := prog) mixed (show prog.funcs[F.ref03_Index]? = some Try.f19 from Try.func19) rfl (by kernel_rfl) (by kernel_rfl) (by kernel_rfl) (by kernel_rfl) (Eq.mp (by kernel_rfl) h)

/-- pennyweight/pennyweightref01.In -/
def ref01_In.body (a k : Value) (w : World) (Q : Value → World → Prop) : Prop :=
  JoinC (α := Value → World → Prop) (fun (t4 : Value) (w1 : World) =>
    Q t4 w1) fun J =>
  Cal prog F.ref01_Right [k] w fun t6 w2 =>
  Split t6 (RunQ prog (binS .geq T.t_int64 false true a (.int .i64 0)) w2 fun t9 =>
  Split t9 (RunQ prog (binS .leq T.t_int64 false false a k) w2 fun t14 =>
  J t14 w2)
   (J (.bool false) w2))
   (J (.bool false) w2)

theorem ref01_In.enter {a k : Value} {w : World} {Q : Value → World → Prop} (h : ref01_In.body a k w Q) : Cal prog F.ref01_In [a, k] w Q :=
  Cal.enter' (P := prog) mixed (show prog.funcs[F.ref01_In]? = some Try.f20 from Try.func20) rfl (by kernel_rfl) (by kernel_rfl) (by kernel_rfl) (by kernel_rfl) (Eq.mp (by kernel_rfl) h)

/-- (*pennyweight/tuples.Tuples).Put -/
def P_tuples_Tuples_Put.body (t tuple c : Value) (w : World) (Q : Value → World → Prop) : Prop :=
  Cal prog F.P_tuples_Tuples_key [t, tuple] w fun t12 w1 =>
  RunQ prog (Instr.extract t12 0) w1 fun t13 =>
  RunQ prog (Instr.extract t12 1) w1 fun t14 =>
  RunC prog (Instr.alloc T.t_tuples_key true (.tuple #[])) w1 fun x w2 =>
  RunC prog (Instr.storeAt T.t_tuples_key x t13) w2 fun (_ : Unit) w3 =>
  JoinC (α := Value → World → Prop) (fun (t6 : Value) (w4 : World) =>
    Q (.int .i64 0) w4) fun J =>
  RunQ prog (binS .neq T.t_api_Errno false true t14 (.int .i64 0)) w3 fun t23 =>
  Split t23 (Q t14 w3)
   (RunQ prog (nilS t) w3 fun t28 =>
   RunQ prog (Instr.fieldAt T.t_tuples_Tuples t28 1) w3 fun t29 =>
   RunQ prog (Instr.loadAt T.t_int64 t29) w3 fun t30 =>
   Cal prog F.cost_In [c, t30] w3 fun t31 w5 =>
   RunQ prog (Op.unary .not t31) w5 fun t32 =>
   Split t32 (Q (.int .i64 3) w5)
    (RunQ prog (nilS t) w5 fun t36 =>
    RunQ prog (Instr.fieldAt T.t_tuples_Tuples t36 2) w5 fun t37 =>
    RunQ prog (Instr.loadAt T.t_int64 t37) w5 fun t38 =>
    RunQ prog (binS .eql T.t_int64 false false c t38) w5 fun t39 =>
    Split t39 (Drew w5 fun w6 =>
     RunQ prog (nilS t) w6 fun t41 =>
     RunQ prog (Instr.fieldAt T.t_tuples_Tuples t41 3) w6 fun t42 =>
     RunQ prog (Instr.loadAt T.t_map_tuples_key_int64 t42) w6 fun t43 =>
     RunQ prog (Instr.loadAt T.t_tuples_key x) w6 fun t44 =>
     RunC prog (Builtin.delete_ #[T.t_map_tuples_key_int64, T.t_tuples_key] T.t_unit #[t43, t44]) w6 fun u w7 =>
      J (.int .i64 0) w7)
     (Drew w5 fun w8 =>
     RunQ prog (nilS t) w8 fun t16 =>
     RunQ prog (Instr.fieldAt T.t_tuples_Tuples t16 3) w8 fun t17 =>
     RunQ prog (Instr.loadAt T.t_map_tuples_key_int64 t17) w8 fun t18 =>
     RunQ prog (Instr.loadAt T.t_tuples_key x) w8 fun t19 =>
     RunC prog (Instr.mapUpdate T.t_map_tuples_key_int64 t18 t19 c) w8 fun (_ : Unit) w9 =>
      J (.int .i64 0) w9)))

theorem P_tuples_Tuples_Put.enter {t tuple c : Value} {w : World} {Q : Value → World → Prop} (h : P_tuples_Tuples_Put.body t tuple c w Q) : Cal prog F.P_tuples_Tuples_Put [t, tuple, c] w Q :=
  Cal.enter' (P := prog) mixed (show prog.funcs[F.P_tuples_Tuples_Put]? = some Try.f21 from Try.func21) rfl (by kernel_rfl) (by kernel_rfl) (by kernel_rfl) (by kernel_rfl) (Eq.mp (by kernel_rfl) h)

/-- (*pennyweight/tuples.Tuples).Get -/
def P_tuples_Tuples_Get.body (t tuple : Value) (w : World) (Q : Value → World → Prop) : Prop :=
  Cal prog F.P_tuples_Tuples_key [t, tuple] w fun t13 w1 =>
  RunQ prog (Instr.extract t13 0) w1 fun t14 =>
  RunQ prog (Instr.extract t13 1) w1 fun t15 =>
  RunC prog (Instr.alloc T.t_tuples_key true (.tuple #[])) w1 fun x w2 =>
  RunC prog (Instr.storeAt T.t_tuples_key x t14) w2 fun (_ : Unit) w3 =>
  RunQ prog (binS .neq T.t_api_Errno false true t15 (.int .i64 0)) w3 fun t17 =>
  Split t17 (Q (.tuple #[(.int .i64 0), t15]) w3)
   (Drew w3 fun w4 =>
  RunQ prog (nilS t) w4 fun t21 =>
  RunQ prog (Instr.fieldAt T.t_tuples_Tuples t21 3) w4 fun t22 =>
  RunQ prog (Instr.loadAt T.t_map_tuples_key_int64 t22) w4 fun t23 =>
  RunQ prog (Instr.loadAt T.t_tuples_key x) w4 fun t24 =>
  RunQ prog (Instr.lookup T.t_map_tuples_key_int64 t23 t24 true) w4 fun t25 =>
  RunQ prog (Instr.extract t25 0) w4 fun t26 =>
  RunQ prog (Instr.extract t25 1) w4 fun t27 =>
  Split t27 (Q (.tuple #[t26, (.int .i64 0)]) w4)
   (RunQ prog (nilS t) w4 fun t31 =>
  RunQ prog (Instr.fieldAt T.t_tuples_Tuples t31 2) w4 fun t32 =>
  RunQ prog (Instr.loadAt T.t_int64 t32) w4 fun t33 =>
  Q (.tuple #[t33, (.int .i64 0)]) w4))

theorem P_tuples_Tuples_Get.enter {t tuple : Value} {w : World} {Q : Value → World → Prop} (h : P_tuples_Tuples_Get.body t tuple w Q) : Cal prog F.P_tuples_Tuples_Get [t, tuple] w Q :=
  Cal.enter' (P := prog) mixed (show prog.funcs[F.P_tuples_Tuples_Get]? = some Try.f22 from Try.func22) rfl (by kernel_rfl) (by kernel_rfl) (by kernel_rfl) (by kernel_rfl) (Eq.mp (by kernel_rfl) h)

/-- pennyweight/pennyweightlaw05.like -/
def law05_like.body (t x other : Value) (w : World) (Q : Value → World → Prop) : Prop :=
  RunC prog (Instr.box T.t_ref04_Table x) w fun x_1 w1 =>
  JoinC (α := Value → World → Prop) (fun (t47 : Value) (w2 : World) =>
    Split t47 (Q (.bool false) w2)
     (RunQ prog (Instr.loadAt T.t_ref04_Table x_1) w2 fun t49 =>
  Cal prog F.ref05_Lines [t49, other] w2 fun t51 w3 =>
  RunQ prog (Instr.extract t51 0) w3 fun t52 =>
  RunQ prog (Instr.extract t51 1) w3 fun t53 =>
  Cal prog F.P_tuples_Tuples_Lines [t] w3 fun t55 w4 =>
  JoinC (α := Value → World → Prop) (fun (t67 : Value) (w5 : World) =>
    Split t67 (Q (.bool false) w5)
     (RunQ prog (Builtin.len_ #[T.t_sl_sl_int] T.t_int #[t52]) w5 fun t69 =>
  Loop2 (.bool false) (.int .i64 0) w5 fun t6 t70 w6 k =>
    RunQ prog (binS .lss T.t_int false false t70 t69) w6 fun t71 =>
    Split t71 (JoinC (α := Value → World → Prop) (fun (t95 : Value) (w7 : World) =>
      Split t95 (Q (.bool false) w7)
       (RunQ prog (binS .add T.t_int false true t70 (.int .i64 1)) w7 fun t96 =>
    k t6 t96 w7)) fun J_2 =>
    Drew w6 fun w8 =>
    RunQ prog (Instr.indexAt T.t_sl_tuples_Line t55 t70) w8 fun t75 =>
    RunQ prog (Instr.fieldAt T.t_tuples_Line t75 0) w8 fun t76 =>
    RunQ prog (Instr.loadAt T.t_sl_int t76) w8 fun t77 =>
    RunQ prog (Instr.indexAt T.t_sl_sl_int t52 t70) w8 fun t80 =>
    RunQ prog (Instr.loadAt T.t_sl_int t80) w8 fun t81 =>
    Cal prog F.slices_Equal_int_int [t77, t81] w8 fun t82 w9 =>
     RunQ prog (Op.unary .not t82) w9 fun t83 =>
     Split t83 (J_2 (.bool true) w9)
      (RunQ prog (Instr.indexAt T.t_sl_tuples_Line t55 t70) w9 fun t87 =>
     RunQ prog (Instr.fieldAt T.t_tuples_Line t87 1) w9 fun t88 =>
     RunQ prog (Instr.loadAt T.t_int64 t88) w9 fun t89 =>
     RunQ prog (Instr.indexAt T.t_sl_int64 t53 t70) w9 fun t92 =>
     RunQ prog (Instr.loadAt T.t_int64 t92) w9 fun t93 =>
     RunQ prog (binS .neq T.t_int64 false false t89 t93) w9 fun t94 =>
     J_2 t94 w9))
     (RunQ prog (Instr.fieldAt T.t_ref04_Table x_1 0) w6 fun t97 =>
  RunQ prog (Instr.loadAt T.t_sl_int t97) w6 fun t98 =>
  Cal prog F.ref03_All [t98] w6 fun t99 w10 =>
  RunQ prog (Builtin.len_ #[T.t_sl_sl_int] T.t_int #[t99]) w10 fun t100 =>
  Loop2 t6 (.int .i64 0) w10 fun t6_1 t101 w11 k_1 =>
    RunQ prog (binS .lss T.t_int false false t101 t100) w11 fun t102 =>
    Split t102 (RunQ prog (Instr.indexAt T.t_sl_sl_int t99 t101) w11 fun t104 =>
    RunQ prog (Instr.loadAt T.t_sl_int t104) w11 fun t105 =>
    Cal prog F.P_tuples_Tuples_Get [t, t105] w11 fun t109 w12 =>
    RunQ prog (Instr.extract t109 0) w12 fun t110 =>
    RunQ prog (Instr.extract t109 1) w12 fun t111 =>
    JoinC (α := Value → World → Prop) (fun (t122 : Value) (w13 : World) =>
      Split t122 (Q (.bool false) w13)
       (RunQ prog (binS .add T.t_int false true t101 (.int .i64 1)) w13 fun t123 =>
    k_1 t6_1 t123 w13)) fun J_3 =>
    RunQ prog (binS .neq T.t_api_Errno false true t111 (.int .i64 0)) w12 fun t113 =>
    Split t113 (J_3 (.bool true) w12)
     (RunQ prog (Instr.fieldAt T.t_ref04_Table x_1 2) w12 fun t116 =>
    RunQ prog (Instr.loadAt T.t_sl_int64 t116) w12 fun t117 =>
    RunQ prog (Instr.indexAt T.t_sl_int64 t117 t101) w12 fun t119 =>
    RunQ prog (Instr.loadAt T.t_int64 t119) w12 fun t120 =>
    RunQ prog (binS .neq T.t_int64 false false t110 t120) w12 fun t121 =>
    J_3 t121 w12))
     (Cal prog F.P_tuples_Tuples_Table [t] w11 fun t126 w14 =>
  RunQ prog (Instr.extract t126 0) w14 fun t127 =>
  RunQ prog (Instr.extract t126 1) w14 fun t128 =>
  JoinC (α := Value → World → Prop) (fun (t6_2 : Value) (w15 : World) =>
    Q t6_2 w15) fun J_4 =>
  Drew w14 fun w16 =>
  RunQ prog (binS .eql T.t_api_Errno false true t128 (.int .i64 0)) w16 fun t130 =>
  Split t130 (RunQ prog (Instr.fieldAt T.t_ref04_Table x_1 2) w16 fun t134 =>
  RunQ prog (Instr.loadAt T.t_sl_int64 t134) w16 fun t135 =>
  Cal prog F.P_table_Table_Entries [t127] w16 fun t133 w17 =>
   (Ext w16 w17 ∨ Stays prog (Instr.loadAt T.t_sl_int64 t134) t135 w17 ∧ Stays prog (Instr.fieldAt T.t_ref04_Table x_1 2) t134 w17 ∧ True) ∧
  Cal prog F.slices_Equal_int64_int64 [t133, t135] w17 fun t136 w18 =>
    J_4 t136 w18)
   ((Ext w16 w16 ∨ True ∧ True ∧ True) ∧
  J_4 (.bool false) w16))))) fun J_1 =>
  RunQ prog (Builtin.len_ #[T.t_sl_tuples_Line] T.t_int #[t55]) w4 fun t57 =>
  RunQ prog (Builtin.len_ #[T.t_sl_sl_int] T.t_int #[t52]) w4 fun t59 =>
  RunQ prog (binS .neq T.t_int false false t57 t59) w4 fun t60 =>
  Split t60 (J_1 (.bool true) w4)
   (Cal prog F.P_tuples_Tuples_Len [t] w4 fun t63 w19 =>
  RunQ prog (Builtin.len_ #[T.t_sl_sl_int] T.t_int #[t52]) w19 fun t65 =>
  RunQ prog (binS .neq T.t_int false false t63 t65) w19 fun t66 =>
  J_1 t66 w19))) fun J =>
  Drew w1 fun w20 =>
  RunQ prog (binS .eql T.t_p_tuples_Tuples false true t (.pointer none)) w20 fun t18 =>
  Split t18 ((Ext w20 w20 ∨ True ∧ True ∧ True) ∧
  (Ext w20 w20 ∨ True ∧ True ∧ True ∧ True) ∧
    (Ext w20 w20 ∨ True ∧ True ∧ True) ∧
     J (.bool true) w20)
   (RunQ prog (Instr.fieldAt T.t_ref04_Table x_1 1) w20 fun t22 =>
  RunQ prog (Instr.loadAt T.t_int64 t22) w20 fun t23 =>
  Cal prog F.P_tuples_Tuples_K [t] w20 fun t21 w21 =>
   (Ext w20 w21 ∨ Stays prog (Instr.loadAt T.t_int64 t22) t23 w21 ∧ Stays prog (Instr.fieldAt T.t_ref04_Table x_1 1) t22 w21 ∧ True) ∧
  RunQ prog (binS .neq T.t_int64 false false t21 t23) w21 fun t24 =>
   Split t24 ((Ext w21 w21 ∨ True ∧ True ∧ True ∧ True) ∧
    (Ext w21 w21 ∨ True ∧ True ∧ True) ∧
     J (.bool true) w21)
    (Cal prog F.P_tuples_Tuples_Other [t] w21 fun t28 w22 =>
    RunQ prog (binS .neq T.t_int64 false false t28 other) w22 fun t30 =>
    Split t30 ((Ext w22 w22 ∨ True ∧ True ∧ True ∧ True) ∧
    (Ext w22 w22 ∨ True ∧ True ∧ True) ∧
     J (.bool true) w22)
     (RunQ prog (Instr.fieldAt T.t_ref04_Table x_1 0) w22 fun t35 =>
    RunQ prog (Instr.loadAt T.t_sl_int t35) w22 fun t36 =>
    RunQ prog (Builtin.len_ #[T.t_sl_int] T.t_int #[t36]) w22 fun t37 =>
    Cal prog F.P_tuples_Tuples_Arity [t] w22 fun t34 w23 =>
     (Ext w22 w23 ∨ Stays prog (Builtin.len_ #[T.t_sl_int] T.t_int #[t36]) t37 w23 ∧ Stays prog (Instr.loadAt T.t_sl_int t35) t36 w23 ∧ Stays prog (Instr.fieldAt T.t_ref04_Table x_1 0) t35 w23 ∧ True) ∧
    RunQ prog (binS .neq T.t_int false false t34 t37) w23 fun t38 =>
     Split t38 ((Ext w23 w23 ∨ True ∧ True ∧ True) ∧
     J (.bool true) w23)
      (RunQ prog (Instr.fieldAt T.t_ref04_Table x_1 0) w23 fun t43 =>
     RunQ prog (Instr.loadAt T.t_sl_int t43) w23 fun t44 =>
     Cal prog F.P_tuples_Tuples_Sizes [t] w23 fun t42 w24 =>
      (Ext w23 w24 ∨ Stays prog (Instr.loadAt T.t_sl_int t43) t44 w24 ∧ Stays prog (Instr.fieldAt T.t_ref04_Table x_1 0) t43 w24 ∧ True) ∧
     Cal prog F.slices_Equal_int_int [t42, t44] w24 fun t45 w25 =>
       RunQ prog (Op.unary .not t45) w25 fun t46 =>
       J t46 w25))))

theorem law05_like.enter {t x other : Value} {w : World} {Q : Value → World → Prop} (h : law05_like.body t x other w Q) : Cal prog F.law05_like [t, x, other] w Q :=
  Cal.enter' (P := prog) mixed (show prog.funcs[F.law05_like]? = some Try.f23 from Try.func23) rfl (by kernel_rfl) (by kernel_rfl) (by kernel_rfl) (by kernel_rfl) (Eq.mp (by kernel_rfl) h)

/-- pennyweight/pennyweightref04.Make -/
def ref04_Make.body (sizes k l : Value) (w : World) (Q : Value → World → Prop) : Prop :=
  RunC prog (Instr.alloc T.t_ref04_Table true (.tuple #[])) w fun t6 w1 =>
  RunQ prog (Instr.build T.t_ref04_Table #[(0, sizes), (1, k)]) w1 fun t12 =>
  RunC prog (Instr.alloc T.t_ref04_Table true (.tuple #[])) w1 fun t w2 =>
  RunC prog (Instr.storeAt T.t_ref04_Table t t12) w2 fun (_ : Unit) w3 =>
  Loop1 (.int .i64 0) w3 fun i w4 k_1 =>
    Cal prog F.ref03_Count [sizes] w4 fun t15 w5 =>
    RunQ prog (binS .lss T.t_int false false i t15) w5 fun t16 =>
    Split t16 (JoinC (α := Value → World → Prop) (fun (c : Value) (w6 : World) =>
      RunQ prog (Instr.fieldAt T.t_ref04_Table t 2) w6 fun t39 =>
      RunQ prog (Instr.loadAt T.t_sl_int64 t39) w6 fun t40 =>
      RunC prog (Instr.buildSlice T.t_sl_int64 1 #[(0, c)]) w6 fun t42 w7 =>
      RunC prog (Builtin.append_ #[T.t_sl_int64, T.t_sl_int64] T.t_sl_int64 #[t40, t42]) w7 fun t43 w8 =>
      RunQ prog (Instr.fieldAt T.t_ref04_Table t 2) w8 fun t44 =>
      RunC prog (Instr.storeAt T.t_sl_int64 t44 t43) w8 fun (_ : Unit) w9 =>
      RunQ prog (binS .add T.t_int false true i (.int .i64 1)) w9 fun t18 =>
    k_1 t18 w9) fun J =>
    RunQ prog (Builtin.len_ #[T.t_sl_uint16] T.t_int #[l]) w5 fun t21 =>
    RunQ prog (binS .lss T.t_int false false i t21) w5 fun t22 =>
    Split t22 (RunQ prog (Instr.indexAt T.t_sl_uint16 l i) w5 fun t25 =>
     RunQ prog (Instr.loadAt T.t_uint16 t25) w5 fun t26 =>
     RunQ prog (binS .quo T.t_uint16 false true t26 (.int .u16 5)) w5 fun t27 =>
     RunQ prog (convert T.t_uint16 T.t_int64 t27) w5 fun t28 =>
     RunQ prog (binS .add T.t_int64 false true k (.int .i64 1)) w5 fun t30 =>
     RunQ prog (binS .rem T.t_int64 false false t28 t30) w5 fun t31 =>
     RunQ prog (Instr.indexAt T.t_sl_uint16 l i) w5 fun t34 =>
     RunQ prog (Instr.loadAt T.t_uint16 t34) w5 fun t35 =>
     RunQ prog (binS .rem T.t_uint16 false true t35 (.int .u16 5)) w5 fun t36 =>
     RunQ prog (binS .eql T.t_uint16 false true t36 (.int .u16 0)) w5 fun t37 =>
     Split t37 (J k w5)
      (J t31 w5))
     (J (.int .i64 0) w5))
     (RunQ prog (Instr.loadAt T.t_ref04_Table t) w5 fun t45 =>
  RunC prog (Instr.storeAt T.t_ref04_Table t6 t45) w5 fun (_ : Unit) w10 =>
  RunQ prog (do loadVar T.t_ref04_Table (← asAddr t6)) w10 fun r =>
  Q r w10)

theorem ref04_Make.enter {sizes k l : Value} {w : World} {Q : Value → World → Prop} (h : ref04_Make.body sizes k l w Q) : Cal prog F.ref04_Make [sizes, k, l] w Q :=
  Cal.enter' (P := prog) mixed (show prog.funcs[F.ref04_Make]? = some Try.f24 from Try.func24) rfl (by kernel_rfl) (by kernel_rfl) (by kernel_rfl) (by kernel_rfl) (Eq.mp (by kernel_rfl) h)

/-- pennyweight/pennyweightref03.All -/
def ref03_All.body (sizes : Value) (w : World) (Q : Value → World → Prop) : Prop :=
  RunQ prog (Builtin.len_ #[T.t_sl_int] T.t_int #[sizes]) w fun t9 =>
  RunQ prog (binS .eql T.t_int false true t9 (.int .i64 0)) w fun t10 =>
  Split t10 (RunC prog (Instr.buildSlice T.t_sl_sl_int 1 #[(0, (.slice none 0 0))]) w fun t11 w1 =>
   Q t11 w1)
   (RunQ prog (Instr.sliceAt T.t_sl_int sizes (some (.int .i64 1)) none none) w fun t13 =>
  Cal prog F.ref03_All [t13] w fun t14 w2 =>
  Loop2 (.slice none 0 0) (.int .i64 0) w2 fun out v w3 k =>
    RunQ prog (Instr.indexAt T.t_sl_int sizes (.int .i64 0)) w3 fun t17 =>
    RunQ prog (Instr.loadAt T.t_int t17) w3 fun t18 =>
    RunQ prog (binS .lss T.t_int false false v t18) w3 fun t19 =>
    Split t19 (RunQ prog (Builtin.len_ #[T.t_sl_sl_int] T.t_int #[t14]) w3 fun t23 =>
    Loop2 out (.int .i64 0) w3 fun out_1 t24 w4 k_1 =>
      RunQ prog (binS .lss T.t_int false false t24 t23) w4 fun t25 =>
      Split t25 (RunQ prog (Instr.indexAt T.t_sl_sl_int t14 t24) w4 fun t26 =>
      RunQ prog (Instr.loadAt T.t_sl_int t26) w4 fun t27 =>
      RunC prog (Instr.buildSlice T.t_sl_int 1 #[(0, v)]) w4 fun t30 w5 =>
      RunC prog (Builtin.append_ #[T.t_sl_int, T.t_sl_int] T.t_sl_int #[t30, t27]) w5 fun t32 w6 =>
      RunC prog (Instr.buildSlice T.t_sl_sl_int 1 #[(0, t32)]) w6 fun t33 w7 =>
      RunC prog (Builtin.append_ #[T.t_sl_sl_int, T.t_sl_sl_int] T.t_sl_sl_int #[out_1, t33]) w7 fun t34 w8 =>
      RunQ prog (binS .add T.t_int false true t24 (.int .i64 1)) w8 fun t35 =>
      k_1 t34 t35 w8)
       (RunQ prog (binS .add T.t_int false true v (.int .i64 1)) w4 fun t21 =>
    k out_1 t21 w4))
     (Q out w3))

theorem ref03_All.enter {sizes : Value} {w : World} {Q : Value → World → Prop} (h : ref03_All.body sizes w Q) : Cal prog F.ref03_All [sizes] w Q :=
  Cal.enter' (P := prog) mixed (show prog.funcs[F.ref03_All]? = some Try.f25 from Try.func25) rfl (by kernel_rfl) (by kernel_rfl) (by kernel_rfl) (by kernel_rfl) (Eq.mp (by kernel_rfl) h)

/-- slices.Equal[[]int,int] -/
def slices_Equal_int_int.body (s1 s2 : Value) (w : World) (Q : Value → World → Prop) : Prop :=
  RunQ prog (Builtin.len_ #[T.t_sl_int] T.t_int #[s1]) w fun t7 =>
  RunQ prog (Builtin.len_ #[T.t_sl_int] T.t_int #[s2]) w fun t9 =>
  RunQ prog (binS .neq T.t_int false false t7 t9) w fun t10 =>
  Split t10 (Q (.bool false) w)
   (RunQ prog (Builtin.len_ #[T.t_sl_int] T.t_int #[s1]) w fun t12 =>
  Loop2 (.bool false) (.int .i64 0) w fun t4 t13 w1 k =>
    RunQ prog (binS .lss T.t_int false false t13 t12) w1 fun t14 =>
    Split t14 (Drew w1 fun w2 =>
    RunQ prog (Instr.indexAt T.t_sl_int s1 t13) w2 fun t18 =>
    RunQ prog (Instr.loadAt T.t_int t18) w2 fun t19 =>
    RunQ prog (Instr.indexAt T.t_sl_int s2 t13) w2 fun t22 =>
    RunQ prog (Instr.loadAt T.t_int t22) w2 fun t23 =>
    RunQ prog (binS .neq T.t_int false false t19 t23) w2 fun t24 =>
    Split t24 (Q (.bool false) w2)
     (RunQ prog (binS .add T.t_int false true t13 (.int .i64 1)) w2 fun t25 =>
    k t4 t25 w2))
     (Q (.bool true) w1))

theorem slices_Equal_int_int.enter {s1 s2 : Value} {w : World} {Q : Value → World → Prop} (h : slices_Equal_int_int.body s1 s2 w Q) : Cal prog F.slices_Equal_int_int [s1, s2] w Q :=
  Cal.enter' (P := prog) mixed (show prog.funcs[F.slices_Equal_int_int]? = some Try.f26 from Try.func26) rfl (by kernel_rfl) (by kernel_rfl) (by kernel_rfl) (by kernel_rfl) (Eq.mp (by kernel_rfl) h)

/-- slices.Equal[[]int64,int64] -/
def slices_Equal_int64_int64.body (s1 s2 : Value) (w : World) (Q : Value → World → Prop) : Prop :=
  RunQ prog (Builtin.len_ #[T.t_sl_int64] T.t_int #[s1]) w fun t7 =>
  RunQ prog (Builtin.len_ #[T.t_sl_int64] T.t_int #[s2]) w fun t9 =>
  RunQ prog (binS .neq T.t_int false false t7 t9) w fun t10 =>
  Split t10 (Q (.bool false) w)
   (RunQ prog (Builtin.len_ #[T.t_sl_int64] T.t_int #[s1]) w fun t12 =>
  Loop2 (.bool false) (.int .i64 0) w fun t4 t13 w1 k =>
    RunQ prog (binS .lss T.t_int false false t13 t12) w1 fun t14 =>
    Split t14 (Drew w1 fun w2 =>
    RunQ prog (Instr.indexAt T.t_sl_int64 s1 t13) w2 fun t18 =>
    RunQ prog (Instr.loadAt T.t_int64 t18) w2 fun t19 =>
    RunQ prog (Instr.indexAt T.t_sl_int64 s2 t13) w2 fun t22 =>
    RunQ prog (Instr.loadAt T.t_int64 t22) w2 fun t23 =>
    RunQ prog (binS .neq T.t_int64 false false t19 t23) w2 fun t24 =>
    Split t24 (Q (.bool false) w2)
     (RunQ prog (binS .add T.t_int false true t13 (.int .i64 1)) w2 fun t25 =>
    k t4 t25 w2))
     (Q (.bool true) w1))

theorem slices_Equal_int64_int64.enter {s1 s2 : Value} {w : World} {Q : Value → World → Prop} (h : slices_Equal_int64_int64.body s1 s2 w Q) : Cal prog F.slices_Equal_int64_int64 [s1, s2] w Q :=
  Cal.enter' (P := prog) mixed (show prog.funcs[F.slices_Equal_int64_int64]? = some Try.f27 from Try.func27) rfl (by kernel_rfl) (by kernel_rfl) (by kernel_rfl) (by kernel_rfl) (Eq.mp (by kernel_rfl) h)

/-- pennyweight/tuples.Same -/
def tuples_Same.body (a b : Value) (w : World) (Q : Value → World → Prop) : Prop :=
  JoinC (α := Value → World → Prop) (fun (t15 : Value) (w1 : World) =>
    Split t15 (RunQ prog (binS .eql T.t_p_tuples_Tuples false false a b) w1 fun t18 =>
     Q t18 w1)
     (JoinC (α := Value → World → Prop) (fun (t39 : Value) (w2 : World) =>
    Split t39 (Q (.bool false) w2)
     (RunC prog (Instr.makeMap T.t_map_tuples_key_int none) w2 fun t40 w3 =>
  RunC prog (Instr.buildSlice T.t_sl_p_tuples_Tuples 2 #[(0, a), (1, b)]) w3 fun t43 w4 =>
  RunQ prog (Builtin.len_ #[T.t_sl_p_tuples_Tuples] T.t_int #[t43]) w4 fun t44 =>
  Loop1 (.int .i64 0) w4 fun t45 w5 k =>
    RunQ prog (binS .lss T.t_int false false t45 t44) w5 fun t46 =>
    Split t46 (RunQ prog (Instr.indexAt T.t_sl_p_tuples_Tuples t43 t45) w5 fun t47 =>
    RunQ prog (Instr.loadAt T.t_p_tuples_Tuples t47) w5 fun t48 =>
    RunQ prog (nilS t48) w5 fun t50 =>
    RunQ prog (Instr.fieldAt T.t_tuples_Tuples t50 3) w5 fun t51 =>
    RunQ prog (Instr.loadAt T.t_map_tuples_key_int64 t51) w5 fun t52 =>
    RunC prog (Instr.range T.t_map_tuples_key_int64 t52) w5 fun t53 w6 =>
    Loop0 w6 fun w7 k_1 =>
      RunN prog (false, w.heap.size) (Instr.next t53 false 0) w7 fun t54 w8 =>
      RunQ prog (Instr.extract t54 0) w8 fun t55 =>
      Split t55 (RunC prog (Instr.entry t53) w8 fun t56 w9 =>
      RunQ prog (Instr.extract t56 0) w9 fun t57 =>
      RunC prog (Instr.alloc T.t_tuples_key true (.tuple #[])) w9 fun x w10 =>
      RunC prog (Instr.storeAt T.t_tuples_key x t57) w10 fun (_ : Unit) w11 =>
      Drew w11 fun w12 =>
      RunQ prog (Instr.loadAt T.t_tuples_key x) w12 fun t59 =>
      RunQ prog (Instr.lookup T.t_map_tuples_key_int t40 t59 false) w12 fun t60 =>
      RunQ prog (binS .add T.t_int false true t60 (.int .i64 1)) w12 fun t61 =>
      RunC prog (Instr.mapEntry T.t_map_tuples_key_int t40 t59) w12 fun t62 w13 =>
       (Ext w12 w13 ∨ Stays prog (binS .add T.t_int false true t60 (.int .i64 1)) t61 w13 ∧ Stays prog (Instr.lookup T.t_map_tuples_key_int t40 t59 false) t60 w13 ∧ True) ∧
      RunQ prog (Instr.extract t62 1) w13 fun t63 =>
       RunC prog (Instr.entryStore T.t_map_tuples_key_int t40 t63 t61) w13 fun (_ : Unit) w14 =>
        k_1 w14)
       (RunQ prog (binS .add T.t_int false true t45 (.int .i64 1)) w8 fun t64 =>
    k t64 w8))
     (RunC prog (Instr.range T.t_map_tuples_key_int t40) w5 fun t66 w15 =>
  Loop1 (.bool false) w15 fun t4 w16 k_2 =>
    RunN prog (false, w.heap.size) (Instr.next t66 false 0) w16 fun t67 w17 =>
    RunQ prog (Instr.extract t67 0) w17 fun t68 =>
    Split t68 (RunC prog (Instr.entry t66) w17 fun t69 w18 =>
    RunQ prog (Instr.extract t69 0) w18 fun t70 =>
    RunC prog (Instr.alloc T.t_tuples_key true (.tuple #[])) w18 fun x_1 w19 =>
    RunC prog (Instr.storeAt T.t_tuples_key x_1 t70) w19 fun (_ : Unit) w20 =>
    Drew w20 fun w21 =>
    RunQ prog (Instr.loadAt T.t_tuples_key x_1) w21 fun t72 =>
    RunQ prog (Instr.loadAt T.t_tuples_key x_1) w21 fun t75 =>
    Cal prog F.P_tuples_Tuples_of [a, t72] w21 fun t73 w22 =>
     (Ext w21 w22 ∨ Stays prog (Instr.loadAt T.t_tuples_key x_1) t75 w22 ∧ True) ∧
    Cal prog F.P_tuples_Tuples_of [b, t75] w22 fun t76 w23 =>
      RunQ prog (binS .neq T.t_int64 false false t73 t76) w23 fun t77 =>
      Split t77 (Q (.bool false) w23)
     (k_2 t4 w23))
     (JoinC (α := Value → World → Prop) (fun (t4_1 : Value) (w24 : World) =>
    Q t4_1 w24) fun J_2 =>
  Drew w17 fun w25 =>
  RunQ prog (nilS a) w25 fun t79 =>
  RunQ prog (Instr.fieldAt T.t_tuples_Tuples t79 2) w25 fun t80 =>
  RunQ prog (Instr.loadAt T.t_int64 t80) w25 fun t81 =>
  RunQ prog (nilS b) w25 fun t83 =>
  RunQ prog (Instr.fieldAt T.t_tuples_Tuples t83 2) w25 fun t84 =>
  RunQ prog (Instr.loadAt T.t_int64 t84) w25 fun t85 =>
  RunQ prog (binS .eql T.t_int64 false false t81 t85) w25 fun t86 =>
  Split t86 (J_2 (.bool true) w25)
   (RunQ prog (Builtin.len_ #[T.t_map_tuples_key_int] T.t_int #[t40]) w25 fun t89 =>
  Cal prog F.P_tuples_Tuples_count [a] w25 fun t91 w26 =>
   RunQ prog (binS .eql T.t_int false false t89 t91) w26 fun t92 =>
   J_2 t92 w26))))) fun J_1 =>
  Drew w1 fun w27 =>
  RunQ prog (nilS a) w27 fun t20 =>
  RunQ prog (Instr.fieldAt T.t_tuples_Tuples t20 0) w27 fun t21 =>
  RunQ prog (Instr.loadAt T.t_sl_int t21) w27 fun t22 =>
  RunQ prog (nilS b) w27 fun t24 =>
  RunQ prog (Instr.fieldAt T.t_tuples_Tuples t24 0) w27 fun t25 =>
  RunQ prog (Instr.loadAt T.t_sl_int t25) w27 fun t26 =>
  Cal prog F.slices_Equal_int_int [t22, t26] w27 fun t27 w28 =>
   RunQ prog (Op.unary .not t27) w28 fun t28 =>
   Split t28 (J_1 (.bool true) w28)
    (RunQ prog (nilS a) w28 fun t31 =>
   RunQ prog (Instr.fieldAt T.t_tuples_Tuples t31 1) w28 fun t32 =>
   RunQ prog (Instr.loadAt T.t_int64 t32) w28 fun t33 =>
   RunQ prog (nilS b) w28 fun t35 =>
   RunQ prog (Instr.fieldAt T.t_tuples_Tuples t35 1) w28 fun t36 =>
   RunQ prog (Instr.loadAt T.t_int64 t36) w28 fun t37 =>
   RunQ prog (binS .neq T.t_int64 false false t33 t37) w28 fun t38 =>
   J_1 t38 w28))) fun J =>
  RunQ prog (binS .eql T.t_p_tuples_Tuples false true a (.pointer none)) w fun t11 =>
  Split t11 (J (.bool true) w)
   (RunQ prog (binS .eql T.t_p_tuples_Tuples false true b (.pointer none)) w fun t14 =>
  J t14 w)

theorem tuples_Same.enter {a b : Value} {w : World} {Q : Value → World → Prop} (h : tuples_Same.body a b w Q) : Cal prog F.tuples_Same [a, b] w Q :=
  Cal.enter' (P := prog) mixed (show prog.funcs[F.tuples_Same]? = some Try.f28 from Try.func28) rfl (by kernel_rfl) (by kernel_rfl) (by kernel_rfl) (by kernel_rfl) (Eq.mp (by kernel_rfl) h)

/-- pennyweight/table.New -/
def table_New.body (sizes k fill : Value) (w : World) (Q : Value → World → Prop) : Prop :=
  Cal prog F.shape_New [sizes] w fun t12 w1 =>
  RunQ prog (Instr.extract t12 0) w1 fun t13 =>
  RunQ prog (Instr.extract t12 1) w1 fun t14 =>
  RunC prog (Instr.alloc T.t_shape_Shape true (.tuple #[])) w1 fun s w2 =>
  RunC prog (Instr.storeAt T.t_shape_Shape s t13) w2 fun (_ : Unit) w3 =>
  RunQ prog (binS .neq T.t_api_Errno false true t14 (.int .i64 0)) w3 fun t17 =>
  Split t17 (Q (.tuple #[(.pointer none), t14]) w3)
   (Cal prog F.cost_In [fill, k] w3 fun t22 w4 =>
   RunQ prog (Op.unary .not t22) w4 fun t23 =>
   Split t23 (Q (.tuple #[(.pointer none), (.int .i64 3)]) w4)
    (JoinC (α := Value → Value → World → Prop) (fun (t6 t7 : Value) (w5 : World) =>
    Q (.tuple #[t6, t7]) w5) fun J =>
  Drew w4 fun w6 =>
  RunQ prog (Instr.loadAt T.t_shape_Shape s) w6 fun t24 =>
  RunQ prog (Instr.loadAt T.t_shape_Shape s) w6 fun t28 =>
  (RunC prog (Instr.buildSlice T.t_sl_int64 1 #[(0, fill)]) w6 fun t27 w7 =>
   (Ext w6 w7 ∨ Stays prog (Instr.loadAt T.t_shape_Shape s) t28 w7 ∧ Stays prog (Instr.loadAt T.t_shape_Shape s) t24 w7 ∧ True) ∧
  Cal prog F.shape_Shape_Count [t28] w7 fun t29 w8 =>
    (Ext w6 w8 ∨ Stays prog (Instr.loadAt T.t_shape_Shape s) t24 w8 ∧ True) ∧
   Cal prog F.slices_Repeat_int64_int64 [t27, t29] w8 fun t30 w9 =>
     (Ext w6 w9 ∨ Stays prog (Instr.loadAt T.t_shape_Shape s) t24 w9 ∧ True) ∧
    RunQ prog (Instr.build T.t_table_Table #[(0, t24), (1, k), (2, t30)]) w9 fun t31 =>
     RunC prog (Instr.box T.t_table_Table t31) w9 fun t32 w10 =>
      J t32 (.int .i64 0) w10) ∧
  (Cal prog F.shape_Shape_Count [t28] w6 fun t29_1 w11 =>
   (Ext w6 w11 ∨ Stays prog (Instr.loadAt T.t_shape_Shape s) t24 w11 ∧ True) ∧
  RunC prog (Instr.buildSlice T.t_sl_int64 1 #[(0, fill)]) w11 fun t27_1 w12 =>
    (Ext w6 w12 ∨ Stays prog (Instr.loadAt T.t_shape_Shape s) t28 w12 ∧ Stays prog (Instr.loadAt T.t_shape_Shape s) t24 w12 ∧ True) ∧
   Cal prog F.slices_Repeat_int64_int64 [t27_1, t29_1] w12 fun t30_1 w13 =>
     (Ext w6 w13 ∨ Stays prog (Instr.loadAt T.t_shape_Shape s) t24 w13 ∧ True) ∧
    RunQ prog (Instr.build T.t_table_Table #[(0, t24), (1, k), (2, t30_1)]) w13 fun t31_1 =>
     RunC prog (Instr.box T.t_table_Table t31_1) w13 fun t32_1 w14 =>
      J t32_1 (.int .i64 0) w14)))

theorem table_New.enter {sizes k fill : Value} {w : World} {Q : Value → World → Prop} (h : table_New.body sizes k fill w Q) : Cal prog F.table_New [sizes, k, fill] w Q :=
  Cal.enter' (P := prog) mixed (show prog.funcs[F.table_New]? = some Try.f29 from Try.func29) rfl (by kernel_rfl) (by kernel_rfl) (by kernel_rfl) (by kernel_rfl) (Eq.mp (by kernel_rfl) h)

/-- (*pennyweight/table.Table).Put -/
def P_table_Table_Put.body (t tuple c : Value) (w : World) (Q : Value → World → Prop) : Prop :=
  Cal prog F.P_table_Table_at [t, tuple] w fun t12 w1 =>
  RunQ prog (Instr.extract t12 0) w1 fun t13 =>
  RunQ prog (Instr.extract t12 1) w1 fun t14 =>
  RunQ prog (binS .neq T.t_api_Errno false true t14 (.int .i64 0)) w1 fun t17 =>
  Split t17 (Q t14 w1)
   (RunQ prog (nilS t) w1 fun t22 =>
   RunQ prog (Instr.fieldAt T.t_table_Table t22 1) w1 fun t23 =>
   RunQ prog (Instr.loadAt T.t_int64 t23) w1 fun t24 =>
   Cal prog F.cost_In [c, t24] w1 fun t25 w2 =>
   RunQ prog (Op.unary .not t25) w2 fun t26 =>
   Split t26 (Q (.int .i64 3) w2)
    (RunQ prog (nilS t) w2 fun t28 =>
  RunQ prog (Instr.fieldAt T.t_table_Table t28 2) w2 fun t29 =>
  RunQ prog (Instr.loadAt T.t_sl_int64 t29) w2 fun t30 =>
  RunQ prog (Instr.indexAt T.t_sl_int64 t30 t13) w2 fun t33 =>
  RunC prog (Instr.storeAt T.t_int64 t33 c) w2 fun (_ : Unit) w3 =>
  Q (.int .i64 0) w3))

theorem P_table_Table_Put.enter {t tuple c : Value} {w : World} {Q : Value → World → Prop} (h : P_table_Table_Put.body t tuple c w Q) : Cal prog F.P_table_Table_Put [t, tuple, c] w Q :=
  Cal.enter' (P := prog) mixed (show prog.funcs[F.P_table_Table_Put]? = some Try.f30 from Try.func30) rfl (by kernel_rfl) (by kernel_rfl) (by kernel_rfl) (by kernel_rfl) (Eq.mp (by kernel_rfl) h)

/-- pennyweight/tuples.Of -/
def tuples_Of.body (t : Value) (w : World) (Q : Value → World → Prop) : Prop :=
  RunQ prog (binS .eql T.t_p_table_Table false true t (.pointer none)) w fun t9 =>
  Split t9 (Again w fun w1 => Q (.pointer none) w1)
   (Cal prog F.P_table_Table_Entries [t] w fun t11 w2 =>
  RunC prog (Instr.alloc T.t_sl_int64 true (.tuple #[])) w2 fun l w3 =>
  RunC prog (Instr.storeAt T.t_sl_int64 l t11) w3 fun (_ : Unit) w4 =>
  JoinC (α := Value → World → Prop) (fun (u : Value) (w5 : World) =>
    Cal prog F.P_table_Table_Shape [t] w5 fun t24 w6 =>
    Cal prog F.shape_Shape_All [t24] w6 fun t25 w7 =>
    Range2 prog t25 w7 (fun t26 t27 w8 k =>
      Over w8 fun w9 =>
      Drew w9 fun w10 =>
      RunQ prog (Instr.loadAt T.t_p_tuples_Tuples u) w10 fun t28 =>
      RunQ prog (Instr.loadAt T.t_sl_int64 l) w10 fun t30 =>
      RunQ prog (Instr.indexAt T.t_sl_int64 t30 t26) w10 fun t32 =>
      RunQ prog (Instr.loadAt T.t_int64 t32) w10 fun t33 =>
      Cal prog F.P_tuples_Tuples_Put [t28, t27, t33] w10 fun t34 w11 =>
       k .normal w11)
     (fun w12 =>
      RunQ prog (Instr.loadAt T.t_p_tuples_Tuples u) w12 fun t35 =>
    Again w12 fun w13 => Q t35 w13)
     (fun _ => False)
     []) fun J =>
  Drew w4 fun w14 =>
  RunQ prog (Instr.loadAt T.t_sl_int64 l) w14 fun t18 =>
  (Cal prog F.P_table_Table_Shape [t] w14 fun t14 w15 =>
   (Ext w14 w15 ∨ Stays prog (Instr.loadAt T.t_sl_int64 l) t18 w15 ∧ True) ∧
  (Cal prog F.shape_Shape_Sizes [t14] w15 fun t15 w16 =>
    (Ext w14 w16 ∨ Stays prog (Instr.loadAt T.t_sl_int64 l) t18 w16 ∧ True) ∧
   (Cal prog F.P_table_Table_K [t] w16 fun t17 w17 =>
     (Ext w14 w17 ∨ Stays prog (Instr.loadAt T.t_sl_int64 l) t18 w17 ∧ True) ∧
    (Cal prog F.tuples_most [t18] w17 fun t19 w18 =>
      (Cal prog F.tuples_New [t15, t17, t19] w18 fun t20 w19 =>
       RunQ prog (Instr.extract t20 0) w19 fun t21 =>
       RunQ prog (Instr.extract t20 1) w19 fun t22 =>
       RunC prog (Instr.alloc T.t_p_tuples_Tuples true (.tuple #[])) w19 fun u_1 w20 =>
        (Ext w14 w20 ∨ Stays prog (Instr.loadAt T.t_sl_int64 l) t18 w20 ∧ True) ∧
       RunC prog (Instr.storeAt T.t_p_tuples_Tuples u_1 t21) w20 fun (_ : Unit) w21 =>
         J u_1 w21) ∧
      (RunC prog (Instr.alloc T.t_p_tuples_Tuples true (.tuple #[])) w18 fun u_2 w22 =>
       (Ext w14 w22 ∨ Stays prog (Instr.loadAt T.t_sl_int64 l) t18 w22 ∧ True) ∧
      Cal prog F.tuples_New [t15, t17, t19] w22 fun t20_1 w23 =>
        RunQ prog (Instr.extract t20_1 0) w23 fun t21_1 =>
        RunQ prog (Instr.extract t20_1 1) w23 fun t22_1 =>
        RunC prog (Instr.storeAt T.t_p_tuples_Tuples u_2 t21_1) w23 fun (_ : Unit) w24 =>
         J u_2 w24)) ∧
     (RunC prog (Instr.alloc T.t_p_tuples_Tuples true (.tuple #[])) w17 fun u_3 w25 =>
      (Ext w14 w25 ∨ Stays prog (Instr.loadAt T.t_sl_int64 l) t18 w25 ∧ True) ∧
     Cal prog F.tuples_most [t18] w25 fun t19_1 w26 =>
       Cal prog F.tuples_New [t15, t17, t19_1] w26 fun t20_2 w27 =>
        RunQ prog (Instr.extract t20_2 0) w27 fun t21_2 =>
        RunQ prog (Instr.extract t20_2 1) w27 fun t22_2 =>
        RunC prog (Instr.storeAt T.t_p_tuples_Tuples u_3 t21_2) w27 fun (_ : Unit) w28 =>
         J u_3 w28)) ∧
    (RunC prog (Instr.alloc T.t_p_tuples_Tuples true (.tuple #[])) w16 fun u_4 w29 =>
     (Ext w14 w29 ∨ Stays prog (Instr.loadAt T.t_sl_int64 l) t18 w29 ∧ True) ∧
    Cal prog F.P_table_Table_K [t] w29 fun t17_1 w30 =>
      (Ext w14 w30 ∨ Stays prog (Instr.loadAt T.t_sl_int64 l) t18 w30 ∧ True) ∧
     Cal prog F.tuples_most [t18] w30 fun t19_2 w31 =>
       Cal prog F.tuples_New [t15, t17_1, t19_2] w31 fun t20_3 w32 =>
        RunQ prog (Instr.extract t20_3 0) w32 fun t21_3 =>
        RunQ prog (Instr.extract t20_3 1) w32 fun t22_3 =>
        RunC prog (Instr.storeAt T.t_p_tuples_Tuples u_4 t21_3) w32 fun (_ : Unit) w33 =>
         J u_4 w33)) ∧
   (RunC prog (Instr.alloc T.t_p_tuples_Tuples true (.tuple #[])) w15 fun u_5 w34 =>
    (Ext w14 w34 ∨ Stays prog (Instr.loadAt T.t_sl_int64 l) t18 w34 ∧ True) ∧
   Cal prog F.shape_Shape_Sizes [t14] w34 fun t15_1 w35 =>
     (Ext w14 w35 ∨ Stays prog (Instr.loadAt T.t_sl_int64 l) t18 w35 ∧ True) ∧
    Cal prog F.P_table_Table_K [t] w35 fun t17_2 w36 =>
      (Ext w14 w36 ∨ Stays prog (Instr.loadAt T.t_sl_int64 l) t18 w36 ∧ True) ∧
     Cal prog F.tuples_most [t18] w36 fun t19_3 w37 =>
       Cal prog F.tuples_New [t15_1, t17_2, t19_3] w37 fun t20_4 w38 =>
        RunQ prog (Instr.extract t20_4 0) w38 fun t21_4 =>
        RunQ prog (Instr.extract t20_4 1) w38 fun t22_4 =>
        RunC prog (Instr.storeAt T.t_p_tuples_Tuples u_5 t21_4) w38 fun (_ : Unit) w39 =>
         J u_5 w39)) ∧
  (RunC prog (Instr.alloc T.t_p_tuples_Tuples true (.tuple #[])) w14 fun u_6 w40 =>
   (Ext w14 w40 ∨ Stays prog (Instr.loadAt T.t_sl_int64 l) t18 w40 ∧ True) ∧
  Cal prog F.P_table_Table_Shape [t] w40 fun t14_1 w41 =>
    (Ext w14 w41 ∨ Stays prog (Instr.loadAt T.t_sl_int64 l) t18 w41 ∧ True) ∧
   Cal prog F.shape_Shape_Sizes [t14_1] w41 fun t15_2 w42 =>
     (Ext w14 w42 ∨ Stays prog (Instr.loadAt T.t_sl_int64 l) t18 w42 ∧ True) ∧
    Cal prog F.P_table_Table_K [t] w42 fun t17_3 w43 =>
      (Ext w14 w43 ∨ Stays prog (Instr.loadAt T.t_sl_int64 l) t18 w43 ∧ True) ∧
     Cal prog F.tuples_most [t18] w43 fun t19_4 w44 =>
       Cal prog F.tuples_New [t15_2, t17_3, t19_4] w44 fun t20_5 w45 =>
        RunQ prog (Instr.extract t20_5 0) w45 fun t21_5 =>
        RunQ prog (Instr.extract t20_5 1) w45 fun t22_5 =>
        RunC prog (Instr.storeAt T.t_p_tuples_Tuples u_6 t21_5) w45 fun (_ : Unit) w46 =>
         J u_6 w46))

theorem tuples_Of.enter {t : Value} {w : World} {Q : Value → World → Prop} (h : tuples_Of.body t w Q) : Cal prog F.tuples_Of [t] w Q :=
  Cal.enter (P := prog) mixed (show prog.funcs[F.tuples_Of]? = some Try.f31 from Try.func31) rfl (by kernel_rfl) (by kernel_rfl) (by kernel_rfl) (Eq.mp (by kernel_rfl) h)

/-- (*pennyweight/tuples.Tuples).Table -/
def P_tuples_Tuples_Table.body (t : Value) (w : World) (Q : Value → World → Prop) : Prop :=
  RunQ prog (binS .eql T.t_p_tuples_Tuples false true t (.pointer none)) w fun t9 =>
  Split t9 (Q (.tuple #[(.pointer none), (.int .i64 2)]) w)
   (Drew w fun w1 =>
  RunQ prog (nilS t) w1 fun t12 =>
  RunQ prog (Instr.fieldAt T.t_tuples_Tuples t12 0) w1 fun t13 =>
  RunQ prog (Instr.loadAt T.t_sl_int t13) w1 fun t14 =>
  RunQ prog (nilS t) w1 fun t16 =>
  RunQ prog (Instr.fieldAt T.t_tuples_Tuples t16 1) w1 fun t17 =>
  RunQ prog (Instr.loadAt T.t_int64 t17) w1 fun t18 =>
  RunQ prog (nilS t) w1 fun t20 =>
  RunQ prog (Instr.fieldAt T.t_tuples_Tuples t20 2) w1 fun t21 =>
  RunQ prog (Instr.loadAt T.t_int64 t21) w1 fun t22 =>
  Cal prog F.table_New [t14, t18, t22] w1 fun t23 w2 =>
   RunQ prog (Instr.extract t23 0) w2 fun t24 =>
   RunQ prog (Instr.extract t23 1) w2 fun t25 =>
   RunQ prog (binS .neq T.t_api_Errno false true t25 (.int .i64 0)) w2 fun t27 =>
  Split t27 (Q (.tuple #[(.pointer none), t25]) w2)
   (Cal prog F.P_tuples_Tuples_Lines [t] w2 fun t30 w3 =>
  RunQ prog (Builtin.len_ #[T.t_sl_tuples_Line] T.t_int #[t30]) w3 fun t31 =>
  Loop1 (.int .i64 0) w3 fun t32 w4 k =>
    RunQ prog (binS .lss T.t_int false false t32 t31) w4 fun t33 =>
    Split t33 (RunQ prog (Instr.indexAt T.t_sl_tuples_Line t30 t32) w4 fun t34 =>
    RunQ prog (Instr.loadAt T.t_tuples_Line t34) w4 fun t35 =>
    RunC prog (Instr.alloc T.t_tuples_Line true (.tuple #[])) w4 fun l w5 =>
    RunC prog (Instr.storeAt T.t_tuples_Line l t35) w5 fun (_ : Unit) w6 =>
    RunQ prog (Instr.fieldAt T.t_tuples_Line l 0) w6 fun t37 =>
    RunQ prog (Instr.loadAt T.t_sl_int t37) w6 fun t38 =>
    RunQ prog (Instr.fieldAt T.t_tuples_Line l 1) w6 fun t39 =>
    RunQ prog (Instr.loadAt T.t_int64 t39) w6 fun t40 =>
    Cal prog F.P_table_Table_Put [t24, t38, t40] w6 fun t41 w7 =>
    RunQ prog (binS .add T.t_int false true t32 (.int .i64 1)) w7 fun t42 =>
    k t42 w7)
     (Q (.tuple #[t24, (.int .i64 0)]) w4)))

theorem P_tuples_Tuples_Table.enter {t : Value} {w : World} {Q : Value → World → Prop} (h : P_tuples_Tuples_Table.body t w Q) : Cal prog F.P_tuples_Tuples_Table [t] w Q :=
  Cal.enter' (P := prog) mixed (show prog.funcs[F.P_tuples_Tuples_Table]? = some Try.f32 from Try.func32) rfl (by kernel_rfl) (by kernel_rfl) (by kernel_rfl) (by kernel_rfl) (Eq.mp (by kernel_rfl) h)

/-- pennyweight/pennyweightref05.Most -/
def ref05_Most.body (t : Value) (w : World) (Q : Value → World → Prop) : Prop :=
  RunC prog (Instr.box T.t_ref04_Table t) w fun t_1 w1 =>
  RunQ prog (Instr.fieldAt T.t_ref04_Table t_1 2) w1 fun t10 =>
  RunQ prog (Instr.loadAt T.t_sl_int64 t10) w1 fun t11 =>
  RunQ prog (Builtin.len_ #[T.t_sl_int64] T.t_int #[t11]) w1 fun t12 =>
  Loop3 (.int .i64 0) (.int .i64 0) (.int .i64 0) w1 fun best times t13 w2 k =>
    RunQ prog (binS .lss T.t_int false false t13 t12) w2 fun t14 =>
    Split t14 (JoinC (α := Value → Value → World → Prop) (fun (best_1 times_1 : Value) (w3 : World) =>
      RunQ prog (binS .add T.t_int false true t13 (.int .i64 1)) w3 fun t45 =>
      k best_1 times_1 t45 w3) fun J =>
    RunQ prog (Instr.indexAt T.t_sl_int64 t11 t13) w2 fun t15 =>
    RunQ prog (Instr.loadAt T.t_int64 t15) w2 fun t16 =>
    RunQ prog (Instr.fieldAt T.t_ref04_Table t_1 2) w2 fun t17 =>
    RunQ prog (Instr.loadAt T.t_sl_int64 t17) w2 fun t18 =>
    RunQ prog (Builtin.len_ #[T.t_sl_int64] T.t_int #[t18]) w2 fun t19 =>
    Loop2 (.int .i64 0) (.int .i64 0) w2 fun n t20 w4 k_1 =>
      RunQ prog (binS .lss T.t_int false false t20 t19) w4 fun t21 =>
      Split t21 (JoinC (α := Value → World → Prop) (fun (n_1 : Value) (w5 : World) =>
        RunQ prog (binS .add T.t_int false true t20 (.int .i64 1)) w5 fun t29 =>
        k_1 n_1 t29 w5) fun J_1 =>
      RunQ prog (Instr.indexAt T.t_sl_int64 t18 t20) w4 fun t22 =>
      RunQ prog (Instr.loadAt T.t_int64 t22) w4 fun t23 =>
      RunQ prog (binS .eql T.t_int64 false false t23 t16) w4 fun t26 =>
      Split t26 (RunQ prog (binS .add T.t_int false true n (.int .i64 1)) w4 fun t28 =>
       J_1 t28 w4)
       (J_1 n w4))
       (JoinC (α := Value → World → Prop) (fun (t42 : Value) (w6 : World) =>
      Split t42 (J t16 n w6)
       (J best times w6)) fun J_2 =>
    RunQ prog (binS .gtr T.t_int false false n times) w4 fun t32 =>
    Split t32 (J_2 (.bool true) w4)
     (RunQ prog (binS .eql T.t_int false false n times) w4 fun t36 =>
    Split t36 (RunQ prog (binS .lss T.t_int64 false false t16 best) w4 fun t40 =>
    J_2 t40 w4)
     (J_2 (.bool false) w4))))
     (Q best w2)

theorem ref05_Most.enter {t : Value} {w : World} {Q : Value → World → Prop} (h : ref05_Most.body t w Q) : Cal prog F.ref05_Most [t] w Q :=
  Cal.enter' (P := prog) mixed (show prog.funcs[F.ref05_Most]? = some Try.f33 from Try.func33) rfl (by kernel_rfl) (by kernel_rfl) (by kernel_rfl) (by kernel_rfl) (Eq.mp (by kernel_rfl) h)

/-- pennyweight/table.Same -/
def table_Same.body (a b : Value) (w : World) (Q : Value → World → Prop) : Prop :=
  JoinC (α := Value → World → Prop) (fun (t10 : Value) (w1 : World) =>
    Split t10 (RunQ prog (binS .eql T.t_p_table_Table false false a b) w1 fun t13 =>
     Q t13 w1)
     (JoinC (α := Value → World → Prop) (fun (t4 : Value) (w2 : World) =>
    Q t4 w2) fun J_1 =>
  Drew w1 fun w3 =>
  RunQ prog (nilS a) w3 fun t15 =>
  RunQ prog (Instr.fieldAt T.t_table_Table t15 0) w3 fun t16 =>
  RunQ prog (Instr.loadAt T.t_shape_Shape t16) w3 fun t17 =>
  RunQ prog (nilS b) w3 fun t19 =>
  RunQ prog (Instr.fieldAt T.t_table_Table t19 0) w3 fun t20 =>
  RunQ prog (Instr.loadAt T.t_shape_Shape t20) w3 fun t21 =>
  Cal prog F.shape_Same [t17, t21] w3 fun t22 w4 =>
   Split t22 (RunQ prog (nilS a) w4 fun t25 =>
   RunQ prog (Instr.fieldAt T.t_table_Table t25 1) w4 fun t26 =>
   RunQ prog (Instr.loadAt T.t_int64 t26) w4 fun t27 =>
   RunQ prog (nilS b) w4 fun t29 =>
   RunQ prog (Instr.fieldAt T.t_table_Table t29 1) w4 fun t30 =>
   RunQ prog (Instr.loadAt T.t_int64 t30) w4 fun t31 =>
   RunQ prog (binS .eql T.t_int64 false false t27 t31) w4 fun t32 =>
   Split t32 (RunQ prog (nilS a) w4 fun t36 =>
   RunQ prog (Instr.fieldAt T.t_table_Table t36 2) w4 fun t37 =>
   RunQ prog (Instr.loadAt T.t_sl_int64 t37) w4 fun t38 =>
   RunQ prog (nilS b) w4 fun t40 =>
   RunQ prog (Instr.fieldAt T.t_table_Table t40 2) w4 fun t41 =>
   RunQ prog (Instr.loadAt T.t_sl_int64 t41) w4 fun t42 =>
   Cal prog F.slices_Equal_int64_int64 [t38, t42] w4 fun t43 w5 =>
    J_1 t43 w5)
    (J_1 (.bool false) w4))
    (J_1 (.bool false) w4))) fun J =>
  RunQ prog (binS .eql T.t_p_table_Table false true a (.pointer none)) w fun t6 =>
  Split t6 (J (.bool true) w)
   (RunQ prog (binS .eql T.t_p_table_Table false true b (.pointer none)) w fun t9 =>
  J t9 w)

theorem table_Same.enter {a b : Value} {w : World} {Q : Value → World → Prop} (h : table_Same.body a b w Q) : Cal prog F.table_Same [a, b] w Q :=
  Cal.enter' (P := prog) mixed (show prog.funcs[F.table_Same]? = some Try.f34 from Try.func34) rfl (by kernel_rfl) (by kernel_rfl) (by kernel_rfl) (by kernel_rfl) (Eq.mp (by kernel_rfl) h)

/-- (*pennyweight/tuples.Tuples).Len -/
def P_tuples_Tuples_Len.body (t : Value) (w : World) (Q : Value → World → Prop) : Prop :=
  RunQ prog (binS .eql T.t_p_tuples_Tuples false true t (.pointer none)) w fun t4 =>
  Split t4 (Q (.int .i64 0) w)
   (RunQ prog (nilS t) w fun t6 =>
  RunQ prog (Instr.fieldAt T.t_tuples_Tuples t6 3) w fun t7 =>
  RunQ prog (Instr.loadAt T.t_map_tuples_key_int64 t7) w fun t8 =>
  RunQ prog (Builtin.len_ #[T.t_map_tuples_key_int64] T.t_int #[t8]) w fun t9 =>
  Q t9 w)

theorem P_tuples_Tuples_Len.enter {t : Value} {w : World} {Q : Value → World → Prop} (h : P_tuples_Tuples_Len.body t w Q) : Cal prog F.P_tuples_Tuples_Len [t] w Q :=
  Cal.enter' (P := prog) mixed (show prog.funcs[F.P_tuples_Tuples_Len]? = some Try.f35 from Try.func35) rfl (by kernel_rfl) (by kernel_rfl) (by kernel_rfl) (by kernel_rfl) (Eq.mp (by kernel_rfl) h)

/-- (*pennyweight/tuples.Tuples).Arity -/
def P_tuples_Tuples_Arity.body (t : Value) (w : World) (Q : Value → World → Prop) : Prop :=
  Cal prog F.P_tuples_Tuples_Sizes [t] w fun t4 w1 =>
  RunQ prog (Builtin.len_ #[T.t_sl_int] T.t_int #[t4]) w1 fun t5 =>
  Q t5 w1

theorem P_tuples_Tuples_Arity.enter {t : Value} {w : World} {Q : Value → World → Prop} (h : P_tuples_Tuples_Arity.body t w Q) : Cal prog F.P_tuples_Tuples_Arity [t] w Q :=
  Cal.enter' (P := prog) mixed (show prog.funcs[F.P_tuples_Tuples_Arity]? = some Try.f36 from Try.func36) rfl (by kernel_rfl) (by kernel_rfl) (by kernel_rfl) (by kernel_rfl) (Eq.mp (by kernel_rfl) h)

/-- (*pennyweight/tuples.Tuples).Lines -/
def P_tuples_Tuples_Lines.body (t : Value) (w : World) (Q : Value → World → Prop) : Prop :=
  RunQ prog (binS .eql T.t_p_tuples_Tuples false true t (.pointer none)) w fun t11 =>
  Split t11 (Q (.slice none 0 0) w)
   (RunQ prog (nilS t) w fun t13 =>
  RunQ prog (Instr.fieldAt T.t_tuples_Tuples t13 3) w fun t14 =>
  RunQ prog (Instr.loadAt T.t_map_tuples_key_int64 t14) w fun t15 =>
  Cal prog F.maps_Keys_map_pennyweight_tuples_key_int64_pennyweight_tuples_key_int64 [t15] w fun t16 w1 =>
  Cal prog F.slices_SortedFunc_pennyweight_tuples_key [t16, (.func (.func F.P_tuples_Tuples_Lines_c1) #[] #[])] w1 fun t18 w2 =>
  RunQ prog (Builtin.len_ #[T.t_sl_tuples_key] T.t_int #[t18]) w2 fun t19 =>
  Loop2 (.slice none 0 0) (.int .i64 0) w2 fun out t20 w3 k =>
    RunQ prog (binS .lss T.t_int false false t20 t19) w3 fun t21 =>
    Split t21 (RunQ prog (Instr.indexAt T.t_sl_tuples_key t18 t20) w3 fun t22 =>
    RunQ prog (Instr.loadAt T.t_tuples_key t22) w3 fun t23 =>
    RunC prog (Instr.alloc T.t_tuples_key true (.tuple #[])) w3 fun x w4 =>
    RunC prog (Instr.storeAt T.t_tuples_key x t23) w4 fun (_ : Unit) w5 =>
    Drew w5 fun w6 =>
    RunQ prog (nilS t) w6 fun t25 =>
    RunQ prog (Instr.fieldAt T.t_tuples_Tuples t25 3) w6 fun t26 =>
    RunQ prog (Instr.loadAt T.t_map_tuples_key_int64 t26) w6 fun t27 =>
    RunQ prog (Instr.loadAt T.t_tuples_key x) w6 fun t28 =>
    RunQ prog (Instr.lookup T.t_map_tuples_key_int64 t27 t28 false) w6 fun t29 =>
    RunQ prog (Instr.build T.t_tuples_Line #[(1, t29)]) w6 fun t30 =>
    RunC prog (Instr.alloc T.t_tuples_Line true (.tuple #[])) w6 fun l w7 =>
     (Ext w6 w7 ∨ Stays prog (Instr.build T.t_tuples_Line #[(1, t29)]) t30 w7 ∧ Stays prog (Instr.lookup T.t_map_tuples_key_int64 t27 t28 false) t29 w7 ∧ Stays prog (Instr.loadAt T.t_tuples_key x) t28 w7 ∧ Stays prog (Instr.loadAt T.t_map_tuples_key_int64 t26) t27 w7 ∧ Stays prog (Instr.fieldAt T.t_tuples_Tuples t25 3) t26 w7 ∧ Stays prog (nilS t) t25 w7 ∧ True) ∧
    RunC prog (Instr.storeAt T.t_tuples_Line l t30) w7 fun (_ : Unit) w8 =>
      RunQ prog (nilS t) w8 fun t32 =>
    RunQ prog (Instr.fieldAt T.t_tuples_Tuples t32 0) w8 fun t33 =>
    RunQ prog (Instr.loadAt T.t_sl_int t33) w8 fun t34 =>
    RunQ prog (Builtin.len_ #[T.t_sl_int] T.t_int #[t34]) w8 fun t35 =>
    RunQ prog (Instr.sliceAt T.t_tuples_key x none (some t35) none) w8 fun t36 =>
    RunQ prog (Builtin.len_ #[T.t_sl_int8] T.t_int #[t36]) w8 fun t37 =>
    Loop1 (.int .i64 0) w8 fun t38 w9 k_1 =>
      RunQ prog (binS .lss T.t_int false false t38 t37) w9 fun t39 =>
      Split t39 (RunQ prog (Instr.indexAt T.t_sl_int8 t36 t38) w9 fun t40 =>
      RunQ prog (Instr.loadAt T.t_int8 t40) w9 fun t41 =>
      RunQ prog (Instr.fieldAt T.t_tuples_Line l 0) w9 fun t42 =>
      RunQ prog (Instr.loadAt T.t_sl_int t42) w9 fun t43 =>
      RunQ prog (convert T.t_int8 T.t_int t41) w9 fun t45 =>
      RunC prog (Instr.buildSlice T.t_sl_int 1 #[(0, t45)]) w9 fun t46 w10 =>
      RunC prog (Builtin.append_ #[T.t_sl_int, T.t_sl_int] T.t_sl_int #[t43, t46]) w10 fun t47 w11 =>
      RunQ prog (Instr.fieldAt T.t_tuples_Line l 0) w11 fun t48 =>
      RunC prog (Instr.storeAt T.t_sl_int t48 t47) w11 fun (_ : Unit) w12 =>
      RunQ prog (binS .add T.t_int false true t38 (.int .i64 1)) w12 fun t49 =>
      k_1 t49 w12)
       (RunQ prog (Instr.loadAt T.t_tuples_Line l) w9 fun t51 =>
    RunC prog (Instr.buildSlice T.t_sl_tuples_Line 1 #[(0, t51)]) w9 fun t52 w13 =>
    RunC prog (Builtin.append_ #[T.t_sl_tuples_Line, T.t_sl_tuples_Line] T.t_sl_tuples_Line #[out, t52]) w13 fun t53 w14 =>
    RunQ prog (binS .add T.t_int false true t20 (.int .i64 1)) w14 fun t54 =>
    k t53 t54 w14))
     (Q out w3))

theorem P_tuples_Tuples_Lines.enter {t : Value} {w : World} {Q : Value → World → Prop} (h : P_tuples_Tuples_Lines.body t w Q) : Cal prog F.P_tuples_Tuples_Lines [t] w Q :=
  Cal.enter' (P := prog) mixed (show prog.funcs[F.P_tuples_Tuples_Lines]? = some Try.f37 from Try.func37) rfl (by kernel_rfl) (by kernel_rfl) (by kernel_rfl) (by kernel_rfl) (Eq.mp (by kernel_rfl) h)

/-- (*pennyweight/tuples.Tuples).Sizes -/
def P_tuples_Tuples_Sizes.body (t : Value) (w : World) (Q : Value → World → Prop) : Prop :=
  RunQ prog (binS .eql T.t_p_tuples_Tuples false true t (.pointer none)) w fun t4 =>
  Split t4 (Q (.slice none 0 0) w)
   (RunQ prog (nilS t) w fun t6 =>
  RunQ prog (Instr.fieldAt T.t_tuples_Tuples t6 0) w fun t7 =>
  RunQ prog (Instr.loadAt T.t_sl_int t7) w fun t8 =>
  Cal prog F.slices_Clone_int_int [t8] w fun t9 w1 =>
  Q t9 w1)

theorem P_tuples_Tuples_Sizes.enter {t : Value} {w : World} {Q : Value → World → Prop} (h : P_tuples_Tuples_Sizes.body t w Q) : Cal prog F.P_tuples_Tuples_Sizes [t] w Q :=
  Cal.enter' (P := prog) mixed (show prog.funcs[F.P_tuples_Tuples_Sizes]? = some Try.f38 from Try.func38) rfl (by kernel_rfl) (by kernel_rfl) (by kernel_rfl) (by kernel_rfl) (Eq.mp (by kernel_rfl) h)

/-- (*pennyweight/tuples.Tuples).K -/
def P_tuples_Tuples_K.body (t : Value) (w : World) (Q : Value → World → Prop) : Prop :=
  RunQ prog (binS .eql T.t_p_tuples_Tuples false true t (.pointer none)) w fun t4 =>
  Split t4 (Q (.int .i64 0) w)
   (RunQ prog (nilS t) w fun t6 =>
  RunQ prog (Instr.fieldAt T.t_tuples_Tuples t6 1) w fun t7 =>
  RunQ prog (Instr.loadAt T.t_int64 t7) w fun t8 =>
  Q t8 w)

theorem P_tuples_Tuples_K.enter {t : Value} {w : World} {Q : Value → World → Prop} (h : P_tuples_Tuples_K.body t w Q) : Cal prog F.P_tuples_Tuples_K [t] w Q :=
  Cal.enter' (P := prog) mixed (show prog.funcs[F.P_tuples_Tuples_K]? = some Try.f39 from Try.func39) rfl (by kernel_rfl) (by kernel_rfl) (by kernel_rfl) (by kernel_rfl) (Eq.mp (by kernel_rfl) h)

/-- (*pennyweight/tuples.Tuples).Other -/
def P_tuples_Tuples_Other.body (t : Value) (w : World) (Q : Value → World → Prop) : Prop :=
  RunQ prog (binS .eql T.t_p_tuples_Tuples false true t (.pointer none)) w fun t4 =>
  Split t4 (Q (.int .i64 0) w)
   (RunQ prog (nilS t) w fun t6 =>
  RunQ prog (Instr.fieldAt T.t_tuples_Tuples t6 2) w fun t7 =>
  RunQ prog (Instr.loadAt T.t_int64 t7) w fun t8 =>
  Q t8 w)

theorem P_tuples_Tuples_Other.enter {t : Value} {w : World} {Q : Value → World → Prop} (h : P_tuples_Tuples_Other.body t w Q) : Cal prog F.P_tuples_Tuples_Other [t] w Q :=
  Cal.enter' (P := prog) mixed (show prog.funcs[F.P_tuples_Tuples_Other]? = some Try.f40 from Try.func40) rfl (by kernel_rfl) (by kernel_rfl) (by kernel_rfl) (by kernel_rfl) (Eq.mp (by kernel_rfl) h)

/-- slices.Chunk[[]byte,byte] -/
def slices_Chunk_byte_byte.body (s n : Value) (w : World) (Q : Value → World → Prop) : Prop :=
  RunC prog (Instr.box T.t_sl_uint8 s) w fun s_1 w1 =>
  RunC prog (Instr.box T.t_int n) w1 fun n_1 w2 =>
  JoinC (α := World → Prop) (fun (w3 : World) =>
    RunQ prog (Instr.makeFunc (.func F.slices_Chunk_byte_byte__c1) #[] #[s_1, n_1]) w3 fun t8 =>
    Q t8 w3) fun J =>
  RunQ prog (Instr.loadAt T.t_int n_1) w2 fun t5 =>
  RunQ prog (binS .lss T.t_int false true t5 (.int .i64 1)) w2 fun t6 =>
  Split t6 (RunQ prog (Instr.makeInterface T.t_string (.string ⟨#[99, 97, 110, 110, 111, 116, 32, 98, 101, 32, 108, 101, 115, 115, 32, 116, 104, 97, 110, 32, 49]⟩)) w2 fun t7 =>
   False)
   (J w2)

theorem slices_Chunk_byte_byte.enter {s n : Value} {w : World} {Q : Value → World → Prop} (h : slices_Chunk_byte_byte.body s n w Q) : Cal prog F.slices_Chunk_byte_byte [s, n] w Q :=
  Cal.enter' (P := prog) mixed (show prog.funcs[F.slices_Chunk_byte_byte]? = some Try.f41 from Try.func41) rfl (by kernel_rfl) (by kernel_rfl) (by kernel_rfl) (by kernel_rfl) (Eq.mp (by kernel_rfl) h)

/-- pennyweight/tuples.New$1 -/
def tuples_New_c1.body (n : Value) (w : World) (Q : Value → World → Prop) : Prop :=
  JoinC (α := Value → World → Prop) (fun (t2 : Value) (w1 : World) =>
    Q t2 w1) fun J =>
  RunQ prog (binS .lss T.t_int false true n (.int .i64 1)) w fun t4 =>
  Split t4 (J (.bool true) w)
   (RunQ prog (binS .gtr T.t_int false true n (.int .i64 32)) w fun t7 =>
  J t7 w)

theorem tuples_New_c1.enter {n : Value} {w : World} {Q : Value → World → Prop} (h : tuples_New_c1.body n w Q) : Cal prog F.tuples_New_c1 [n] w Q :=
  Cal.enter' (P := prog) mixed (show prog.funcs[F.tuples_New_c1]? = some Try.f42 from Try.func42) rfl (by kernel_rfl) (by kernel_rfl) (by kernel_rfl) (by kernel_rfl) (Eq.mp (by kernel_rfl) h)

/-- slices.ContainsFunc[[]int,int] -/
def slices_ContainsFunc_int_int.body (s f : Value) (w : World) (Q : Value → World → Prop) : Prop :=
  Cal prog F.slices_IndexFunc_int_int [s, f] w fun t7 w1 =>
  RunQ prog (binS .geq T.t_int false true t7 (.int .i64 0)) w1 fun t8 =>
  Q t8 w1

theorem slices_ContainsFunc_int_int.enter {s f : Value} {w : World} {Q : Value → World → Prop} (h : slices_ContainsFunc_int_int.body s f w Q) : Cal prog F.slices_ContainsFunc_int_int [s, f] w Q :=
  Cal.enter' (P := prog) mixed (show prog.funcs[F.slices_ContainsFunc_int_int]? = some Try.f43 from Try.func43) rfl (by kernel_rfl) (by kernel_rfl) (by kernel_rfl) (by kernel_rfl) (Eq.mp (by kernel_rfl) h)

/-- pennyweight/cost.In -/
def cost_In.body (a k : Value) (w : World) (Q : Value → World → Prop) : Prop :=
  JoinC (α := Value → World → Prop) (fun (t4 : Value) (w1 : World) =>
    Q t4 w1) fun J =>
  Cal prog F.cost_Right [k] w fun t6 w2 =>
  Split t6 (RunQ prog (binS .geq T.t_int64 false true a (.int .i64 0)) w2 fun t9 =>
  Split t9 (RunQ prog (binS .leq T.t_int64 false false a k) w2 fun t14 =>
  J t14 w2)
   (J (.bool false) w2))
   (J (.bool false) w2)

theorem cost_In.enter {a k : Value} {w : World} {Q : Value → World → Prop} (h : cost_In.body a k w Q) : Cal prog F.cost_In [a, k] w Q :=
  Cal.enter' (P := prog) mixed (show prog.funcs[F.cost_In]? = some Try.f44 from Try.func44) rfl (by kernel_rfl) (by kernel_rfl) (by kernel_rfl) (by kernel_rfl) (Eq.mp (by kernel_rfl) h)

/-- pennyweight/pennyweightref03.Same -/
def ref03_Same.body (a b : Value) (w : World) (Q : Value → World → Prop) : Prop :=
  RunQ prog (Builtin.len_ #[T.t_sl_int] T.t_int #[a]) w fun t7 =>
  RunQ prog (Builtin.len_ #[T.t_sl_int] T.t_int #[b]) w fun t9 =>
  RunQ prog (binS .neq T.t_int false false t7 t9) w fun t10 =>
  Split t10 (Q (.bool false) w)
   (RunQ prog (Builtin.len_ #[T.t_sl_int] T.t_int #[a]) w fun t12 =>
  Loop2 (.bool false) (.int .i64 0) w fun t4 t13 w1 k =>
    RunQ prog (binS .lss T.t_int false false t13 t12) w1 fun t14 =>
    Split t14 (Drew w1 fun w2 =>
    RunQ prog (Instr.indexAt T.t_sl_int a t13) w2 fun t18 =>
    RunQ prog (Instr.loadAt T.t_int t18) w2 fun t19 =>
    RunQ prog (Instr.indexAt T.t_sl_int b t13) w2 fun t22 =>
    RunQ prog (Instr.loadAt T.t_int t22) w2 fun t23 =>
    RunQ prog (binS .neq T.t_int false false t19 t23) w2 fun t24 =>
    Split t24 (Q (.bool false) w2)
     (RunQ prog (binS .add T.t_int false true t13 (.int .i64 1)) w2 fun t25 =>
    k t4 t25 w2))
     (Q (.bool true) w1))

theorem ref03_Same.enter {a b : Value} {w : World} {Q : Value → World → Prop} (h : ref03_Same.body a b w Q) : Cal prog F.ref03_Same [a, b] w Q :=
  Cal.enter' (P := prog) mixed (show prog.funcs[F.ref03_Same]? = some Try.f45 from Try.func45) rfl (by kernel_rfl) (by kernel_rfl) (by kernel_rfl) (by kernel_rfl) (Eq.mp (by kernel_rfl) h)

/-- pennyweight/pennyweightref01.Right -/
def ref01_Right.body (k : Value) (w : World) (Q : Value → World → Prop) : Prop :=
  JoinC (α := Value → World → Prop) (fun (t2 : Value) (w1 : World) =>
    Q t2 w1) fun J =>
  RunQ prog (binS .gtr T.t_int64 false true k (.int .i64 0)) w fun t4 =>
  Split t4 (RunQ prog (binS .leq T.t_int64 false true k (.int .i64 2147483648)) w fun t7 =>
  J t7 w)
   (J (.bool false) w)

theorem ref01_Right.enter {k : Value} {w : World} {Q : Value → World → Prop} (h : ref01_Right.body k w Q) : Cal prog F.ref01_Right [k] w Q :=
  Cal.enter' (P := prog) mixed (show prog.funcs[F.ref01_Right]? = some Try.f46 from Try.func46) rfl (by kernel_rfl) (by kernel_rfl) (by kernel_rfl) (by kernel_rfl) (Eq.mp (by kernel_rfl) h)

/-- (*pennyweight/tuples.Tuples).key -/
def P_tuples_Tuples_key.body (t tuple : Value) (w : World) (Q : Value → World → Prop) : Prop :=
  RunC prog (Instr.alloc T.t_tuples_key true (.tuple #[])) w fun t4 w1 =>
  RunC prog (Instr.alloc T.t_tuples_key true (.tuple #[])) w1 fun x w2 =>
  RunQ prog (binS .eql T.t_p_tuples_Tuples false true t (.pointer none)) w2 fun t10 =>
  Split t10 (RunQ prog (Instr.loadAt T.t_tuples_key x) w2 fun t11 =>
   RunC prog (Instr.storeAt T.t_tuples_key t4 t11) w2 fun (_ : Unit) w3 =>
   RunQ prog (do loadVar T.t_tuples_key (← asAddr t4)) w3 fun r =>
  Q (.tuple #[r, (.int .i64 2)]) w3)
   (RunQ prog (Builtin.len_ #[T.t_sl_int] T.t_int #[tuple]) w2 fun t13 =>
  RunQ prog (nilS t) w2 fun t15 =>
  RunQ prog (Instr.fieldAt T.t_tuples_Tuples t15 0) w2 fun t16 =>
  RunQ prog (Instr.loadAt T.t_sl_int t16) w2 fun t17 =>
  RunQ prog (Builtin.len_ #[T.t_sl_int] T.t_int #[t17]) w2 fun t18 =>
  RunQ prog (binS .neq T.t_int false false t13 t18) w2 fun t19 =>
  Split t19 (RunQ prog (Instr.loadAt T.t_tuples_key x) w2 fun t20 =>
   RunC prog (Instr.storeAt T.t_tuples_key t4 t20) w2 fun (_ : Unit) w4 =>
   RunQ prog (do loadVar T.t_tuples_key (← asAddr t4)) w4 fun r_1 =>
  Q (.tuple #[r_1, (.int .i64 3)]) w4)
   (RunQ prog (Builtin.len_ #[T.t_sl_int] T.t_int #[tuple]) w2 fun t22 =>
  Loop2 (.int .i64 0) (.int .i64 0) w2 fun t5 t23 w5 k =>
    RunQ prog (binS .lss T.t_int false false t23 t22) w5 fun t24 =>
    Split t24 (RunQ prog (Instr.indexAt T.t_sl_int tuple t23) w5 fun t26 =>
    RunQ prog (Instr.loadAt T.t_int t26) w5 fun t27 =>
    JoinC (α := Value → World → Prop) (fun (t40 : Value) (w6 : World) =>
      Split t40 (RunQ prog (Instr.loadAt T.t_tuples_key x) w6 fun t41 =>
       RunC prog (Instr.storeAt T.t_tuples_key t4 t41) w6 fun (_ : Unit) w7 =>
       RunQ prog (do loadVar T.t_tuples_key (← asAddr t4)) w7 fun r_2 =>
  Q (.tuple #[r_2, (.int .i64 3)]) w7)
       (RunQ prog (convert T.t_int T.t_int8 t27) w6 fun t44 =>
    RunQ prog (Instr.indexAt T.t_tuples_key x t23) w6 fun t45 =>
    RunC prog (Instr.storeAt T.t_int8 t45 t44) w6 fun (_ : Unit) w8 =>
    RunQ prog (binS .add T.t_int false true t23 (.int .i64 1)) w8 fun t46 =>
    k t5 t46 w8)) fun J =>
    RunQ prog (binS .lss T.t_int false true t27 (.int .i64 0)) w5 fun t29 =>
    Split t29 (J (.bool true) w5)
     (RunQ prog (nilS t) w5 fun t33 =>
    RunQ prog (Instr.fieldAt T.t_tuples_Tuples t33 0) w5 fun t34 =>
    RunQ prog (Instr.loadAt T.t_sl_int t34) w5 fun t35 =>
    RunQ prog (Instr.indexAt T.t_sl_int t35 t23) w5 fun t37 =>
    RunQ prog (Instr.loadAt T.t_int t37) w5 fun t38 =>
    RunQ prog (binS .geq T.t_int false false t27 t38) w5 fun t39 =>
    J t39 w5))
     (RunQ prog (Instr.loadAt T.t_tuples_key x) w5 fun t47 =>
  RunC prog (Instr.storeAt T.t_tuples_key t4 t47) w5 fun (_ : Unit) w9 =>
  RunQ prog (do loadVar T.t_tuples_key (← asAddr t4)) w9 fun r_3 =>
  Q (.tuple #[r_3, (.int .i64 0)]) w9)))

theorem P_tuples_Tuples_key.enter {t tuple : Value} {w : World} {Q : Value → World → Prop} (h : P_tuples_Tuples_key.body t tuple w Q) : Cal prog F.P_tuples_Tuples_key [t, tuple] w Q :=
  Cal.enter' (P := prog) mixed (show prog.funcs[F.P_tuples_Tuples_key]? = some Try.f47 from Try.func47) rfl (by kernel_rfl) (by kernel_rfl) (by kernel_rfl) (by kernel_rfl) (Eq.mp (by kernel_rfl) h)

/-- pennyweight/pennyweightref05.Lines -/
def ref05_Lines.body (t other : Value) (w : World) (Q : Value → World → Prop) : Prop :=
  RunC prog (Instr.box T.t_ref04_Table t) w fun t_1 w1 =>
  RunQ prog (Instr.fieldAt T.t_ref04_Table t_1 0) w1 fun t10 =>
  RunQ prog (Instr.loadAt T.t_sl_int t10) w1 fun t11 =>
  Cal prog F.ref03_All [t11] w1 fun t12 w2 =>
  RunQ prog (Builtin.len_ #[T.t_sl_sl_int] T.t_int #[t12]) w2 fun t13 =>
  Loop3 (.slice none 0 0) (.slice none 0 0) (.int .i64 0) w2 fun l c t14 w3 k =>
    RunQ prog (binS .lss T.t_int false false t14 t13) w3 fun t15 =>
    Split t15 (JoinC (α := Value → Value → World → Prop) (fun (l_1 c_1 : Value) (w4 : World) =>
      RunQ prog (binS .add T.t_int false true t14 (.int .i64 1)) w4 fun t38 =>
      k l_1 c_1 t38 w4) fun J =>
    RunQ prog (Instr.indexAt T.t_sl_sl_int t12 t14) w3 fun t17 =>
    RunQ prog (Instr.loadAt T.t_sl_int t17) w3 fun t18 =>
    RunQ prog (Instr.fieldAt T.t_ref04_Table t_1 2) w3 fun t19 =>
    RunQ prog (Instr.loadAt T.t_sl_int64 t19) w3 fun t20 =>
    RunQ prog (Instr.indexAt T.t_sl_int64 t20 t14) w3 fun t22 =>
    RunQ prog (Instr.loadAt T.t_int64 t22) w3 fun t23 =>
    RunQ prog (binS .neq T.t_int64 false false t23 other) w3 fun t25 =>
    Split t25 (RunC prog (Instr.buildSlice T.t_sl_sl_int 1 #[(0, t18)]) w3 fun t28 w5 =>
     RunC prog (Builtin.append_ #[T.t_sl_sl_int, T.t_sl_sl_int] T.t_sl_sl_int #[l, t28]) w5 fun t29 w6 =>
     RunQ prog (Instr.fieldAt T.t_ref04_Table t_1 2) w6 fun t31 =>
     RunQ prog (Instr.loadAt T.t_sl_int64 t31) w6 fun t32 =>
     RunQ prog (Instr.indexAt T.t_sl_int64 t32 t14) w6 fun t34 =>
     RunQ prog (Instr.loadAt T.t_int64 t34) w6 fun t35 =>
     RunC prog (Instr.buildSlice T.t_sl_int64 1 #[(0, t35)]) w6 fun t36 w7 =>
     RunC prog (Builtin.append_ #[T.t_sl_int64, T.t_sl_int64] T.t_sl_int64 #[c, t36]) w7 fun t37 w8 =>
     J t29 t37 w8)
     (J l c w3))
     (Q (.tuple #[l, c]) w3)

theorem ref05_Lines.enter {t other : Value} {w : World} {Q : Value → World → Prop} (h : ref05_Lines.body t other w Q) : Cal prog F.ref05_Lines [t, other] w Q :=
  Cal.enter' (P := prog) mixed (show prog.funcs[F.ref05_Lines]? = some Try.f48 from Try.func48) rfl (by kernel_rfl) (by kernel_rfl) (by kernel_rfl) (by kernel_rfl) (Eq.mp (by kernel_rfl) h)

/-- (*pennyweight/table.Table).Entries -/
def P_table_Table_Entries.body (t : Value) (w : World) (Q : Value → World → Prop) : Prop :=
  RunQ prog (binS .eql T.t_p_table_Table false true t (.pointer none)) w fun t4 =>
  Split t4 (Q (.slice none 0 0) w)
   (RunQ prog (nilS t) w fun t6 =>
  RunQ prog (Instr.fieldAt T.t_table_Table t6 2) w fun t7 =>
  RunQ prog (Instr.loadAt T.t_sl_int64 t7) w fun t8 =>
  Cal prog F.slices_Clone_int64_int64 [t8] w fun t9 w1 =>
  Q t9 w1)

theorem P_table_Table_Entries.enter {t : Value} {w : World} {Q : Value → World → Prop} (h : P_table_Table_Entries.body t w Q) : Cal prog F.P_table_Table_Entries [t] w Q :=
  Cal.enter' (P := prog) mixed (show prog.funcs[F.P_table_Table_Entries]? = some Try.f49 from Try.func49) rfl (by kernel_rfl) (by kernel_rfl) (by kernel_rfl) (by kernel_rfl) (Eq.mp (by kernel_rfl) h)

/-- (*pennyweight/tuples.Tuples).of -/
def P_tuples_Tuples_of.body (t x : Value) (w : World) (Q : Value → World → Prop) : Prop :=
  RunC prog (Instr.box T.t_tuples_key x) w fun x_1 w1 =>
  Drew w1 fun w2 =>
  RunQ prog (nilS t) w2 fun t9 =>
  RunQ prog (Instr.fieldAt T.t_tuples_Tuples t9 3) w2 fun t10 =>
  RunQ prog (Instr.loadAt T.t_map_tuples_key_int64 t10) w2 fun t11 =>
  RunQ prog (Instr.loadAt T.t_tuples_key x_1) w2 fun t12 =>
  RunQ prog (Instr.lookup T.t_map_tuples_key_int64 t11 t12 true) w2 fun t13 =>
  RunQ prog (Instr.extract t13 0) w2 fun t14 =>
  RunQ prog (Instr.extract t13 1) w2 fun t15 =>
  Split t15 (Q t14 w2)
   (RunQ prog (nilS t) w2 fun t19 =>
  RunQ prog (Instr.fieldAt T.t_tuples_Tuples t19 2) w2 fun t20 =>
  RunQ prog (Instr.loadAt T.t_int64 t20) w2 fun t21 =>
  Q t21 w2)

theorem P_tuples_Tuples_of.enter {t x : Value} {w : World} {Q : Value → World → Prop} (h : P_tuples_Tuples_of.body t x w Q) : Cal prog F.P_tuples_Tuples_of [t, x] w Q :=
  Cal.enter' (P := prog) mixed (show prog.funcs[F.P_tuples_Tuples_of]? = some Try.f50 from Try.func50) rfl (by kernel_rfl) (by kernel_rfl) (by kernel_rfl) (by kernel_rfl) (Eq.mp (by kernel_rfl) h)

/-- (*pennyweight/tuples.Tuples).count -/
def P_tuples_Tuples_count.body (t : Value) (w : World) (Q : Value → World → Prop) : Prop :=
  RunQ prog (nilS t) w fun t7 =>
  RunQ prog (Instr.fieldAt T.t_tuples_Tuples t7 0) w fun t8 =>
  RunQ prog (Instr.loadAt T.t_sl_int t8) w fun t9 =>
  RunQ prog (Builtin.len_ #[T.t_sl_int] T.t_int #[t9]) w fun t10 =>
  Loop2 (.int .i64 1) (.int .i64 0) w fun n t11 w1 k =>
    RunQ prog (binS .lss T.t_int false false t11 t10) w1 fun t12 =>
    Split t12 (RunQ prog (Instr.indexAt T.t_sl_int t9 t11) w1 fun t13 =>
    RunQ prog (Instr.loadAt T.t_int t13) w1 fun t14 =>
    RunQ prog (binS .mul T.t_int false false n t14) w1 fun t17 =>
    RunQ prog (binS .add T.t_int false true t11 (.int .i64 1)) w1 fun t18 =>
    k t17 t18 w1)
     (Q n w1)

theorem P_tuples_Tuples_count.enter {t : Value} {w : World} {Q : Value → World → Prop} (h : P_tuples_Tuples_count.body t w Q) : Cal prog F.P_tuples_Tuples_count [t] w Q :=
  Cal.enter' (P := prog) mixed (show prog.funcs[F.P_tuples_Tuples_count]? = some Try.f51 from Try.func51) rfl (by kernel_rfl) (by kernel_rfl) (by kernel_rfl) (by kernel_rfl) (Eq.mp (by kernel_rfl) h)

end Go.Proofs.Ytahhkeljejfgfaa
