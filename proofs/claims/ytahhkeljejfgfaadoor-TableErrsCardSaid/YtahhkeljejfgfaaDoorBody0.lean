/- the functions as conditions (by program) -/
import Derived.Test.YtahhkeljejfgfaaDoorNames
namespace Go.Proofs.YtahhkeljejfgfaaDoor
open Go Go.Vc Go.Proofs Go.Proofs.Tryd
set_option maxRecDepth 100000
set_option linter.unusedVariables false

/-- pennyweight/pennyweightlaw04.TableTwice -/
def law04_TableTwice.body (l k c : Value) (w : World) (Q : Value → World → Prop) : Prop :=
  Cal prog F.law04_awake [] w fun t29 w1 =>
  RunQ prog (Op.unary .not t29) w1 fun t30 =>
  Split t30 (Q (.bool false) w1)
   (Cal prog F.law04_top [k] w1 fun t34 w2 =>
  Cal prog F.law04_made [l, t34, c] w2 fun t36 w3 =>
  RunQ prog (Instr.extract t36 0) w3 fun t37 =>
  RunQ prog (Instr.extract t36 1) w3 fun t38 =>
  RunC prog (Instr.alloc T.t_ref04_Table true (.tuple #[])) w3 fun x w4 =>
  RunC prog (Instr.storeAt T.t_ref04_Table x t38) w4 fun (_ : Unit) w5 =>
  RunQ prog (Instr.fieldAt T.t_ref04_Table x 0) w5 fun t39 =>
  RunQ prog (Instr.loadAt T.t_sl_int t39) w5 fun t40 =>
  RunQ prog (Builtin.len_ #[T.t_sl_int] T.t_int #[t40]) w5 fun t41 =>
  RunQ prog (binS .lss T.t_int false true t41 (.int .i64 2)) w5 fun t42 =>
  Split t42 (RunQ prog (Instr.fieldAt T.t_ref04_Table x 2) w5 fun t43 =>
   RunQ prog (Instr.loadAt T.t_sl_int64 t43) w5 fun t44 =>
   RunQ prog (Builtin.len_ #[T.t_sl_int64] T.t_int #[t44]) w5 fun t45 =>
   RunQ prog (binS .gtr T.t_int false true t45 (.int .i64 0)) w5 fun t46 =>
   Q t46 w5)
   (RunQ prog (Instr.fieldAt T.t_ref04_Table x 0) w5 fun t48 =>
  RunQ prog (Instr.loadAt T.t_sl_int t48) w5 fun t49 =>
  RunQ prog (Instr.indexAt T.t_sl_int t49 (.int .i64 0)) w5 fun t50 =>
  RunQ prog (Instr.loadAt T.t_int t50) w5 fun t51 =>
  Cal prog F.dom_New [t51] w5 fun t52 w6 =>
  RunQ prog (Instr.extract t52 0) w6 fun t53 =>
  RunQ prog (Instr.extract t52 1) w6 fun t54 =>
  RunC prog (Instr.alloc T.t_dom_Set true (.tuple #[])) w6 fun a w7 =>
  RunC prog (Instr.storeAt T.t_dom_Set a t53) w7 fun (_ : Unit) w8 =>
  RunQ prog (Instr.fieldAt T.t_ref04_Table x 0) w8 fun t56 =>
  RunQ prog (Instr.loadAt T.t_sl_int t56) w8 fun t57 =>
  RunQ prog (Instr.indexAt T.t_sl_int t57 (.int .i64 1)) w8 fun t58 =>
  RunQ prog (Instr.loadAt T.t_int t58) w8 fun t59 =>
  Cal prog F.dom_New [t59] w8 fun t60 w9 =>
  RunQ prog (Instr.extract t60 0) w9 fun t61 =>
  RunQ prog (Instr.extract t60 1) w9 fun t62 =>
  RunC prog (Instr.alloc T.t_dom_Set true (.tuple #[])) w9 fun b w10 =>
  RunC prog (Instr.storeAt T.t_dom_Set b t61) w10 fun (_ : Unit) w11 =>
  RunQ prog (Instr.loadAt T.t_dom_Set a) w11 fun t65 =>
  Cal prog F.P_table_Table_Out [t37, (.int .i64 0), t65] w11 fun t66 w12 =>
  RunQ prog (Instr.extract t66 0) w12 fun t67 =>
  RunQ prog (Instr.extract t66 1) w12 fun t68 =>
  RunQ prog (Instr.extract t66 2) w12 fun t69 =>
  RunQ prog (Instr.loadAt T.t_dom_Set b) w12 fun t72 =>
  Cal prog F.P_table_Table_Out [t67, (.int .i64 0), t72] w12 fun t73 w13 =>
  RunQ prog (Instr.extract t73 0) w13 fun t74 =>
  RunQ prog (Instr.extract t73 1) w13 fun t75 =>
  RunQ prog (Instr.extract t73 2) w13 fun t76 =>
  RunQ prog (Instr.loadAt T.t_dom_Set b) w13 fun t79 =>
  Cal prog F.P_table_Table_Out [t37, (.int .i64 1), t79] w13 fun t80 w14 =>
  RunQ prog (Instr.extract t80 0) w14 fun t81 =>
  RunQ prog (Instr.extract t80 1) w14 fun t82 =>
  RunQ prog (Instr.extract t80 2) w14 fun t83 =>
  RunQ prog (Instr.loadAt T.t_dom_Set a) w14 fun t86 =>
  Cal prog F.P_table_Table_Out [t81, (.int .i64 0), t86] w14 fun t87 w15 =>
  RunQ prog (Instr.extract t87 0) w15 fun t88 =>
  RunQ prog (Instr.extract t87 1) w15 fun t89 =>
  RunQ prog (Instr.extract t87 2) w15 fun t90 =>
  RunQ prog (Instr.fieldAt T.t_ref04_Table x 2) w15 fun t91 =>
  RunQ prog (Instr.loadAt T.t_sl_int64 t91) w15 fun t92 =>
  Cal prog F.slices_Min_int64_int64 [t92] w15 fun t93 w16 =>
  JoinC (α := Value → World → Prop) (fun (wv : Value) (w17 : World) =>
    Cal prog F.P_table_Table_Get [wv, (.slice none 0 0)] w17 fun t116 w18 =>
    RunQ prog (Instr.extract t116 0) w18 fun t117 =>
    RunQ prog (Instr.extract t116 1) w18 fun t118 =>
    JoinC (α := Value → World → Prop) (fun (t6 : Value) (w19 : World) =>
      Q t6 w19) fun J_1 =>
    RunQ prog (binS .eql T.t_api_Errno false true t69 (.int .i64 0)) w18 fun t120 =>
    Split t120 (RunQ prog (binS .eql T.t_api_Errno false true t76 (.int .i64 0)) w18 fun t123 =>
    Split t123 (RunQ prog (binS .eql T.t_api_Errno false true t83 (.int .i64 0)) w18 fun t127 =>
    Split t127 (RunQ prog (binS .eql T.t_api_Errno false true t90 (.int .i64 0)) w18 fun t131 =>
    Split t131 (Cal prog F.table_Same [t74, t88] w18 fun t136 w20 =>
    Split t136 (RunQ prog (binS .eql T.t_api_Errno false true t118 (.int .i64 0)) w20 fun t140 =>
    Split t140 (RunQ prog (binS .eql T.t_int64 false false t117 t93) w20 fun t145 =>
    J_1 t145 w20)
     (J_1 (.bool false) w20))
     (J_1 (.bool false) w20))
     (J_1 (.bool false) w18))
     (J_1 (.bool false) w18))
     (J_1 (.bool false) w18))
     (J_1 (.bool false) w18)) fun J =>
  RunQ prog (Instr.fieldAt T.t_ref04_Table x 0) w16 fun t95 =>
  RunQ prog (Instr.loadAt T.t_sl_int t95) w16 fun t96 =>
  RunQ prog (Builtin.len_ #[T.t_sl_int] T.t_int #[t96]) w16 fun t97 =>
  RunQ prog (binS .eql T.t_int false true t97 (.int .i64 3)) w16 fun t98 =>
  Split t98 (RunQ prog (Instr.fieldAt T.t_ref04_Table x 0) w16 fun t100 =>
   RunQ prog (Instr.loadAt T.t_sl_int t100) w16 fun t101 =>
   RunQ prog (Instr.indexAt T.t_sl_int t101 (.int .i64 2)) w16 fun t102 =>
   RunQ prog (Instr.loadAt T.t_int t102) w16 fun t103 =>
   Cal prog F.dom_New [t103] w16 fun t104 w21 =>
   RunQ prog (Instr.extract t104 0) w21 fun t105 =>
   RunQ prog (Instr.extract t104 1) w21 fun t106 =>
   RunC prog (Instr.alloc T.t_dom_Set true (.tuple #[])) w21 fun d w22 =>
   RunC prog (Instr.storeAt T.t_dom_Set d t105) w22 fun (_ : Unit) w23 =>
   RunQ prog (Instr.loadAt T.t_dom_Set d) w23 fun t109 =>
   Cal prog F.P_table_Table_Out [t74, (.int .i64 0), t109] w23 fun t110 w24 =>
   RunQ prog (Instr.extract t110 0) w24 fun t111 =>
   RunQ prog (Instr.extract t110 1) w24 fun t112 =>
   RunQ prog (Instr.extract t110 2) w24 fun t113 =>
   J t111 w24)
   (J t74 w16)))

theorem law04_TableTwice.enter {l k c : Value} {w : World} {Q : Value → World → Prop} (h : law04_TableTwice.body l k c w Q) : Cal prog F.law04_TableTwice [l, k, c] w Q :=
  Cal.enter' (P := prog) mixed (show prog.funcs[F.law04_TableTwice]? = some Tryd.f3 from Tryd.func3) rfl (by kernel_rfl) (by kernel_rfl) (by kernel_rfl) (by kernel_rfl) (Eq.mp (by kernel_rfl) h)

/-- pennyweight/pennyweightlaw04.TableOuts -/
def law04_TableOuts.body (l k c pos bits size : Value) (w : World) (Q : Value → World → Prop) : Prop :=
  Cal prog F.law04_awake [] w fun t25 w1 =>
  RunQ prog (Op.unary .not t25) w1 fun t26 =>
  Split t26 (Q (.bool false) w1)
   (Cal prog F.law04_top [k] w1 fun t30 w2 =>
  Cal prog F.law04_made [l, t30, c] w2 fun t32 w3 =>
  RunQ prog (Instr.extract t32 0) w3 fun t33 =>
  RunQ prog (Instr.extract t32 1) w3 fun t34 =>
  RunC prog (Instr.alloc T.t_ref04_Table true (.tuple #[])) w3 fun x w4 =>
  RunC prog (Instr.storeAt T.t_ref04_Table x t34) w4 fun (_ : Unit) w5 =>
  JoinC (α := Value → World → Prop) (fun (n : Value) (w6 : World) =>
    Cal prog F.dom_New [n] w6 fun t57 w7 =>
    RunQ prog (Instr.extract t57 0) w7 fun t58 =>
    RunQ prog (Instr.extract t57 1) w7 fun t59 =>
    RunC prog (Instr.alloc T.t_dom_Set true (.tuple #[])) w7 fun d w8 =>
    RunC prog (Instr.storeAt T.t_dom_Set d t58) w8 fun (_ : Unit) w9 =>
    RunQ prog (Instr.loadAt T.t_dom_Set d) w9 fun t60 =>
    Cal prog F.dom_Set_Size [t60] w9 fun t61 w10 =>
    Loop2 (.slice none 0 0) (.int .i64 0) w10 fun values t62 w11 k_1 =>
      RunQ prog (binS .lss T.t_int false false t62 t61) w11 fun t63 =>
      Split t63 (JoinC (α := Value → World → Prop) (fun (values_1 : Value) (w12 : World) =>
        RunQ prog (binS .add T.t_int false true t62 (.int .i64 1)) w12 fun t77 =>
        k_1 values_1 t77 w12) fun J_1 =>
      RunQ prog (binS .shr T.t_uint32 false false bits t62) w11 fun t67 =>
      RunQ prog (binS .and T.t_uint32 false true t67 (.int .u32 1)) w11 fun t68 =>
      RunQ prog (binS .eql T.t_uint32 false true t68 (.int .u32 1)) w11 fun t69 =>
      Split t69 (RunC prog (Instr.buildSlice T.t_sl_int 1 #[(0, t62)]) w11 fun t72 w13 =>
       RunC prog (Builtin.append_ #[T.t_sl_int, T.t_sl_int] T.t_sl_int #[values, t72]) w13 fun t73 w14 =>
       J_1 t73 w14)
       (RunQ prog (Instr.loadAt T.t_dom_Set d) w11 fun t74 =>
       Cal prog F.dom_Set_Drop [t74, t62] w11 fun t76 w15 =>
       RunC prog (Instr.storeAt T.t_dom_Set d t76) w15 fun (_ : Unit) w16 =>
       J_1 values w16))
       (RunQ prog (Instr.loadAt T.t_dom_Set d) w11 fun t81 =>
    Cal prog F.P_table_Table_Out [t33, pos, t81] w11 fun t82 w17 =>
    RunQ prog (Instr.extract t82 0) w17 fun t83 =>
    RunQ prog (Instr.extract t82 1) w17 fun t84 =>
    RunQ prog (Instr.extract t82 2) w17 fun t85 =>
    JoinC (α := Value → World → Prop) (fun (t104 : Value) (w18 : World) =>
      Split t104 (JoinC (α := Value → World → Prop) (fun (t12 : Value) (w19 : World) =>
         Q t12 w19) fun J_3 =>
       RunQ prog (binS .eql T.t_api_Errno false true t85 (.int .i64 1)) w18 fun t106 =>
       Split t106 (RunQ prog (binS .eql T.t_p_table_Table false true t83 (.pointer none)) w18 fun t109 =>
       Split t109 (RunQ prog (Builtin.len_ #[T.t_sl_int] T.t_int #[t84]) w18 fun t113 =>
       RunQ prog (binS .eql T.t_int false true t113 (.int .i64 0)) w18 fun t114 =>
       J_3 t114 w18)
        (J_3 (.bool false) w18))
        (J_3 (.bool false) w18))
       (RunQ prog (Instr.loadAt T.t_ref04_Table x) w18 fun t117 =>
    Cal prog F.ref04_Out [t117, pos, values] w18 fun t120 w20 =>
    RunQ prog (Instr.extract t120 0) w20 fun t121 =>
    RunQ prog (Instr.extract t120 1) w20 fun t122 =>
    RunC prog (Instr.alloc T.t_ref04_Table true (.tuple #[])) w20 fun y w21 =>
    RunC prog (Instr.storeAt T.t_ref04_Table y t121) w21 fun (_ : Unit) w22 =>
    JoinC (α := Value → World → Prop) (fun (t12_1 : Value) (w23 : World) =>
      Q t12_1 w23) fun J_4 =>
    RunQ prog (binS .eql T.t_api_Errno false true t85 (.int .i64 0)) w22 fun t124 =>
    Split t124 (RunQ prog (Instr.loadAt T.t_ref04_Table y) w22 fun t127 =>
    Cal prog F.law04_like [t83, t127] w22 fun t128 w24 =>
    Split t128 (Cal prog F.slices_Equal_int_int [t84, t122] w24 fun t133 w25 =>
    Split t133 (RunQ prog (Instr.loadAt T.t_ref04_Table x) w25 fun t137 =>
    Cal prog F.law04_like [t33, t137] w25 fun t138 w26 =>
    J_4 t138 w26)
     (J_4 (.bool false) w25))
     (J_4 (.bool false) w24))
     (J_4 (.bool false) w22))) fun J_2 =>
    Drew w17 fun w27 =>
    RunQ prog (binS .lss T.t_int false true pos (.int .i64 0)) w27 fun t87 =>
    Split t87 ((Ext w27 w27 ∨ True ∧ True ∧ True ∧ True) ∧
    J_2 (.bool true) w27)
     (RunQ prog (Instr.fieldAt T.t_ref04_Table x 0) w27 fun t90 =>
    RunQ prog (Instr.loadAt T.t_sl_int t90) w27 fun t91 =>
    RunQ prog (Builtin.len_ #[T.t_sl_int] T.t_int #[t91]) w27 fun t92 =>
    RunQ prog (binS .geq T.t_int false false pos t92) w27 fun t93 =>
    Split t93 ((Ext w27 w27 ∨ True ∧ True ∧ True ∧ True) ∧
    J_2 (.bool true) w27)
     (RunQ prog (Instr.loadAt T.t_dom_Set d) w27 fun t96 =>
     RunQ prog (Instr.fieldAt T.t_ref04_Table x 0) w27 fun t98 =>
    RunQ prog (Instr.loadAt T.t_sl_int t98) w27 fun t99 =>
    RunQ prog (Instr.indexAt T.t_sl_int t99 pos) w27 fun t101 =>
    RunQ prog (Instr.loadAt T.t_int t101) w27 fun t102 =>
    Cal prog F.dom_Set_Size [t96] w27 fun t97 w28 =>
     (Ext w27 w28 ∨ Stays prog (Instr.loadAt T.t_int t101) t102 w28 ∧ Stays prog (Instr.loadAt T.t_sl_int t98) t99 w28 ∧ Stays prog (Instr.fieldAt T.t_ref04_Table x 0) t98 w28 ∧ True) ∧
    RunQ prog (binS .neq T.t_int false false t97 t102) w28 fun t103 =>
     J_2 t103 w28)))) fun J =>
  JoinC (α := Value → World → Prop) (fun (t49 : Value) (w29 : World) =>
    Split t49 (RunQ prog (Instr.fieldAt T.t_ref04_Table x 0) w29 fun t50 =>
     RunQ prog (Instr.loadAt T.t_sl_int t50) w29 fun t51 =>
     RunQ prog (Instr.indexAt T.t_sl_int t51 pos) w29 fun t53 =>
     RunQ prog (Instr.loadAt T.t_int t53) w29 fun t54 =>
     J t54 w29)
     (J size w29)) fun J_5 =>
  RunQ prog (binS .geq T.t_int false true pos (.int .i64 0)) w5 fun t37 =>
  Split t37 (RunQ prog (Instr.fieldAt T.t_ref04_Table x 0) w5 fun t40 =>
  RunQ prog (Instr.loadAt T.t_sl_int t40) w5 fun t41 =>
  RunQ prog (Builtin.len_ #[T.t_sl_int] T.t_int #[t41]) w5 fun t42 =>
  RunQ prog (binS .lss T.t_int false false pos t42) w5 fun t43 =>
  Split t43 (RunQ prog (binS .rem T.t_int false true size (.int .i64 4)) w5 fun t47 =>
  RunQ prog (binS .neq T.t_int false true t47 (.int .i64 0)) w5 fun t48 =>
  J_5 t48 w5)
   (J_5 (.bool false) w5))
   (J_5 (.bool false) w5))

theorem law04_TableOuts.enter {l k c pos bits size : Value} {w : World} {Q : Value → World → Prop} (h : law04_TableOuts.body l k c pos bits size w Q) : Cal prog F.law04_TableOuts [l, k, c, pos, bits, size] w Q :=
  Cal.enter' (P := prog) mixed (show prog.funcs[F.law04_TableOuts]? = some Tryd.f4 from Tryd.func4) rfl (by kernel_rfl) (by kernel_rfl) (by kernel_rfl) (by kernel_rfl) (Eq.mp (by kernel_rfl) h)

/-- pennyweight/pennyweightlaw04.TablePlays -/
def law04_TablePlays.body (l k c acts : Value) (w : World) (Q : Value → World → Prop) : Prop :=
  Cal prog F.law04_awake [] w fun t18 w1 =>
  RunQ prog (Op.unary .not t18) w1 fun t19 =>
  Split t19 (Q (.bool false) w1)
   (Cal prog F.law04_top [k] w1 fun t23 w2 =>
  Cal prog F.law04_made [l, t23, c] w2 fun t25 w3 =>
  RunQ prog (Instr.extract t25 0) w3 fun t26 =>
  RunQ prog (Instr.extract t25 1) w3 fun t27 =>
  RunC prog (Instr.alloc T.t_ref04_Table true (.tuple #[])) w3 fun x w4 =>
  RunC prog (Instr.storeAt T.t_ref04_Table x t27) w4 fun (_ : Unit) w5 =>
  JoinC (α := Value → World → Prop) (fun (t8 : Value) (w6 : World) =>
    Q (.bool true) w6) fun J =>
  RunQ prog (Builtin.len_ #[T.t_sl_law04_Act] T.t_int #[acts]) w5 fun t29 =>
  Loop2 (.bool false) (.int .i64 0) w5 fun t8_1 t30 w7 k_1 =>
    RunQ prog (binS .lss T.t_int false false t30 t29) w7 fun t31 =>
    Split t31 (RunQ prog (Instr.indexAt T.t_sl_law04_Act acts t30) w7 fun t33 =>
    RunQ prog (Instr.loadAt T.t_law04_Act t33) w7 fun t34 =>
    RunC prog (Instr.alloc T.t_law04_Act true (.tuple #[])) w7 fun a w8 =>
    RunC prog (Instr.storeAt T.t_law04_Act a t34) w8 fun (_ : Unit) w9 =>
    RunQ prog (binS .geq T.t_int false true t30 (.int .i64 30)) w9 fun t36 =>
    Split t36 (J t8_1 w9)
     (RunQ prog (Instr.fieldAt T.t_law04_Act a 1) w9 fun t37 =>
    RunQ prog (Instr.loadAt T.t_sl_int t37) w9 fun t38 =>
    RunQ prog (Instr.fieldAt T.t_law04_Act a 1) w9 fun t39 =>
    RunQ prog (Instr.loadAt T.t_sl_int t39) w9 fun t40 =>
    RunQ prog (Builtin.len_ #[T.t_sl_int] T.t_int #[t40]) w9 fun t41 =>
    RunQ prog (Builtin.min_ #[T.t_int, T.t_int] T.t_int #[t41, (.int .i64 5)]) w9 fun t42 =>
    RunQ prog (Instr.sliceAt T.t_sl_int t38 none (some t42) none) w9 fun t43 =>
    Cal prog F.slices_Clone_int_int [t43] w9 fun t44 w10 =>
    RunQ prog (Instr.fieldAt T.t_ref04_Table x 0) w10 fun t45 =>
    RunQ prog (Instr.loadAt T.t_sl_int t45) w10 fun t46 =>
    Cal prog F.ref03_Index [t46, t44] w10 fun t48 w11 =>
    JoinC (α := Value → World → Prop) (fun (ok : Value) (w12 : World) =>
      JoinC (α := Value → World → Prop) (fun (t8_2 : Value) (w13 : World) =>
        RunQ prog (Instr.loadAt T.t_ref04_Table x) w13 fun t140 =>
        Cal prog F.law04_like [t26, t140] w13 fun t141 w14 =>
        RunQ prog (Op.unary .not t141) w14 fun t142 =>
        Split t142 (Q (.bool false) w14)
         (RunQ prog (binS .add T.t_int false true t30 (.int .i64 1)) w14 fun t143 =>
    k_1 t8_2 t143 w14)) fun J_2 =>
      RunQ prog (Instr.fieldAt T.t_law04_Act a 0) w12 fun t58 =>
      RunQ prog (Instr.loadAt T.t_uint8 t58) w12 fun t59 =>
      RunQ prog (binS .rem T.t_uint8 false true t59 (.int .u8 3)) w12 fun t60 =>
      RunQ prog (binS .eql T.t_uint8 false true t60 (.int .u8 0)) w12 fun t98 =>
      Split t98 (RunQ prog (Instr.fieldAt T.t_law04_Act a 2) w12 fun t101 =>
       RunQ prog (Instr.loadAt T.t_int64 t101) w12 fun t102 =>
       Cal prog F.P_table_Table_Put [t26, t44, t102] w12 fun t103 w15 =>
       RunQ prog (binS .eql T.t_api_Errno false true t103 (.int .i64 0)) w15 fun t104 =>
       RunQ prog (binS .neq T.t_bool false false t104 ok) w15 fun t106 =>
       Split t106 (Q (.bool false) w15)
        (Split ok (RunQ prog (Instr.fieldAt T.t_ref04_Table x 2) w15 fun t108 =>
        RunQ prog (Instr.loadAt T.t_sl_int64 t108) w15 fun t109 =>
        RunQ prog (Instr.fieldAt T.t_law04_Act a 2) w15 fun t111 =>
        RunQ prog (Instr.loadAt T.t_int64 t111) w15 fun t112 =>
        RunQ prog (Instr.indexAt T.t_sl_int64 t109 t48) w15 fun t113 =>
        RunC prog (Instr.storeAt T.t_int64 t113 t112) w15 fun (_ : Unit) w16 =>
        J_2 t8_1 w16)
        (J_2 t8_1 w15)))
       (RunQ prog (binS .eql T.t_uint8 false true t60 (.int .u8 1)) w12 fun t115 =>
       Split t115 (RunQ prog (Instr.fieldAt T.t_law04_Act a 2) w12 fun t118 =>
        RunQ prog (Instr.loadAt T.t_int64 t118) w12 fun t119 =>
        Cal prog F.P_table_Table_More [t26, t44, t119] w12 fun t120 w17 =>
        RunQ prog (binS .eql T.t_api_Errno false true t120 (.int .i64 0)) w17 fun t121 =>
        RunQ prog (binS .neq T.t_bool false false t121 ok) w17 fun t123 =>
        Split t123 (Q (.bool false) w17)
         (Split ok (Drew w17 fun w18 =>
         RunQ prog (Instr.fieldAt T.t_ref04_Table x 2) w18 fun t125 =>
         RunQ prog (Instr.loadAt T.t_sl_int64 t125) w18 fun t126 =>
         RunQ prog (Instr.fieldAt T.t_ref04_Table x 2) w18 fun t128 =>
         RunQ prog (Instr.loadAt T.t_sl_int64 t128) w18 fun t129 =>
         RunQ prog (Instr.indexAt T.t_sl_int64 t129 t48) w18 fun t131 =>
         RunQ prog (Instr.loadAt T.t_int64 t131) w18 fun t132 =>
         RunQ prog (Instr.fieldAt T.t_law04_Act a 2) w18 fun t133 =>
         RunQ prog (Instr.loadAt T.t_int64 t133) w18 fun t134 =>
         RunQ prog (Instr.fieldAt T.t_ref04_Table x 1) w18 fun t135 =>
         RunQ prog (Instr.loadAt T.t_int64 t135) w18 fun t136 =>
         Cal prog F.ref01_Add [t132, t134, t136] w18 fun t137 w19 =>
          (Ext w18 w19 ∨ Stays prog (Instr.loadAt T.t_sl_int64 t125) t126 w19 ∧ Stays prog (Instr.fieldAt T.t_ref04_Table x 2) t125 w19 ∧ True) ∧
         RunQ prog (Instr.indexAt T.t_sl_int64 t126 t48) w19 fun t138 =>
          RunC prog (Instr.storeAt T.t_int64 t138 t137) w19 fun (_ : Unit) w20 =>
           J_2 t8_1 w20)
         (J_2 t8_1 w17)))
        (Cal prog F.P_table_Table_Get [t26, t44] w12 fun t64 w21 =>
        RunQ prog (Instr.extract t64 0) w21 fun t65 =>
        RunQ prog (Instr.extract t64 1) w21 fun t66 =>
        JoinC (α := Value → World → Prop) (fun (t96 : Value) (w22 : World) =>
          Split t96 (Q (.bool false) w22)
           (J_2 t8_1 w22)) fun J_3 =>
        RunQ prog (binS .eql T.t_api_Errno false true t66 (.int .i64 0)) w21 fun t68 =>
        RunQ prog (binS .geq T.t_int false true t48 (.int .i64 0)) w21 fun t70 =>
        RunQ prog (binS .neq T.t_bool false false t68 t70) w21 fun t71 =>
        Split t71 (J_3 (.bool true) w21)
         (RunQ prog (binS .geq T.t_int false true t48 (.int .i64 0)) w21 fun t74 =>
        Split t74 (RunQ prog (Instr.fieldAt T.t_ref04_Table x 2) w21 fun t77 =>
        RunQ prog (Instr.loadAt T.t_sl_int64 t77) w21 fun t78 =>
        RunQ prog (Instr.indexAt T.t_sl_int64 t78 t48) w21 fun t80 =>
        RunQ prog (Instr.loadAt T.t_int64 t80) w21 fun t81 =>
        RunQ prog (binS .neq T.t_int64 false false t65 t81) w21 fun t82 =>
        Split t82 (J_3 (.bool true) w21)
         (RunQ prog (binS .lss T.t_int false true t48 (.int .i64 0)) w21 fun t87 =>
        Split t87 (RunQ prog (binS .neq T.t_api_Errno false true t66 (.int .i64 3)) w21 fun t90 =>
        Split t90 (J_3 (.bool true) w21)
         (RunQ prog (binS .neq T.t_int64 false true t65 (.int .i64 0)) w21 fun t93 =>
        J_3 t93 w21))
         (J_3 (.bool false) w21)))
         (RunQ prog (binS .lss T.t_int false true t48 (.int .i64 0)) w21 fun t87_1 =>
        Split t87_1 (RunQ prog (binS .neq T.t_api_Errno false true t66 (.int .i64 3)) w21 fun t90_1 =>
        Split t90_1 (J_3 (.bool true) w21)
         (RunQ prog (binS .neq T.t_int64 false true t65 (.int .i64 0)) w21 fun t93_1 =>
        J_3 t93_1 w21))
         (J_3 (.bool false) w21)))))) fun J_1 =>
    RunQ prog (binS .geq T.t_int false true t48 (.int .i64 0)) w11 fun t50 =>
    Split t50 (RunQ prog (Instr.fieldAt T.t_law04_Act a 2) w11 fun t52 =>
     RunQ prog (Instr.loadAt T.t_int64 t52) w11 fun t53 =>
    RunQ prog (Instr.fieldAt T.t_ref04_Table x 1) w11 fun t54 =>
    RunQ prog (Instr.loadAt T.t_int64 t54) w11 fun t55 =>
    Cal prog F.ref01_In [t53, t55] w11 fun t56 w23 =>
    J_1 t56 w23)
     (J_1 (.bool false) w11)))
     (J t8_1 w7))

theorem law04_TablePlays.enter {l k c acts : Value} {w : World} {Q : Value → World → Prop} (h : law04_TablePlays.body l k c acts w Q) : Cal prog F.law04_TablePlays [l, k, c, acts] w Q :=
  Cal.enter' (P := prog) mixed (show prog.funcs[F.law04_TablePlays]? = some Tryd.f5 from Tryd.func5) rfl (by kernel_rfl) (by kernel_rfl) (by kernel_rfl) (by kernel_rfl) (Eq.mp (by kernel_rfl) h)

/-- pennyweight/pennyweightlaw04.TableTurns -/
def law04_TableTurns.body (l k c order : Value) (w : World) (Q : Value → World → Prop) : Prop :=
  Cal prog F.law04_awake [] w fun t19 w1 =>
  RunQ prog (Op.unary .not t19) w1 fun t20 =>
  Split t20 (Q (.bool false) w1)
   (Cal prog F.law04_top [k] w1 fun t24 w2 =>
  Cal prog F.law04_made [l, t24, c] w2 fun t26 w3 =>
  RunQ prog (Instr.extract t26 0) w3 fun t27 =>
  RunQ prog (Instr.extract t26 1) w3 fun t28 =>
  RunC prog (Instr.alloc T.t_ref04_Table true (.tuple #[])) w3 fun x w4 =>
  RunC prog (Instr.storeAt T.t_ref04_Table x t28) w4 fun (_ : Unit) w5 =>
  RunQ prog (Builtin.len_ #[T.t_sl_int] T.t_int #[order]) w5 fun t31 =>
  RunQ prog (Builtin.min_ #[T.t_int, T.t_int] T.t_int #[t31, (.int .i64 5)]) w5 fun t32 =>
  RunQ prog (Instr.sliceAt T.t_sl_int order none (some t32) none) w5 fun t33 =>
  Cal prog F.slices_Clone_int_int [t33] w5 fun t34 w6 =>
  RunQ prog (Builtin.len_ #[T.t_sl_int] T.t_int #[t34]) w6 fun t36 =>
  RunQ prog (Instr.fieldAt T.t_ref04_Table x 0) w6 fun t37 =>
  RunQ prog (Instr.loadAt T.t_sl_int t37) w6 fun t38 =>
  RunQ prog (Builtin.len_ #[T.t_sl_int] T.t_int #[t38]) w6 fun t39 =>
  RunQ prog (binS .eql T.t_int false false t36 t39) w6 fun t40 =>
  RunQ prog (Builtin.len_ #[T.t_sl_int] T.t_int #[t34]) w6 fun t42 =>
  RunC prog (Instr.makeSlice T.t_sl_int t42 t42) w6 fun t43 w7 =>
  RunQ prog (Builtin.len_ #[T.t_sl_int] T.t_int #[t34]) w7 fun t45 =>
  Loop2 t40 (.int .i64 0) w7 fun ok t46 w8 k_1 =>
    RunQ prog (binS .lss T.t_int false false t46 t45) w8 fun t47 =>
    Split t47 (JoinC (α := Value → World → Prop) (fun (ok_1 : Value) (w9 : World) =>
      RunQ prog (binS .add T.t_int false true t46 (.int .i64 1)) w9 fun t74 =>
      k_1 ok_1 t74 w9) fun J =>
    RunQ prog (Instr.indexAt T.t_sl_int t34 t46) w8 fun t49 =>
    RunQ prog (Instr.loadAt T.t_int t49) w8 fun t50 =>
    JoinC (α := Value → World → Prop) (fun (ok_2 : Value) (w10 : World) =>
      Split ok_2 (RunQ prog (Instr.indexAt T.t_sl_int t43 t50) w10 fun t73 =>
       RunC prog (Instr.storeAt T.t_int t73 t46) w10 fun (_ : Unit) w11 =>
       J ok_2 w11)
       (J ok_2 w10)) fun J_1 =>
    Split ok (RunQ prog (binS .geq T.t_int false true t50 (.int .i64 0)) w8 fun t54 =>
    Split t54 (RunQ prog (Builtin.len_ #[T.t_sl_int] T.t_int #[t34]) w8 fun t59 =>
    RunQ prog (binS .lss T.t_int false false t50 t59) w8 fun t60 =>
    Split t60 (Cal prog F.slices_Index_int_int [t34, t50] w8 fun t65 w12 =>
    RunQ prog (binS .eql T.t_int false false t65 t46) w12 fun t67 =>
    J_1 t67 w12)
     (J_1 (.bool false) w8))
     (J_1 (.bool false) w8))
     (J_1 (.bool false) w8))
     (Cal prog F.P_table_Table_Turn [t27, t34] w8 fun t78 w13 =>
  RunQ prog (Instr.extract t78 0) w13 fun t79 =>
  RunQ prog (Instr.extract t78 1) w13 fun t80 =>
  RunQ prog (Op.unary .not ok) w13 fun t82 =>
  Split t82 (JoinC (α := Value → World → Prop) (fun (t8 : Value) (w14 : World) =>
     Q t8 w14) fun J_2 =>
   RunQ prog (binS .eql T.t_api_Errno false true t80 (.int .i64 1)) w13 fun t84 =>
   Split t84 (RunQ prog (binS .eql T.t_p_table_Table false true t79 (.pointer none)) w13 fun t87 =>
   Split t87 (RunQ prog (Instr.loadAt T.t_ref04_Table x) w13 fun t91 =>
   Cal prog F.law04_like [t27, t91] w13 fun t92 w15 =>
   J_2 t92 w15)
    (J_2 (.bool false) w13))
    (J_2 (.bool false) w13))
   (Cal prog F.P_table_Table_Turn [t79, t43] w13 fun t97 w16 =>
  RunQ prog (Instr.extract t97 0) w16 fun t98 =>
  RunQ prog (Instr.extract t97 1) w16 fun t99 =>
  JoinC (α := Value → World → Prop) (fun (t8_1 : Value) (w17 : World) =>
    Q t8_1 w17) fun J_3 =>
  RunQ prog (binS .eql T.t_api_Errno false true t80 (.int .i64 0)) w16 fun t101 =>
  Split t101 (RunQ prog (Instr.loadAt T.t_ref04_Table x) w16 fun t104 =>
  Cal prog F.ref04_Turn [t104, t34] w16 fun t106 w18 =>
  Cal prog F.law04_like [t79, t106] w18 fun t107 w19 =>
  Split t107 (RunQ prog (binS .eql T.t_api_Errno false true t99 (.int .i64 0)) w19 fun t111 =>
  Split t111 (Cal prog F.table_Same [t98, t27] w19 fun t116 w20 =>
  J_3 t116 w20)
   (J_3 (.bool false) w19))
   (J_3 (.bool false) w19))
   (J_3 (.bool false) w16))))

theorem law04_TableTurns.enter {l k c order : Value} {w : World} {Q : Value → World → Prop} (h : law04_TableTurns.body l k c order w Q) : Cal prog F.law04_TableTurns [l, k, c, order] w Q :=
  Cal.enter' (P := prog) mixed (show prog.funcs[F.law04_TableTurns]? = some Tryd.f6 from Tryd.func6) rfl (by kernel_rfl) (by kernel_rfl) (by kernel_rfl) (by kernel_rfl) (Eq.mp (by kernel_rfl) h)

/-- pennyweight/pennyweightlaw04.TableSums -/
def law04_TableSums.body (l k a b c : Value) (w : World) (Q : Value → World → Prop) : Prop :=
  Cal prog F.law04_awake [] w fun t29 w1 =>
  RunQ prog (Op.unary .not t29) w1 fun t30 =>
  Split t30 (Q (.bool false) w1)
   (Cal prog F.law04_top [k] w1 fun t34 w2 =>
  Cal prog F.law04_made [l, t34, a] w2 fun t36 w3 =>
  RunQ prog (Instr.extract t36 0) w3 fun t37 =>
  RunQ prog (Instr.extract t36 1) w3 fun t38 =>
  RunC prog (Instr.alloc T.t_ref04_Table true (.tuple #[])) w3 fun x w4 =>
  RunC prog (Instr.storeAt T.t_ref04_Table x t38) w4 fun (_ : Unit) w5 =>
  Cal prog F.law04_top [k] w5 fun t42 w6 =>
  Cal prog F.law04_made [l, t42, b] w6 fun t44 w7 =>
  RunQ prog (Instr.extract t44 0) w7 fun t45 =>
  RunQ prog (Instr.extract t44 1) w7 fun t46 =>
  RunC prog (Instr.alloc T.t_ref04_Table true (.tuple #[])) w7 fun t14 w8 =>
  RunC prog (Instr.storeAt T.t_ref04_Table t14 t46) w8 fun (_ : Unit) w9 =>
  Cal prog F.law04_top [k] w9 fun t50 w10 =>
  Cal prog F.law04_made [l, t50, c] w10 fun t52 w11 =>
  RunQ prog (Instr.extract t52 0) w11 fun t53 =>
  RunQ prog (Instr.extract t52 1) w11 fun t54 =>
  RunC prog (Instr.alloc T.t_ref04_Table true (.tuple #[])) w11 fun t16 w12 =>
  RunC prog (Instr.storeAt T.t_ref04_Table t16 t54) w12 fun (_ : Unit) w13 =>
  RunQ prog (Instr.fieldAt T.t_ref04_Table x 0) w13 fun t55 =>
  RunQ prog (Instr.loadAt T.t_sl_int t55) w13 fun t56 =>
  RunQ prog (Builtin.len_ #[T.t_sl_int] T.t_int #[t56]) w13 fun t57 =>
  Cal prog F.law04_scope [t57, (.slice none 0 0)] w13 fun t58 w14 =>
  Cal prog F.table_Join [t37, t58, t37, t58] w14 fun t64 w15 =>
  RunQ prog (Instr.extract t64 0) w15 fun t65 =>
  RunQ prog (Instr.extract t64 1) w15 fun t66 =>
  RunQ prog (Instr.extract t64 2) w15 fun t67 =>
  RunQ prog (binS .neq T.t_api_Errno false true t67 (.int .i64 0)) w15 fun t69 =>
  Split t69 (Q (.bool false) w15)
   (Cal prog F.P_table_Table_Entries [t65] w15 fun t71 w16 =>
  RunQ prog (Builtin.len_ #[T.t_sl_int64] T.t_int #[t71]) w16 fun t72 =>
  Loop2 (.bool false) (.int .i64 0) w16 fun t10 t73 w17 k_1 =>
    RunQ prog (binS .lss T.t_int false false t73 t72) w17 fun t74 =>
    Split t74 (RunQ prog (Instr.indexAt T.t_sl_int64 t71 t73) w17 fun t76 =>
    RunQ prog (Instr.loadAt T.t_int64 t76) w17 fun t77 =>
    Drew w17 fun w18 =>
    RunQ prog (Instr.fieldAt T.t_ref04_Table x 2) w18 fun t79 =>
    RunQ prog (Instr.loadAt T.t_sl_int64 t79) w18 fun t80 =>
    RunQ prog (Instr.indexAt T.t_sl_int64 t80 t73) w18 fun t82 =>
    RunQ prog (Instr.loadAt T.t_int64 t82) w18 fun t83 =>
    RunQ prog (Instr.fieldAt T.t_ref04_Table x 2) w18 fun t84 =>
    RunQ prog (Instr.loadAt T.t_sl_int64 t84) w18 fun t85 =>
    RunQ prog (Instr.indexAt T.t_sl_int64 t85 t73) w18 fun t87 =>
    RunQ prog (Instr.loadAt T.t_int64 t87) w18 fun t88 =>
    RunQ prog (Instr.fieldAt T.t_ref04_Table x 1) w18 fun t89 =>
    RunQ prog (Instr.loadAt T.t_int64 t89) w18 fun t90 =>
    Cal prog F.ref01_Add [t83, t88, t90] w18 fun t91 w19 =>
     RunQ prog (binS .neq T.t_int64 false false t77 t91) w19 fun t92 =>
     Split t92 (Q (.bool false) w19)
     (RunQ prog (binS .add T.t_int false true t73 (.int .i64 1)) w19 fun t93 =>
    k_1 t10 t93 w19))
     (Cal prog F.table_Join [t37, t58, t45, t58] w17 fun t99 w20 =>
  RunQ prog (Instr.extract t99 0) w20 fun t100 =>
  RunQ prog (Instr.extract t99 1) w20 fun t101 =>
  RunQ prog (Instr.extract t99 2) w20 fun t102 =>
  Cal prog F.table_Join [t100, t58, t53, t58] w20 fun t108 w21 =>
  RunQ prog (Instr.extract t108 0) w21 fun t109 =>
  RunQ prog (Instr.extract t108 1) w21 fun t110 =>
  RunQ prog (Instr.extract t108 2) w21 fun t111 =>
  Cal prog F.table_Join [t53, t58, t45, t58] w21 fun t117 w22 =>
  RunQ prog (Instr.extract t117 0) w22 fun t118 =>
  RunQ prog (Instr.extract t117 1) w22 fun t119 =>
  RunQ prog (Instr.extract t117 2) w22 fun t120 =>
  Cal prog F.table_Join [t118, t58, t37, t58] w22 fun t126 w23 =>
  RunQ prog (Instr.extract t126 0) w23 fun t127 =>
  RunQ prog (Instr.extract t126 1) w23 fun t128 =>
  RunQ prog (Instr.extract t126 2) w23 fun t129 =>
  Cal prog F.table_Same [t109, t127] w23 fun t132 w24 =>
  Q t132 w24)))

theorem law04_TableSums.enter {l k a b c : Value} {w : World} {Q : Value → World → Prop} (h : law04_TableSums.body l k a b c w Q) : Cal prog F.law04_TableSums [l, k, a, b, c] w Q :=
  Cal.enter' (P := prog) mixed (show prog.funcs[F.law04_TableSums]? = some Tryd.f7 from Tryd.func7) rfl (by kernel_rfl) (by kernel_rfl) (by kernel_rfl) (by kernel_rfl) (Eq.mp (by kernel_rfl) h)

/-- pennyweight/pennyweightlaw04.TableJoins -/
def law04_TableJoins.body (l m k c d p q : Value) (w : World) (Q : Value → World → Prop) : Prop :=
  Cal prog F.law04_awake [] w fun t30 w1 =>
  RunQ prog (Op.unary .not t30) w1 fun t31 =>
  Split t31 (Q (.bool false) w1)
   (Cal prog F.law04_top [k] w1 fun t35 w2 =>
  Cal prog F.law04_made [l, t35, c] w2 fun t37 w3 =>
  RunQ prog (Instr.extract t37 0) w3 fun t38 =>
  RunQ prog (Instr.extract t37 1) w3 fun t39 =>
  RunC prog (Instr.alloc T.t_ref04_Table true (.tuple #[])) w3 fun x w4 =>
  RunC prog (Instr.storeAt T.t_ref04_Table x t39) w4 fun (_ : Unit) w5 =>
  Cal prog F.law04_top [k] w5 fun t43 w6 =>
  Cal prog F.law04_made [m, t43, d] w6 fun t45 w7 =>
  RunQ prog (Instr.extract t45 0) w7 fun t46 =>
  RunQ prog (Instr.extract t45 1) w7 fun t47 =>
  RunC prog (Instr.alloc T.t_ref04_Table true (.tuple #[])) w7 fun y w8 =>
  RunC prog (Instr.storeAt T.t_ref04_Table y t47) w8 fun (_ : Unit) w9 =>
  Drew w9 fun w10 =>
  RunQ prog (Instr.fieldAt T.t_ref04_Table x 0) w10 fun t48 =>
  RunQ prog (Instr.loadAt T.t_sl_int t48) w10 fun t49 =>
  RunQ prog (Builtin.len_ #[T.t_sl_int] T.t_int #[t49]) w10 fun t50 =>
  RunQ prog (Instr.fieldAt T.t_ref04_Table y 0) w10 fun t53 =>
  RunQ prog (Instr.loadAt T.t_sl_int t53) w10 fun t54 =>
  RunQ prog (Builtin.len_ #[T.t_sl_int] T.t_int #[t54]) w10 fun t55 =>
  Cal prog F.law04_scope [t50, p] w10 fun t52 w11 =>
   (Ext w10 w11 ∨ Stays prog (Builtin.len_ #[T.t_sl_int] T.t_int #[t54]) t55 w11 ∧ Stays prog (Instr.loadAt T.t_sl_int t53) t54 w11 ∧ Stays prog (Instr.fieldAt T.t_ref04_Table y 0) t53 w11 ∧ True) ∧
  Cal prog F.law04_scope [t55, q] w11 fun t57 w12 =>
    Cal prog F.table_Join [t38, t52, t46, t57] w12 fun t63 w13 =>
  RunQ prog (Instr.extract t63 0) w13 fun t64 =>
  RunQ prog (Instr.extract t63 1) w13 fun t65 =>
  RunQ prog (Instr.extract t63 2) w13 fun t66 =>
  RunQ prog (Instr.loadAt T.t_ref04_Table x) w13 fun t68 =>
  RunQ prog (Instr.loadAt T.t_ref04_Table y) w13 fun t70 =>
  Cal prog F.ref04_Join [t68, t52, t70, t57] w13 fun t72 w14 =>
  RunQ prog (Instr.extract t72 0) w14 fun t73 =>
  RunQ prog (Instr.extract t72 1) w14 fun t74 =>
  RunQ prog (Instr.extract t72 2) w14 fun t75 =>
  RunC prog (Instr.alloc T.t_ref04_Table true (.tuple #[])) w14 fun z w15 =>
  RunC prog (Instr.storeAt T.t_ref04_Table z t73) w15 fun (_ : Unit) w16 =>
  RunQ prog (Op.unary .not t75) w16 fun t77 =>
  Split t77 (JoinC (α := Value → World → Prop) (fun (t14 : Value) (w17 : World) =>
     Q t14 w17) fun J =>
   RunQ prog (binS .eql T.t_api_Errno false true t66 (.int .i64 1)) w16 fun t79 =>
   Split t79 (RunQ prog (binS .eql T.t_p_table_Table false true t64 (.pointer none)) w16 fun t82 =>
   J t82 w16)
    (J (.bool false) w16))
   (Cal prog F.table_Join [t46, t57, t38, t52] w16 fun t89 w18 =>
  RunQ prog (Instr.extract t89 0) w18 fun t90 =>
  RunQ prog (Instr.extract t89 1) w18 fun t91 =>
  RunQ prog (Instr.extract t89 2) w18 fun t92 =>
  JoinC (α := Value → World → Prop) (fun (t14_1 : Value) (w19 : World) =>
    Q t14_1 w19) fun J_1 =>
  RunQ prog (binS .eql T.t_api_Errno false true t66 (.int .i64 0)) w18 fun t94 =>
  Split t94 (Cal prog F.slices_Equal_int_int [t65, t74] w18 fun t98 w20 =>
  Split t98 (RunQ prog (Instr.loadAt T.t_ref04_Table z) w20 fun t102 =>
  Cal prog F.law04_like [t64, t102] w20 fun t103 w21 =>
  Split t103 (RunQ prog (binS .eql T.t_api_Errno false true t92 (.int .i64 0)) w21 fun t107 =>
  Split t107 (Cal prog F.table_Same [t64, t90] w21 fun t112 w22 =>
  Split t112 (RunQ prog (Instr.loadAt T.t_ref04_Table x) w22 fun t116 =>
  Cal prog F.law04_like [t38, t116] w22 fun t117 w23 =>
  Split t117 (RunQ prog (Instr.loadAt T.t_ref04_Table y) w23 fun t121 =>
  Cal prog F.law04_like [t46, t121] w23 fun t122 w24 =>
  J_1 t122 w24)
   (J_1 (.bool false) w23))
   (J_1 (.bool false) w22))
   (J_1 (.bool false) w21))
   (J_1 (.bool false) w21))
   (J_1 (.bool false) w20))
   (J_1 (.bool false) w18)))

theorem law04_TableJoins.enter {l m k c d p q : Value} {w : World} {Q : Value → World → Prop} (h : law04_TableJoins.body l m k c d p q w Q) : Cal prog F.law04_TableJoins [l, m, k, c, d, p, q] w Q :=
  Cal.enter' (P := prog) mixed (show prog.funcs[F.law04_TableJoins]? = some Tryd.f8 from Tryd.func8) rfl (by kernel_rfl) (by kernel_rfl) (by kernel_rfl) (by kernel_rfl) (Eq.mp (by kernel_rfl) h)

/-- pennyweight/pennyweightlaw04.TableErrs -/
def law04_TableErrs.body (sizes k fill atv other : Value) (w : World) (Q : Value → World → Prop) : Prop :=
  Cal prog F.law04_awake [] w fun t39 w1 =>
  RunQ prog (Op.unary .not t39) w1 fun t40 =>
  Split t40 (Q (.bool false) w1)
   (Drew w1 fun w2 =>
  RunQ prog (Builtin.len_ #[T.t_sl_int] T.t_int #[sizes]) w2 fun t43 =>
  RunQ prog (Builtin.min_ #[T.t_int, T.t_int] T.t_int #[t43, (.int .i64 4)]) w2 fun t44 =>
  RunQ prog (Instr.sliceAt T.t_sl_int sizes none (some t44) none) w2 fun t45 =>
  RunQ prog (Builtin.len_ #[T.t_sl_int] T.t_int #[atv]) w2 fun t49 =>
  RunQ prog (Builtin.min_ #[T.t_int, T.t_int] T.t_int #[t49, (.int .i64 4)]) w2 fun t50 =>
  RunQ prog (Instr.sliceAt T.t_sl_int atv none (some t50) none) w2 fun t51 =>
  Cal prog F.slices_Clone_int_int [t45] w2 fun t46 w3 =>
   (Ext w2 w3 ∨ Stays prog (Instr.sliceAt T.t_sl_int atv none (some t50) none) t51 w3 ∧ Stays prog (Builtin.min_ #[T.t_int, T.t_int] T.t_int #[t49, (.int .i64 4)]) t50 w3 ∧ Stays prog (Builtin.len_ #[T.t_sl_int] T.t_int #[atv]) t49 w3 ∧ True) ∧
  Cal prog F.slices_Clone_int_int [t51] w3 fun t52 w4 =>
    Cal prog F.table_New [t46, k, fill] w4 fun t57 w5 =>
  RunQ prog (Instr.extract t57 0) w5 fun t58 =>
  RunQ prog (Instr.extract t57 1) w5 fun t59 =>
  RunQ prog (Builtin.len_ #[T.t_sl_int] T.t_int #[t46]) w5 fun t61 =>
  Loop3 (.bool true) (.int .i64 1) (.int .i64 0) w5 fun small count t62 w6 k_1 =>
    RunQ prog (binS .lss T.t_int false false t62 t61) w6 fun t63 =>
    Split t63 (JoinC (α := Value → Value → World → Prop) (fun (small_1 count_1 : Value) (w7 : World) =>
      RunQ prog (binS .add T.t_int false true t62 (.int .i64 1)) w7 fun t79 =>
      k_1 small_1 count_1 t79 w7) fun J =>
    RunQ prog (Instr.indexAt T.t_sl_int t46 t62) w6 fun t64 =>
    RunQ prog (Instr.loadAt T.t_int t64) w6 fun t65 =>
    JoinC (α := Value → World → Prop) (fun (small_2 : Value) (w8 : World) =>
      Split small_2 (RunQ prog (binS .mul T.t_int false false count t65) w8 fun t78 =>
       J small_2 t78 w8)
       (J small_2 count w8)) fun J_1 =>
    Split small (RunQ prog (binS .geq T.t_int false true t65 (.int .i64 1)) w6 fun t69 =>
    Split t69 (RunQ prog (binS .leq T.t_int false true t65 (.int .i64 32)) w6 fun t73 =>
    J_1 t73 w6)
     (J_1 (.bool false) w6))
     (J_1 (.bool false) w6))
     (JoinC (α := Value → World → Prop) (fun (ok : Value) (w9 : World) =>
    JoinC (α := Value → World → Prop) (fun (t127 : Value) (w10 : World) =>
      Split t127 (Q (.bool false) w10)
       (RunC prog (Instr.buildSlice T.t_sl_uint8 2 #[(0, (.int .u8 1)), (1, (.int .u8 2))]) w10 fun t129 w11 =>
  Cal prog F.law04_made [t129, (.int .i64 9), (.slice none 0 0)] w11 fun t130 w12 =>
  RunQ prog (Instr.extract t130 0) w12 fun t131 =>
  RunQ prog (Instr.extract t130 1) w12 fun t132 =>
  RunC prog (Instr.alloc T.t_ref04_Table true (.tuple #[])) w12 fun x w13 =>
  RunC prog (Instr.storeAt T.t_ref04_Table x t132) w13 fun (_ : Unit) w14 =>
  RunC prog (Instr.buildSlice T.t_sl_int 1 #[(0, (.int .i64 2))]) w14 fun t134 w15 =>
  RunQ prog (binS .rem T.t_uint16 false true other (.int .u16 2)) w15 fun t136 =>
  RunQ prog (convert T.t_uint16 T.t_int64 t136) w15 fun t137 =>
  RunQ prog (binS .add T.t_int64 true false (.int .i64 9) t137) w15 fun t138 =>
  Cal prog F.table_New [t134, t138, (.int .i64 0)] w15 fun t139 w16 =>
  RunQ prog (Instr.extract t139 0) w16 fun t140 =>
  RunQ prog (Instr.extract t139 1) w16 fun t141 =>
  JoinC (α := Value → World → Prop) (fun (rises : Value) (w17 : World) =>
    RunC prog (Instr.buildSlice T.t_sl_int 1 #[(0, (.int .i64 1099511627776))]) w17 fun t164 w18 =>
    Cal prog F.table_Join [t131, t52, t140, t164] w18 fun t165 w19 =>
    RunQ prog (Instr.extract t165 0) w19 fun t166 =>
    RunQ prog (Instr.extract t165 1) w19 fun t167 =>
    RunQ prog (Instr.extract t165 2) w19 fun t168 =>
    JoinC (α := Value → World → Prop) (fun (want : Value) (w20 : World) =>
      Cal prog F.P_table_Table_Copy [t131] w20 fun t189 w21 =>
      RunC prog (Instr.buildSlice T.t_sl_int 2 #[(0, (.int .i64 0)), (1, (.int .i64 0))]) w21 fun t191 w22 =>
      Cal prog F.P_table_Table_Put [t189, t191, (.int .i64 5)] w22 fun t192 w23 =>
      Cal prog F.P_table_Table_Get [(.pointer none), (.slice none 0 0)] w23 fun t195 w24 =>
      RunQ prog (Instr.extract t195 0) w24 fun t196 =>
      RunQ prog (Instr.extract t195 1) w24 fun t197 =>
      Cal prog F.P_table_Table_Turn [(.pointer none), (.slice none 0 0)] w24 fun t200 w25 =>
      RunQ prog (Instr.extract t200 0) w25 fun t201 =>
      RunQ prog (Instr.extract t200 1) w25 fun t202 =>
      RunQ prog (Instr.build T.t_dom_Set #[]) w25 fun t205 =>
      Cal prog F.P_table_Table_Out [(.pointer none), (.int .i64 0), t205] w25 fun t206 w26 =>
      RunQ prog (Instr.extract t206 0) w26 fun t207 =>
      RunQ prog (Instr.extract t206 1) w26 fun t208 =>
      RunQ prog (Instr.extract t206 2) w26 fun t209 =>
      Cal prog F.table_Join [(.pointer none), t52, t131, t52] w26 fun t214 w27 =>
      RunQ prog (Instr.extract t214 0) w27 fun t215 =>
      RunQ prog (Instr.extract t214 1) w27 fun t216 =>
      RunQ prog (Instr.extract t214 2) w27 fun t217 =>
      JoinC (α := Value → World → Prop) (fun (t10 : Value) (w28 : World) =>
        Q t10 w28) fun J_6 =>
      RunQ prog (binS .eql T.t_api_Errno false false t168 want) w27 fun t220 =>
      Split t220 (RunQ prog (Instr.loadAt T.t_ref04_Table x) w27 fun t223 =>
      Cal prog F.law04_like [t131, t223] w27 fun t224 w29 =>
      Split t224 (RunQ prog (binS .eql T.t_api_Errno false true t197 (.int .i64 2)) w29 fun t228 =>
      Split t228 (RunQ prog (binS .eql T.t_api_Errno false true t202 (.int .i64 2)) w29 fun t232 =>
      Split t232 (RunQ prog (binS .eql T.t_api_Errno false true t209 (.int .i64 2)) w29 fun t236 =>
      Split t236 (RunQ prog (binS .eql T.t_api_Errno false true t217 (.int .i64 2)) w29 fun t240 =>
      Split t240 (Cal prog F.P_table_Table_Put [(.pointer none), (.slice none 0 0), (.int .i64 0)] w29 fun t244 w30 =>
      RunQ prog (binS .eql T.t_api_Errno false true t244 (.int .i64 2)) w30 fun t245 =>
      Split t245 (Cal prog F.P_table_Table_More [(.pointer none), (.slice none 0 0), (.int .i64 0)] w30 fun t249 w31 =>
      RunQ prog (binS .eql T.t_api_Errno false true t249 (.int .i64 2)) w31 fun t250 =>
      Split t250 (Cal prog F.P_table_Table_K [(.pointer none)] w31 fun t254 w32 =>
      RunQ prog (binS .eql T.t_int64 false true t254 (.int .i64 0)) w32 fun t255 =>
      Split t255 (Cal prog F.P_table_Table_Entries [(.pointer none)] w32 fun t259 w33 =>
      RunQ prog (Builtin.len_ #[T.t_sl_int64] T.t_int #[t259]) w33 fun t260 =>
      RunQ prog (binS .eql T.t_int false true t260 (.int .i64 0)) w33 fun t261 =>
      Split t261 (Cal prog F.P_table_Table_Copy [(.pointer none)] w33 fun t265 w34 =>
      RunQ prog (binS .eql T.t_p_table_Table false true t265 (.pointer none)) w34 fun t266 =>
      Split t266 (Cal prog F.P_table_Table_Shape [(.pointer none)] w34 fun t270 w35 =>
      Cal prog F.shape_Shape_Arity [t270] w35 fun t271 w36 =>
      RunQ prog (binS .eql T.t_int false true t271 (.int .i64 0)) w36 fun t272 =>
      Split t272 (Cal prog F.table_Same [(.pointer none), (.pointer none)] w36 fun t275 w37 =>
       Split t275 (Cal prog F.table_Same [t131, (.pointer none)] w37 fun t279 w38 =>
      RunQ prog (Op.unary .not t279) w38 fun t280 =>
      Split t280 (Cal prog F.P_table_Table_Copy [t131] w38 fun t285 w39 =>
      Cal prog F.table_Same [t131, t285] w39 fun t286 w40 =>
      Split t286 (RunQ prog (binS .eql T.t_p_table_Table false true t58 (.pointer none)) w40 fun t290 =>
      RunQ prog (binS .neq T.t_api_Errno false true t59 (.int .i64 0)) w40 fun t292 =>
      RunQ prog (binS .eql T.t_bool false false t290 t292) w40 fun t293 =>
      J_6 t293 w40)
       (J_6 (.bool false) w40))
       (J_6 (.bool false) w38))
       (J_6 (.bool false) w37))
       (J_6 (.bool false) w36))
       (J_6 (.bool false) w34))
       (J_6 (.bool false) w33))
       (J_6 (.bool false) w32))
       (J_6 (.bool false) w31))
       (J_6 (.bool false) w30))
       (J_6 (.bool false) w29))
       (J_6 (.bool false) w29))
       (J_6 (.bool false) w29))
       (J_6 (.bool false) w29))
       (J_6 (.bool false) w29))
       (J_6 (.bool false) w27)) fun J_5 =>
    RunQ prog (Op.unary .not rises) w19 fun t171 =>
    Split t171 (J_5 (.int .i64 1) w19)
     (JoinC (α := Value → World → Prop) (fun (t172 : Value) (w41 : World) =>
       Split t172 (J_5 t168 w41)
        (RunQ prog (binS .rem T.t_uint16 false true other (.int .u16 2)) w41 fun t186 =>
        RunQ prog (binS .eql T.t_uint16 false true t186 (.int .u16 1)) w41 fun t187 =>
        Split t187 (J_5 (.int .i64 3) w41)
         (J_5 (.int .i64 0) w41))) fun J_7 =>
     RunQ prog (Instr.indexAt T.t_sl_int t52 (.int .i64 0)) w19 fun t174 =>
     RunQ prog (Instr.loadAt T.t_int t174) w19 fun t175 =>
     RunQ prog (binS .eql T.t_int false true t175 (.int .i64 1099511627776)) w19 fun t176 =>
     Split t176 (J_7 (.bool true) w19)
      (RunQ prog (Instr.indexAt T.t_sl_int t52 (.int .i64 1)) w19 fun t179 =>
     RunQ prog (Instr.loadAt T.t_int t179) w19 fun t180 =>
     RunQ prog (binS .eql T.t_int false true t180 (.int .i64 1099511627776)) w19 fun t181 =>
     J_7 t181 w19))) fun J_4 =>
  Drew w16 fun w42 =>
  RunQ prog (Builtin.len_ #[T.t_sl_int] T.t_int #[t52]) w42 fun t143 =>
  RunQ prog (binS .eql T.t_int false true t143 (.int .i64 2)) w42 fun t144 =>
  Split t144 (RunQ prog (Instr.indexAt T.t_sl_int t52 (.int .i64 0)) w42 fun t147 =>
  RunQ prog (Instr.loadAt T.t_int t147) w42 fun t148 =>
  RunQ prog (binS .geq T.t_int false true t148 (.int .i64 0)) w42 fun t149 =>
  Split t149 (RunQ prog (Instr.indexAt T.t_sl_int t52 (.int .i64 1)) w42 fun t153 =>
  RunQ prog (Instr.loadAt T.t_int t153) w42 fun t154 =>
  RunQ prog (Instr.indexAt T.t_sl_int t52 (.int .i64 0)) w42 fun t156 =>
  RunQ prog (Instr.loadAt T.t_int t156) w42 fun t157 =>
  RunQ prog (binS .gtr T.t_int false false t154 t157) w42 fun t158 =>
  J_4 t158 w42)
   (J_4 (.bool false) w42))
   (J_4 (.bool false) w42))) fun J_3 =>
    RunQ prog (binS .eql T.t_api_Errno false true t59 (.int .i64 0)) w9 fun t92 =>
    RunQ prog (binS .neq T.t_bool false false ok t92) w9 fun t93 =>
    Split t93 (J_3 (.bool true) w9)
     (RunQ prog (Op.unary .not small) w9 fun t96 =>
    Split t96 (RunQ prog (binS .neq T.t_api_Errno false true t59 (.int .i64 1)) w9 fun t99 =>
    Split t99 (J_3 (.bool true) w9)
     (Split small (RunQ prog (binS .gtr T.t_int false true count (.int .i64 4096)) w9 fun t106 =>
    Split t106 (RunQ prog (binS .neq T.t_api_Errno false true t59 (.int .i64 5)) w9 fun t110 =>
    Split t110 (J_3 (.bool true) w9)
     (Split small (RunQ prog (binS .leq T.t_int false true count (.int .i64 4096)) w9 fun t117 =>
    Split t117 (RunQ prog (Op.unary .not ok) w9 fun t121 =>
    Split t121 (RunQ prog (binS .neq T.t_api_Errno false true t59 (.int .i64 3)) w9 fun t125 =>
    J_3 t125 w9)
     (J_3 (.bool false) w9))
     (J_3 (.bool false) w9))
     (J_3 (.bool false) w9)))
     (Split small (RunQ prog (binS .leq T.t_int false true count (.int .i64 4096)) w9 fun t117_1 =>
    Split t117_1 (RunQ prog (Op.unary .not ok) w9 fun t121_1 =>
    Split t121_1 (RunQ prog (binS .neq T.t_api_Errno false true t59 (.int .i64 3)) w9 fun t125_1 =>
    J_3 t125_1 w9)
     (J_3 (.bool false) w9))
     (J_3 (.bool false) w9))
     (J_3 (.bool false) w9)))
     (Split small (RunQ prog (binS .leq T.t_int false true count (.int .i64 4096)) w9 fun t117_2 =>
    Split t117_2 (RunQ prog (Op.unary .not ok) w9 fun t121_2 =>
    Split t121_2 (RunQ prog (binS .neq T.t_api_Errno false true t59 (.int .i64 3)) w9 fun t125_2 =>
    J_3 t125_2 w9)
     (J_3 (.bool false) w9))
     (J_3 (.bool false) w9))
     (J_3 (.bool false) w9))))
     (Split small (RunQ prog (binS .gtr T.t_int false true count (.int .i64 4096)) w9 fun t106_1 =>
    Split t106_1 (RunQ prog (binS .neq T.t_api_Errno false true t59 (.int .i64 5)) w9 fun t110_1 =>
    Split t110_1 (J_3 (.bool true) w9)
     (Split small (RunQ prog (binS .leq T.t_int false true count (.int .i64 4096)) w9 fun t117_3 =>
    Split t117_3 (RunQ prog (Op.unary .not ok) w9 fun t121_3 =>
    Split t121_3 (RunQ prog (binS .neq T.t_api_Errno false true t59 (.int .i64 3)) w9 fun t125_3 =>
    J_3 t125_3 w9)
     (J_3 (.bool false) w9))
     (J_3 (.bool false) w9))
     (J_3 (.bool false) w9)))
     (Split small (RunQ prog (binS .leq T.t_int false true count (.int .i64 4096)) w9 fun t117_4 =>
    Split t117_4 (RunQ prog (Op.unary .not ok) w9 fun t121_4 =>
    Split t121_4 (RunQ prog (binS .neq T.t_api_Errno false true t59 (.int .i64 3)) w9 fun t125_4 =>
    J_3 t125_4 w9)
     (J_3 (.bool false) w9))
     (J_3 (.bool false) w9))
     (J_3 (.bool false) w9)))
     (Split small (RunQ prog (binS .leq T.t_int false true count (.int .i64 4096)) w9 fun t117_5 =>
    Split t117_5 (RunQ prog (Op.unary .not ok) w9 fun t121_5 =>
    Split t121_5 (RunQ prog (binS .neq T.t_api_Errno false true t59 (.int .i64 3)) w9 fun t125_5 =>
    J_3 t125_5 w9)
     (J_3 (.bool false) w9))
     (J_3 (.bool false) w9))
     (J_3 (.bool false) w9))))) fun J_2 =>
  Split small (RunQ prog (binS .leq T.t_int false true count (.int .i64 4096)) w6 fun t83 =>
  Split t83 (Cal prog F.ref01_In [fill, k] w6 fun t88 w43 =>
  J_2 t88 w43)
   (J_2 (.bool false) w6))
   (J_2 (.bool false) w6)))

theorem law04_TableErrs.enter {sizes k fill atv other : Value} {w : World} {Q : Value → World → Prop} (h : law04_TableErrs.body sizes k fill atv other w Q) : Cal prog F.law04_TableErrs [sizes, k, fill, atv, other] w Q :=
  Cal.enter' (P := prog) mixed (show prog.funcs[F.law04_TableErrs]? = some Tryd.f9 from Tryd.func9) rfl (by kernel_rfl) (by kernel_rfl) (by kernel_rfl) (by kernel_rfl) (Eq.mp (by kernel_rfl) h)

/-- pennyweight/pennyweightlaw04.awake -/
def law04_awake.body (w : World) (Q : Value → World → Prop) : Prop :=
  RunC prog (Instr.buildSlice T.t_sl_int 2 #[(0, (.int .i64 2)), (1, (.int .i64 2))]) w fun t10 w1 =>
  Cal prog F.table_New [t10, (.int .i64 10), (.int .i64 0)] w1 fun t11 w2 =>
  RunQ prog (Instr.extract t11 0) w2 fun t12 =>
  RunQ prog (Instr.extract t11 1) w2 fun t13 =>
  JoinC (α := Value → World → Prop) (fun (t19 : Value) (w3 : World) =>
    Split t19 (Q (.bool false) w3)
     (RunC prog (Instr.buildSlice T.t_sl_int64 4 #[(0, (.int .i64 3)), (1, (.int .i64 5)), (2, (.int .i64 4)), (3, (.int .i64 1))]) w3 fun t20 w4 =>
  RunQ prog (Builtin.len_ #[T.t_sl_int64] T.t_int #[t20]) w4 fun t21 =>
  Loop2 (.bool false) (.int .i64 0) w4 fun t0 t22 w5 k =>
    RunQ prog (binS .lss T.t_int false false t22 t21) w5 fun t23 =>
    Split t23 (RunQ prog (Instr.indexAt T.t_sl_int64 t20 t22) w5 fun t25 =>
    RunQ prog (Instr.loadAt T.t_int64 t25) w5 fun t26 =>
    RunQ prog (binS .quo T.t_int false true t22 (.int .i64 2)) w5 fun t29 =>
    RunQ prog (binS .rem T.t_int false true t22 (.int .i64 2)) w5 fun t31 =>
    RunC prog (Instr.buildSlice T.t_sl_int 2 #[(0, t29), (1, t31)]) w5 fun t32 w6 =>
    Cal prog F.P_table_Table_Put [t12, t32, t26] w6 fun t34 w7 =>
    RunQ prog (binS .neq T.t_api_Errno false true t34 (.int .i64 0)) w7 fun t35 =>
    Split t35 (Q (.bool false) w7)
     (RunQ prog (binS .add T.t_int false true t22 (.int .i64 1)) w7 fun t36 =>
    k t0 t36 w7))
     (Cal prog F.dom_New [(.int .i64 2)] w5 fun t38 w8 =>
  RunQ prog (Instr.extract t38 0) w8 fun t39 =>
  RunQ prog (Instr.extract t38 1) w8 fun t40 =>
  RunC prog (Instr.alloc T.t_dom_Set true (.tuple #[])) w8 fun d w9 =>
  RunC prog (Instr.storeAt T.t_dom_Set d t39) w9 fun (_ : Unit) w10 =>
  RunQ prog (Instr.loadAt T.t_dom_Set d) w10 fun t43 =>
  Cal prog F.P_table_Table_Out [t12, (.int .i64 1), t43] w10 fun t44 w11 =>
  RunQ prog (Instr.extract t44 0) w11 fun t45 =>
  RunQ prog (Instr.extract t44 1) w11 fun t46 =>
  RunQ prog (Instr.extract t44 2) w11 fun t47 =>
  JoinC (α := Value → World → Prop) (fun (t0_1 : Value) (w12 : World) =>
    Q t0_1 w12) fun J_1 =>
  RunQ prog (binS .eql T.t_api_Errno false true t47 (.int .i64 0)) w11 fun t49 =>
  Split t49 (Cal prog F.P_table_Table_Entries [t45] w11 fun t52 w13 =>
  RunC prog (Instr.buildSlice T.t_sl_int64 2 #[(0, (.int .i64 3)), (1, (.int .i64 1))]) w13 fun t53 w14 =>
  Cal prog F.slices_Equal_int64_int64 [t52, t53] w14 fun t54 w15 =>
  Split t54 (RunC prog (Instr.buildSlice T.t_sl_int 2 #[(0, (.int .i64 0)), (1, (.int .i64 1))]) w15 fun t58 w16 =>
  Cal prog F.slices_Equal_int_int [t46, t58] w16 fun t59 w17 =>
  J_1 t59 w17)
   (J_1 (.bool false) w15))
   (J_1 (.bool false) w11)))) fun J =>
  RunQ prog (binS .neq T.t_api_Errno false true t13 (.int .i64 0)) w2 fun t15 =>
  Split t15 (J (.bool true) w2)
   (RunQ prog (binS .eql T.t_p_table_Table false true t12 (.pointer none)) w2 fun t18 =>
  J t18 w2)

theorem law04_awake.enter {w : World} {Q : Value → World → Prop} (h : law04_awake.body w Q) : Cal prog F.law04_awake [] w Q :=
  Cal.enter' (P := prog) mixed (show prog.funcs[F.law04_awake]? = some Tryd.f10 from Tryd.func10) rfl (by kernel_rfl) (by kernel_rfl) (by kernel_rfl) (by kernel_rfl) (Eq.mp (by kernel_rfl) h)

/-- pennyweight/pennyweightlaw04.made -/
def law04_made.body (l k c : Value) (w : World) (Q : Value → World → Prop) : Prop :=
  RunC prog (Instr.alloc T.t_ref04_Table true (.tuple #[])) w fun t7 w1 =>
  Cal prog F.ref03_Small [l] w1 fun t14 w2 =>
  Cal prog F.ref04_Make [t14, k, c] w2 fun t17 w3 =>
  RunC prog (Instr.alloc T.t_ref04_Table true (.tuple #[])) w3 fun x w4 =>
  RunC prog (Instr.storeAt T.t_ref04_Table x t17) w4 fun (_ : Unit) w5 =>
  RunQ prog (Instr.fieldAt T.t_ref04_Table x 0) w5 fun t19 =>
  RunQ prog (Instr.loadAt T.t_sl_int t19) w5 fun t20 =>
  Cal prog F.table_New [t20, k, (.int .i64 0)] w5 fun t22 w6 =>
  RunQ prog (Instr.extract t22 0) w6 fun t23 =>
  RunQ prog (Instr.extract t22 1) w6 fun t24 =>
  RunQ prog (Instr.fieldAt T.t_ref04_Table x 0) w6 fun t25 =>
  RunQ prog (Instr.loadAt T.t_sl_int t25) w6 fun t26 =>
  Cal prog F.ref03_All [t26] w6 fun t27 w7 =>
  RunQ prog (Builtin.len_ #[T.t_sl_sl_int] T.t_int #[t27]) w7 fun t28 =>
  Loop1 (.int .i64 0) w7 fun t29 w8 k_1 =>
    RunQ prog (binS .lss T.t_int false false t29 t28) w8 fun t30 =>
    Split t30 (RunQ prog (Instr.indexAt T.t_sl_sl_int t27 t29) w8 fun t32 =>
    RunQ prog (Instr.loadAt T.t_sl_int t32) w8 fun t33 =>
    RunQ prog (Instr.fieldAt T.t_ref04_Table x 2) w8 fun t36 =>
    RunQ prog (Instr.loadAt T.t_sl_int64 t36) w8 fun t37 =>
    RunQ prog (Instr.indexAt T.t_sl_int64 t37 t29) w8 fun t39 =>
    RunQ prog (Instr.loadAt T.t_int64 t39) w8 fun t40 =>
    Cal prog F.P_table_Table_Put [t23, t33, t40] w8 fun t41 w9 =>
    RunQ prog (binS .add T.t_int false true t29 (.int .i64 1)) w9 fun t42 =>
    k_1 t42 w9)
     (Drew w8 fun w10 =>
  RunQ prog (Instr.loadAt T.t_ref04_Table x) w10 fun t44 =>
  RunC prog (Instr.storeAt T.t_ref04_Table t7 t44) w10 fun (_ : Unit) w11 =>
   RunQ prog (do loadVar T.t_ref04_Table (← asAddr t7)) w11 fun r =>
  Q (.tuple #[t23, r]) w11)

theorem law04_made.enter {l k c : Value} {w : World} {Q : Value → World → Prop} (h : law04_made.body l k c w Q) : Cal prog F.law04_made [l, k, c] w Q :=
  Cal.enter' (P := prog) mixed (show prog.funcs[F.law04_made]? = some Tryd.f11 from Tryd.func11) rfl (by kernel_rfl) (by kernel_rfl) (by kernel_rfl) (by kernel_rfl) (Eq.mp (by kernel_rfl) h)

/-- pennyweight/pennyweightlaw04.top -/
def law04_top.body (k : Value) (w : World) (Q : Value → World → Prop) : Prop :=
  RunQ prog (binS .rem T.t_uint16 false true k (.int .u16 200)) w fun t4 =>
  RunQ prog (convert T.t_uint16 T.t_int64 t4) w fun t5 =>
  RunQ prog (binS .add T.t_int64 true false (.int .i64 1) t5) w fun t6 =>
  Q t6 w

theorem law04_top.enter {k : Value} {w : World} {Q : Value → World → Prop} (h : law04_top.body k w Q) : Cal prog F.law04_top [k] w Q :=
  Cal.enter' (P := prog) mixed (show prog.funcs[F.law04_top]? = some Tryd.f12 from Tryd.func12) rfl (by kernel_rfl) (by kernel_rfl) (by kernel_rfl) (by kernel_rfl) (Eq.mp (by kernel_rfl) h)

/-- pennyweight/dom.New -/
def dom_New.body (n : Value) (w : World) (Q : Value → World → Prop) : Prop :=
  RunC prog (Instr.alloc T.t_dom_Set true (.tuple #[])) w fun t2 w1 =>
  JoinC (α := Value → World → Prop) (fun (t9 : Value) (w2 : World) =>
    Split t9 (RunQ prog (Instr.build T.t_dom_Set #[]) w2 fun t10 =>
     RunC prog (Instr.storeAt T.t_dom_Set t2 t10) w2 fun (_ : Unit) w3 =>
     RunQ prog (do loadVar T.t_dom_Set (← asAddr t2)) w3 fun r =>
  Q (.tuple #[r, (.int .i64 1)]) w3)
     (RunQ prog (binS .shl T.t_uint64 true false (.int .u64 1) n) w2 fun t12 =>
  RunQ prog (binS .sub T.t_uint64 false true t12 (.int .u64 1)) w2 fun t13 =>
  RunQ prog (Instr.build T.t_dom_Set #[(0, t13), (1, n)]) w2 fun t15 =>
  RunC prog (Instr.storeAt T.t_dom_Set t2 t15) w2 fun (_ : Unit) w4 =>
  RunQ prog (do loadVar T.t_dom_Set (← asAddr t2)) w4 fun r_1 =>
  Q (.tuple #[r_1, (.int .i64 0)]) w4)) fun J =>
  RunQ prog (binS .lss T.t_int false true n (.int .i64 1)) w1 fun t5 =>
  Split t5 (J (.bool true) w1)
   (RunQ prog (binS .gtr T.t_int false true n (.int .i64 32)) w1 fun t8 =>
  J t8 w1)

theorem dom_New.enter {n : Value} {w : World} {Q : Value → World → Prop} (h : dom_New.body n w Q) : Cal prog F.dom_New [n] w Q :=
  Cal.enter' (P := prog) mixed (show prog.funcs[F.dom_New]? = some Tryd.f13 from Tryd.func13) rfl (by kernel_rfl) (by kernel_rfl) (by kernel_rfl) (by kernel_rfl) (Eq.mp (by kernel_rfl) h)

/-- (*pennyweight/table.Table).Out -/
def P_table_Table_Out.body (t pos d : Value) (w : World) (Q : Value → World → Prop) : Prop :=
  RunC prog (Instr.box T.t_p_table_Table t) w fun t_1 w1 =>
  RunC prog (Instr.box T.t_int pos) w1 fun pos_1 w2 =>
  RunC prog (Instr.box T.t_dom_Set d) w2 fun d_1 w3 =>
  RunQ prog (Instr.loadAt T.t_p_table_Table t_1) w3 fun t18 =>
  RunQ prog (binS .eql T.t_p_table_Table false true t18 (.pointer none)) w3 fun t19 =>
  Split t19 (Again w3 fun w4 => Q (.tuple #[(.pointer none), (.slice none 0 0), (.int .i64 2)]) w4)
   (JoinC (α := Value → World → Prop) (fun (t20 : Value) (w5 : World) =>
     Split t20 (Again w5 fun w6 => Q (.tuple #[(.pointer none), (.slice none 0 0), (.int .i64 1)]) w6)
      (JoinC (α := Value → World → Prop) (fun (u : Value) (w7 : World) =>
    RunC prog (Instr.buildSlice T.t_sl_int 1 #[(0, (.int .i64 (-1)))]) w7 fun t64 w8 =>
    RunQ prog (Instr.loadAt T.t_p_table_Table u) w8 fun t65 =>
    RunQ prog (nilS t65) w8 fun t66 =>
    RunQ prog (Instr.fieldAt T.t_table_Table t66 2) w8 fun t67 =>
    RunQ prog (Instr.loadAt T.t_sl_int64 t67) w8 fun t68 =>
    RunQ prog (Builtin.len_ #[T.t_sl_int64] T.t_int #[t68]) w8 fun t69 =>
    Cal prog F.slices_Repeat_int_int [t64, t69] w8 fun t70 w9 =>
    RunC prog (Instr.alloc T.t_sl_int true (.tuple #[])) w9 fun best w10 =>
    RunC prog (Instr.storeAt T.t_sl_int best t70) w10 fun (_ : Unit) w11 =>
    RunQ prog (Instr.loadAt T.t_p_table_Table u) w11 fun t71 =>
    RunQ prog (nilS t71) w11 fun t72 =>
    RunQ prog (Instr.fieldAt T.t_table_Table t72 0) w11 fun t73 =>
    RunQ prog (Instr.loadAt T.t_shape_Shape t73) w11 fun t74 =>
    Cal prog F.shape_Shape_All [t74] w11 fun t75 w12 =>
    Range2 prog t75 w12 (fun t76 t77 w13 k =>
      RunC prog (Instr.alloc T.t_int true (.tuple #[])) w13 fun i w14 =>
      RunC prog (Instr.storeAt T.t_int i t76) w14 fun (_ : Unit) w15 =>
      RunC prog (Instr.alloc T.t_sl_int true (.tuple #[])) w15 fun x w16 =>
      RunC prog (Instr.storeAt T.t_sl_int x t77) w16 fun (_ : Unit) w17 =>
      Again w17 fun w18 =>
      RunQ prog (Instr.loadAt T.t_dom_Set d_1) w18 fun t78 =>
      Cal prog F.dom_Set_Values [t78] w18 fun t79 w19 =>
      Range1 prog t79 w19 (fun t80 w20 k_1 =>
        Again w20 fun w21 =>
        JoinC (α := Value → World → Prop) (fun (c : Value) (w22 : World) =>
          JoinC (α := Value → World → Prop) (fun (t107 : Value) (w23 : World) =>
            Split t107 (Drew w23 fun w24 =>
             RunQ prog (Instr.loadAt T.t_sl_int best) w24 fun t108 =>
             RunQ prog (Instr.loadAt T.t_int i) w24 fun t109 =>
             RunQ prog (Instr.loadAt T.t_p_table_Table u) w24 fun t110 =>
             RunQ prog (nilS t110) w24 fun t111 =>
             RunQ prog (Instr.fieldAt T.t_table_Table t111 2) w24 fun t112 =>
             RunQ prog (Instr.loadAt T.t_sl_int64 t112) w24 fun t113 =>
             RunQ prog (Instr.loadAt T.t_int i) w24 fun t114 =>
             RunQ prog (Instr.indexAt T.t_sl_int t108 t109) w24 fun t117 =>
             RunC prog (Instr.storeAt T.t_int t117 t80) w24 fun (_ : Unit) w25 =>
              (Ext w24 w25 ∨ Stays prog (Instr.loadAt T.t_int i) t114 w25 ∧ True) ∧
             RunQ prog (Instr.indexAt T.t_sl_int64 t113 t114) w25 fun t118 =>
              RunC prog (Instr.storeAt T.t_int64 t118 c) w25 fun (_ : Unit) w26 =>
               k_1 .normal w26)
             (k_1 .normal w23)) fun J_3 =>
          Drew w22 fun w27 =>
          RunQ prog (Instr.loadAt T.t_sl_int best) w27 fun t92 =>
          RunQ prog (Instr.loadAt T.t_int i) w27 fun t93 =>
          RunQ prog (Instr.indexAt T.t_sl_int t92 t93) w27 fun t94 =>
          RunQ prog (Instr.loadAt T.t_int t94) w27 fun t95 =>
          RunQ prog (binS .lss T.t_int false true t95 (.int .i64 0)) w27 fun t96 =>
          Split t96 (J_3 (.bool true) w27)
           (RunQ prog (Instr.loadAt T.t_p_table_Table u) w27 fun t99 =>
          RunQ prog (nilS t99) w27 fun t100 =>
          RunQ prog (Instr.fieldAt T.t_table_Table t100 2) w27 fun t101 =>
          RunQ prog (Instr.loadAt T.t_sl_int64 t101) w27 fun t102 =>
          RunQ prog (Instr.loadAt T.t_int i) w27 fun t103 =>
          RunQ prog (Instr.indexAt T.t_sl_int64 t102 t103) w27 fun t104 =>
          RunQ prog (Instr.loadAt T.t_int64 t104) w27 fun t105 =>
          RunQ prog (binS .lss T.t_int64 false false c t105) w27 fun t106 =>
          J_3 t106 w27)) fun J_2 =>
        Drew w21 fun w28 =>
        RunQ prog (Instr.loadAt T.t_p_table_Table t_1) w28 fun t82 =>
        RunQ prog (Instr.loadAt T.t_sl_int x) w28 fun t83 =>
        RunQ prog (Instr.loadAt T.t_int pos_1) w28 fun t85 =>
        (Cal prog F.slices_Clone_int_int [t83] w28 fun t84 w29 =>
         (Ext w28 w29 ∨ Stays prog (Instr.loadAt T.t_int pos_1) t85 w29 ∧ Stays prog (Instr.loadAt T.t_p_table_Table t_1) t82 w29 ∧ True) ∧
        RunC prog (Instr.buildSlice T.t_sl_int 1 #[(0, t80)]) w29 fun t87 w30 =>
          (Ext w28 w30 ∨ Stays prog (Instr.loadAt T.t_int pos_1) t85 w30 ∧ Stays prog (Instr.loadAt T.t_sl_int x) t83 w30 ∧ Stays prog (Instr.loadAt T.t_p_table_Table t_1) t82 w30 ∧ True) ∧
         Cal prog F.slices_Insert_int_int [t84, t85, t87] w30 fun t88 w31 =>
           (Ext w28 w31 ∨ Stays prog (Instr.loadAt T.t_p_table_Table t_1) t82 w31 ∧ True) ∧
          Cal prog F.P_table_Table_Get [t82, t88] w31 fun t89 w32 =>
            RunQ prog (Instr.extract t89 0) w32 fun t90 =>
            RunQ prog (Instr.extract t89 1) w32 fun t91 =>
            J_2 t90 w32) ∧
        (RunC prog (Instr.buildSlice T.t_sl_int 1 #[(0, t80)]) w28 fun t87_1 w33 =>
         (Ext w28 w33 ∨ Stays prog (Instr.loadAt T.t_int pos_1) t85 w33 ∧ Stays prog (Instr.loadAt T.t_sl_int x) t83 w33 ∧ Stays prog (Instr.loadAt T.t_p_table_Table t_1) t82 w33 ∧ True) ∧
        Cal prog F.slices_Clone_int_int [t83] w33 fun t84_1 w34 =>
          (Ext w28 w34 ∨ Stays prog (Instr.loadAt T.t_int pos_1) t85 w34 ∧ Stays prog (Instr.loadAt T.t_p_table_Table t_1) t82 w34 ∧ True) ∧
         Cal prog F.slices_Insert_int_int [t84_1, t85, t87_1] w34 fun t88_1 w35 =>
           (Ext w28 w35 ∨ Stays prog (Instr.loadAt T.t_p_table_Table t_1) t82 w35 ∧ True) ∧
          Cal prog F.P_table_Table_Get [t82, t88_1] w35 fun t89_1 w36 =>
            RunQ prog (Instr.extract t89_1 0) w36 fun t90_1 =>
            RunQ prog (Instr.extract t89_1 1) w36 fun t91_1 =>
            J_2 t90_1 w36))
       (fun w37 =>
        k .normal w37)
       (fun _ => False)
       [])
     (fun w38 =>
      Drew w38 fun w39 =>
    RunQ prog (Instr.loadAt T.t_p_table_Table u) w39 fun t119 =>
    RunQ prog (Instr.loadAt T.t_sl_int best) w39 fun t120 =>
    Again w39 fun w40 => Q (.tuple #[t119, t120, (.int .i64 0)]) w40)
     (fun _ => False)
     []) fun J_1 =>
  Drew w5 fun w41 =>
  RunQ prog (Instr.loadAt T.t_p_table_Table t_1) w41 fun t44 =>
  RunQ prog (nilS t44) w41 fun t45 =>
  RunQ prog (Instr.fieldAt T.t_table_Table t45 0) w41 fun t46 =>
  RunQ prog (Instr.loadAt T.t_shape_Shape t46) w41 fun t47 =>
  RunQ prog (Instr.loadAt T.t_int pos_1) w41 fun t49 =>
  RunQ prog (Instr.loadAt T.t_int pos_1) w41 fun t50 =>
  RunQ prog (binS .add T.t_int false true t50 (.int .i64 1)) w41 fun t51 =>
  RunQ prog (Instr.loadAt T.t_p_table_Table t_1) w41 fun t53 =>
  RunQ prog (nilS t53) w41 fun t54 =>
  RunQ prog (Instr.fieldAt T.t_table_Table t54 1) w41 fun t55 =>
  RunQ prog (Instr.loadAt T.t_int64 t55) w41 fun t56 =>
  RunQ prog (Instr.loadAt T.t_p_table_Table t_1) w41 fun t57 =>
  RunQ prog (nilS t57) w41 fun t58 =>
  RunQ prog (Instr.fieldAt T.t_table_Table t58 1) w41 fun t59 =>
  RunQ prog (Instr.loadAt T.t_int64 t59) w41 fun t60 =>
  (Cal prog F.shape_Shape_Sizes [t47] w41 fun t48 w42 =>
   (Ext w41 w42 ∨ Stays prog (Instr.loadAt T.t_int64 t59) t60 w42 ∧ Stays prog (Instr.fieldAt T.t_table_Table t58 1) t59 w42 ∧ Stays prog (nilS t57) t58 w42 ∧ Stays prog (Instr.loadAt T.t_p_table_Table t_1) t57 w42 ∧ Stays prog (Instr.loadAt T.t_int64 t55) t56 w42 ∧ Stays prog (Instr.fieldAt T.t_table_Table t54 1) t55 w42 ∧ Stays prog (nilS t53) t54 w42 ∧ Stays prog (Instr.loadAt T.t_p_table_Table t_1) t53 w42 ∧ Stays prog (binS .add T.t_int false true t50 (.int .i64 1)) t51 w42 ∧ Stays prog (Instr.loadAt T.t_int pos_1) t50 w42 ∧ Stays prog (Instr.loadAt T.t_int pos_1) t49 w42 ∧ True) ∧
  (Cal prog F.slices_Delete_int_int [t48, t49, t51] w42 fun t52 w43 =>
    (Ext w41 w43 ∨ Stays prog (Instr.loadAt T.t_int64 t59) t60 w43 ∧ Stays prog (Instr.fieldAt T.t_table_Table t58 1) t59 w43 ∧ Stays prog (nilS t57) t58 w43 ∧ Stays prog (Instr.loadAt T.t_p_table_Table t_1) t57 w43 ∧ Stays prog (Instr.loadAt T.t_int64 t55) t56 w43 ∧ Stays prog (Instr.fieldAt T.t_table_Table t54 1) t55 w43 ∧ Stays prog (nilS t53) t54 w43 ∧ Stays prog (Instr.loadAt T.t_p_table_Table t_1) t53 w43 ∧ True) ∧
   (Cal prog F.table_New [t52, t56, t60] w43 fun t61 w44 =>
     RunQ prog (Instr.extract t61 0) w44 fun t62 =>
     RunQ prog (Instr.extract t61 1) w44 fun t63 =>
     RunC prog (Instr.alloc T.t_p_table_Table true (.tuple #[])) w44 fun u_1 w45 =>
      (Ext w41 w45 ∨ Stays prog (Instr.loadAt T.t_int64 t59) t60 w45 ∧ Stays prog (Instr.fieldAt T.t_table_Table t58 1) t59 w45 ∧ Stays prog (nilS t57) t58 w45 ∧ Stays prog (Instr.loadAt T.t_p_table_Table t_1) t57 w45 ∧ Stays prog (Instr.loadAt T.t_int64 t55) t56 w45 ∧ Stays prog (Instr.fieldAt T.t_table_Table t54 1) t55 w45 ∧ Stays prog (nilS t53) t54 w45 ∧ Stays prog (Instr.loadAt T.t_p_table_Table t_1) t53 w45 ∧ Stays prog (binS .add T.t_int false true t50 (.int .i64 1)) t51 w45 ∧ Stays prog (Instr.loadAt T.t_int pos_1) t50 w45 ∧ Stays prog (Instr.loadAt T.t_int pos_1) t49 w45 ∧ Stays prog (Instr.loadAt T.t_shape_Shape t46) t47 w45 ∧ Stays prog (Instr.fieldAt T.t_table_Table t45 0) t46 w45 ∧ Stays prog (nilS t44) t45 w45 ∧ Stays prog (Instr.loadAt T.t_p_table_Table t_1) t44 w45 ∧ True) ∧
     RunC prog (Instr.storeAt T.t_p_table_Table u_1 t62) w45 fun (_ : Unit) w46 =>
       J_1 u_1 w46) ∧
    (RunC prog (Instr.alloc T.t_p_table_Table true (.tuple #[])) w43 fun u_2 w47 =>
     (Ext w41 w47 ∨ Stays prog (Instr.loadAt T.t_int64 t59) t60 w47 ∧ Stays prog (Instr.fieldAt T.t_table_Table t58 1) t59 w47 ∧ Stays prog (nilS t57) t58 w47 ∧ Stays prog (Instr.loadAt T.t_p_table_Table t_1) t57 w47 ∧ Stays prog (Instr.loadAt T.t_int64 t55) t56 w47 ∧ Stays prog (Instr.fieldAt T.t_table_Table t54 1) t55 w47 ∧ Stays prog (nilS t53) t54 w47 ∧ Stays prog (Instr.loadAt T.t_p_table_Table t_1) t53 w47 ∧ Stays prog (binS .add T.t_int false true t50 (.int .i64 1)) t51 w47 ∧ Stays prog (Instr.loadAt T.t_int pos_1) t50 w47 ∧ Stays prog (Instr.loadAt T.t_int pos_1) t49 w47 ∧ Stays prog (Instr.loadAt T.t_shape_Shape t46) t47 w47 ∧ Stays prog (Instr.fieldAt T.t_table_Table t45 0) t46 w47 ∧ Stays prog (nilS t44) t45 w47 ∧ Stays prog (Instr.loadAt T.t_p_table_Table t_1) t44 w47 ∧ True) ∧
    Cal prog F.table_New [t52, t56, t60] w47 fun t61_1 w48 =>
      RunQ prog (Instr.extract t61_1 0) w48 fun t62_1 =>
      RunQ prog (Instr.extract t61_1 1) w48 fun t63_1 =>
      RunC prog (Instr.storeAt T.t_p_table_Table u_2 t62_1) w48 fun (_ : Unit) w49 =>
       J_1 u_2 w49)) ∧
   (RunC prog (Instr.alloc T.t_p_table_Table true (.tuple #[])) w42 fun u_3 w50 =>
    (Ext w41 w50 ∨ Stays prog (Instr.loadAt T.t_int64 t59) t60 w50 ∧ Stays prog (Instr.fieldAt T.t_table_Table t58 1) t59 w50 ∧ Stays prog (nilS t57) t58 w50 ∧ Stays prog (Instr.loadAt T.t_p_table_Table t_1) t57 w50 ∧ Stays prog (Instr.loadAt T.t_int64 t55) t56 w50 ∧ Stays prog (Instr.fieldAt T.t_table_Table t54 1) t55 w50 ∧ Stays prog (nilS t53) t54 w50 ∧ Stays prog (Instr.loadAt T.t_p_table_Table t_1) t53 w50 ∧ Stays prog (binS .add T.t_int false true t50 (.int .i64 1)) t51 w50 ∧ Stays prog (Instr.loadAt T.t_int pos_1) t50 w50 ∧ Stays prog (Instr.loadAt T.t_int pos_1) t49 w50 ∧ Stays prog (Instr.loadAt T.t_shape_Shape t46) t47 w50 ∧ Stays prog (Instr.fieldAt T.t_table_Table t45 0) t46 w50 ∧ Stays prog (nilS t44) t45 w50 ∧ Stays prog (Instr.loadAt T.t_p_table_Table t_1) t44 w50 ∧ True) ∧
   Cal prog F.slices_Delete_int_int [t48, t49, t51] w50 fun t52_1 w51 =>
     (Ext w41 w51 ∨ Stays prog (Instr.loadAt T.t_int64 t59) t60 w51 ∧ Stays prog (Instr.fieldAt T.t_table_Table t58 1) t59 w51 ∧ Stays prog (nilS t57) t58 w51 ∧ Stays prog (Instr.loadAt T.t_p_table_Table t_1) t57 w51 ∧ Stays prog (Instr.loadAt T.t_int64 t55) t56 w51 ∧ Stays prog (Instr.fieldAt T.t_table_Table t54 1) t55 w51 ∧ Stays prog (nilS t53) t54 w51 ∧ Stays prog (Instr.loadAt T.t_p_table_Table t_1) t53 w51 ∧ True) ∧
    Cal prog F.table_New [t52_1, t56, t60] w51 fun t61_2 w52 =>
      RunQ prog (Instr.extract t61_2 0) w52 fun t62_2 =>
      RunQ prog (Instr.extract t61_2 1) w52 fun t63_2 =>
      RunC prog (Instr.storeAt T.t_p_table_Table u_3 t62_2) w52 fun (_ : Unit) w53 =>
       J_1 u_3 w53)) ∧
  (RunC prog (Instr.alloc T.t_p_table_Table true (.tuple #[])) w41 fun u_4 w54 =>
   (Ext w41 w54 ∨ Stays prog (Instr.loadAt T.t_int64 t59) t60 w54 ∧ Stays prog (Instr.fieldAt T.t_table_Table t58 1) t59 w54 ∧ Stays prog (nilS t57) t58 w54 ∧ Stays prog (Instr.loadAt T.t_p_table_Table t_1) t57 w54 ∧ Stays prog (Instr.loadAt T.t_int64 t55) t56 w54 ∧ Stays prog (Instr.fieldAt T.t_table_Table t54 1) t55 w54 ∧ Stays prog (nilS t53) t54 w54 ∧ Stays prog (Instr.loadAt T.t_p_table_Table t_1) t53 w54 ∧ Stays prog (binS .add T.t_int false true t50 (.int .i64 1)) t51 w54 ∧ Stays prog (Instr.loadAt T.t_int pos_1) t50 w54 ∧ Stays prog (Instr.loadAt T.t_int pos_1) t49 w54 ∧ Stays prog (Instr.loadAt T.t_shape_Shape t46) t47 w54 ∧ Stays prog (Instr.fieldAt T.t_table_Table t45 0) t46 w54 ∧ Stays prog (nilS t44) t45 w54 ∧ Stays prog (Instr.loadAt T.t_p_table_Table t_1) t44 w54 ∧ True) ∧
  Cal prog F.shape_Shape_Sizes [t47] w54 fun t48_1 w55 =>
    (Ext w41 w55 ∨ Stays prog (Instr.loadAt T.t_int64 t59) t60 w55 ∧ Stays prog (Instr.fieldAt T.t_table_Table t58 1) t59 w55 ∧ Stays prog (nilS t57) t58 w55 ∧ Stays prog (Instr.loadAt T.t_p_table_Table t_1) t57 w55 ∧ Stays prog (Instr.loadAt T.t_int64 t55) t56 w55 ∧ Stays prog (Instr.fieldAt T.t_table_Table t54 1) t55 w55 ∧ Stays prog (nilS t53) t54 w55 ∧ Stays prog (Instr.loadAt T.t_p_table_Table t_1) t53 w55 ∧ Stays prog (binS .add T.t_int false true t50 (.int .i64 1)) t51 w55 ∧ Stays prog (Instr.loadAt T.t_int pos_1) t50 w55 ∧ Stays prog (Instr.loadAt T.t_int pos_1) t49 w55 ∧ True) ∧
   Cal prog F.slices_Delete_int_int [t48_1, t49, t51] w55 fun t52_2 w56 =>
     (Ext w41 w56 ∨ Stays prog (Instr.loadAt T.t_int64 t59) t60 w56 ∧ Stays prog (Instr.fieldAt T.t_table_Table t58 1) t59 w56 ∧ Stays prog (nilS t57) t58 w56 ∧ Stays prog (Instr.loadAt T.t_p_table_Table t_1) t57 w56 ∧ Stays prog (Instr.loadAt T.t_int64 t55) t56 w56 ∧ Stays prog (Instr.fieldAt T.t_table_Table t54 1) t55 w56 ∧ Stays prog (nilS t53) t54 w56 ∧ Stays prog (Instr.loadAt T.t_p_table_Table t_1) t53 w56 ∧ True) ∧
    Cal prog F.table_New [t52_2, t56, t60] w56 fun t61_3 w57 =>
      RunQ prog (Instr.extract t61_3 0) w57 fun t62_3 =>
      RunQ prog (Instr.extract t61_3 1) w57 fun t63_3 =>
      RunC prog (Instr.storeAt T.t_p_table_Table u_4 t62_3) w57 fun (_ : Unit) w58 =>
       J_1 u_4 w58))) fun J =>
   Drew w3 fun w59 =>
   RunQ prog (Instr.loadAt T.t_int pos_1) w59 fun t21 =>
   RunQ prog (binS .lss T.t_int false true t21 (.int .i64 0)) w59 fun t22 =>
   Split t22 ((Ext w59 w59 ∨ True ∧ True) ∧
   (Ext w59 w59 ∨ True ∧ True ∧ True ∧ True ∧ True ∧ True) ∧
    J (.bool true) w59)
    (RunQ prog (Instr.loadAt T.t_int pos_1) w59 fun t24 =>
    RunQ prog (Instr.loadAt T.t_p_table_Table t_1) w59 fun t25 =>
   RunQ prog (nilS t25) w59 fun t26 =>
   RunQ prog (Instr.fieldAt T.t_table_Table t26 0) w59 fun t27 =>
   RunQ prog (Instr.loadAt T.t_shape_Shape t27) w59 fun t28 =>
   Cal prog F.shape_Shape_Arity [t28] w59 fun t29 w60 =>
    (Ext w59 w60 ∨ Stays prog (Instr.loadAt T.t_int pos_1) t24 w60 ∧ True) ∧
   RunQ prog (binS .geq T.t_int false false t24 t29) w60 fun t30 =>
    Split t30 ((Ext w60 w60 ∨ True ∧ True ∧ True ∧ True ∧ True ∧ True) ∧
    J (.bool true) w60)
     (RunQ prog (Instr.loadAt T.t_dom_Set d_1) w60 fun t33 =>
     RunQ prog (Instr.loadAt T.t_p_table_Table t_1) w60 fun t35 =>
    RunQ prog (nilS t35) w60 fun t36 =>
    RunQ prog (Instr.fieldAt T.t_table_Table t36 0) w60 fun t37 =>
    RunQ prog (Instr.loadAt T.t_shape_Shape t37) w60 fun t38 =>
    RunQ prog (Instr.loadAt T.t_int pos_1) w60 fun t39 =>
    Cal prog F.dom_Set_Size [t33] w60 fun t34 w61 =>
     (Ext w60 w61 ∨ Stays prog (Instr.loadAt T.t_int pos_1) t39 w61 ∧ Stays prog (Instr.loadAt T.t_shape_Shape t37) t38 w61 ∧ Stays prog (Instr.fieldAt T.t_table_Table t36 0) t37 w61 ∧ Stays prog (nilS t35) t36 w61 ∧ Stays prog (Instr.loadAt T.t_p_table_Table t_1) t35 w61 ∧ True) ∧
    Cal prog F.shape_Shape_Size [t38, t39] w61 fun t40 w62 =>
      RunQ prog (binS .neq T.t_int false false t34 t40) w62 fun t41 =>
      J t41 w62)))

theorem P_table_Table_Out.enter {t pos d : Value} {w : World} {Q : Value → World → Prop} (h : P_table_Table_Out.body t pos d w Q) : Cal prog F.P_table_Table_Out [t, pos, d] w Q :=
  Cal.enter (P := prog) mixed (show prog.funcs[F.P_table_Table_Out]? = some Tryd.f14 from Tryd.func14) rfl (by kernel_rfl) (by kernel_rfl) (by kernel_rfl) (Eq.mp (by kernel_rfl) h)

/-- slices.Min[[]int64,int64] -/
def slices_Min_int64_int64.body (x : Value) (w : World) (Q : Value → World → Prop) : Prop :=
  JoinC (α := World → Prop) (fun (w1 : World) =>
    RunQ prog (Instr.indexAt T.t_sl_int64 x (.int .i64 0)) w1 fun t10 =>
    RunQ prog (Instr.loadAt T.t_int64 t10) w1 fun t11 =>
    Loop2 t11 (.int .i64 1) w1 fun m i w2 k =>
      RunQ prog (Builtin.len_ #[T.t_sl_int64] T.t_int #[x]) w2 fun t14 =>
      RunQ prog (binS .lss T.t_int false false i t14) w2 fun t15 =>
      Split t15 (RunQ prog (Instr.indexAt T.t_sl_int64 x i) w2 fun t21 =>
      RunQ prog (Instr.loadAt T.t_int64 t21) w2 fun t22 =>
      RunQ prog (Builtin.min_ #[T.t_int64, T.t_int64] T.t_int64 #[m, t22]) w2 fun t23 =>
      RunQ prog (binS .add T.t_int false true i (.int .i64 1)) w2 fun t17 =>
      k t23 t17 w2)
       (Q m w2)) fun J =>
  RunQ prog (Builtin.len_ #[T.t_sl_int64] T.t_int #[x]) w fun t6 =>
  RunQ prog (binS .lss T.t_int false true t6 (.int .i64 1)) w fun t7 =>
  Split t7 (RunQ prog (Instr.makeInterface T.t_string (.string ⟨#[115, 108, 105, 99, 101, 115, 46, 77, 105, 110, 58, 32, 101, 109, 112, 116, 121, 32, 108, 105, 115, 116]⟩)) w fun t8 =>
   False)
   (J w)

theorem slices_Min_int64_int64.enter {x : Value} {w : World} {Q : Value → World → Prop} (h : slices_Min_int64_int64.body x w Q) : Cal prog F.slices_Min_int64_int64 [x] w Q :=
  Cal.enter' (P := prog) mixed (show prog.funcs[F.slices_Min_int64_int64]? = some Tryd.f15 from Tryd.func15) rfl (by kernel_rfl) (by kernel_rfl) (by kernel_rfl) (by kernel_rfl) (Eq.mp (by kernel_rfl) h)

/-- (*pennyweight/table.Table).Get -/
def P_table_Table_Get.body (t tuple : Value) (w : World) (Q : Value → World → Prop) : Prop :=
  Cal prog F.P_table_Table_at [t, tuple] w fun t11 w1 =>
  RunQ prog (Instr.extract t11 0) w1 fun t12 =>
  RunQ prog (Instr.extract t11 1) w1 fun t13 =>
  RunQ prog (binS .neq T.t_api_Errno false true t13 (.int .i64 0)) w1 fun t15 =>
  Split t15 (Q (.tuple #[(.int .i64 0), t13]) w1)
   (RunQ prog (nilS t) w1 fun t18 =>
  RunQ prog (Instr.fieldAt T.t_table_Table t18 2) w1 fun t19 =>
  RunQ prog (Instr.loadAt T.t_sl_int64 t19) w1 fun t20 =>
  RunQ prog (Instr.indexAt T.t_sl_int64 t20 t12) w1 fun t22 =>
  RunQ prog (Instr.loadAt T.t_int64 t22) w1 fun t23 =>
  Q (.tuple #[t23, (.int .i64 0)]) w1)

theorem P_table_Table_Get.enter {t tuple : Value} {w : World} {Q : Value → World → Prop} (h : P_table_Table_Get.body t tuple w Q) : Cal prog F.P_table_Table_Get [t, tuple] w Q :=
  Cal.enter' (P := prog) mixed (show prog.funcs[F.P_table_Table_Get]? = some Tryd.f16 from Tryd.func16) rfl (by kernel_rfl) (by kernel_rfl) (by kernel_rfl) (by kernel_rfl) (Eq.mp (by kernel_rfl) h)

/-- pennyweight/table.Same -/
def table_Same.body (a b : Value) (w : World) (Q : Value → World → Prop) : Prop :=
  JoinC (α := Value → World → Prop) (fun (t10 : Value) (w1 : World) =>
    Split t10 (RunQ prog (binS .eql T.t_p_table_Table false false a b) w1 fun t13 =>
     Q t13 w1)
     (JoinC (α := Value → World → Prop) (fun (t4 : Value) (w2 : World) =>
    Q t4 w2) fun J_1 =>
  Drew w1 fun w3 =>
  RunQ prog (nilS a) w3 fun t15 =>
  RunQ prog (Instr.fieldAt T.t_table_Table t15 0) w3 fun t16 =>
  RunQ prog (Instr.loadAt T.t_shape_Shape t16) w3 fun t17 =>
  RunQ prog (nilS b) w3 fun t19 =>
  RunQ prog (Instr.fieldAt T.t_table_Table t19 0) w3 fun t20 =>
  RunQ prog (Instr.loadAt T.t_shape_Shape t20) w3 fun t21 =>
  Cal prog F.shape_Same [t17, t21] w3 fun t22 w4 =>
   Split t22 (RunQ prog (nilS a) w4 fun t25 =>
   RunQ prog (Instr.fieldAt T.t_table_Table t25 1) w4 fun t26 =>
   RunQ prog (Instr.loadAt T.t_int64 t26) w4 fun t27 =>
   RunQ prog (nilS b) w4 fun t29 =>
   RunQ prog (Instr.fieldAt T.t_table_Table t29 1) w4 fun t30 =>
   RunQ prog (Instr.loadAt T.t_int64 t30) w4 fun t31 =>
   RunQ prog (binS .eql T.t_int64 false false t27 t31) w4 fun t32 =>
   Split t32 (RunQ prog (nilS a) w4 fun t36 =>
   RunQ prog (Instr.fieldAt T.t_table_Table t36 2) w4 fun t37 =>
   RunQ prog (Instr.loadAt T.t_sl_int64 t37) w4 fun t38 =>
   RunQ prog (nilS b) w4 fun t40 =>
   RunQ prog (Instr.fieldAt T.t_table_Table t40 2) w4 fun t41 =>
   RunQ prog (Instr.loadAt T.t_sl_int64 t41) w4 fun t42 =>
   Cal prog F.slices_Equal_int64_int64 [t38, t42] w4 fun t43 w5 =>
    J_1 t43 w5)
    (J_1 (.bool false) w4))
    (J_1 (.bool false) w4))) fun J =>
  RunQ prog (binS .eql T.t_p_table_Table false true a (.pointer none)) w fun t6 =>
  Split t6 (J (.bool true) w)
   (RunQ prog (binS .eql T.t_p_table_Table false true b (.pointer none)) w fun t9 =>
  J t9 w)

theorem table_Same.enter {a b : Value} {w : World} {Q : Value → World → Prop} (h : table_Same.body a b w Q) : Cal prog F.table_Same [a, b] w Q :=
  Cal.enter' (P := prog) mixed (show prog.funcs[F.table_Same]? = some Tryd.f17 from Tryd.func17) rfl (by kernel_rfl) (by kernel_rfl) (by kernel_rfl) (by kernel_rfl) (Eq.mp (by kernel_rfl) h)

/-- (pennyweight/dom.Set).Size -/
def dom_Set_Size.body (s : Value) (w : World) (Q : Value → World → Prop) : Prop :=
  RunC prog (Instr.box T.t_dom_Set s) w fun s_1 w1 =>
  RunQ prog (Instr.fieldAt T.t_dom_Set s_1 1) w1 fun t3 =>
  RunQ prog (Instr.loadAt T.t_int t3) w1 fun t4 =>
  Q t4 w1

theorem dom_Set_Size.enter {s : Value} {w : World} {Q : Value → World → Prop} (h : dom_Set_Size.body s w Q) : Cal prog F.dom_Set_Size [s] w Q :=
  Cal.enter' (P := prog) mixed (show prog.funcs[F.dom_Set_Size]? = some Tryd.f18 from Tryd.func18) rfl (by kernel_rfl) (by kernel_rfl) (by kernel_rfl) (by kernel_rfl) (Eq.mp (by kernel_rfl) h)

/-- (pennyweight/dom.Set).Drop -/
def dom_Set_Drop.body (s v : Value) (w : World) (Q : Value → World → Prop) : Prop :=
  RunC prog (Instr.box T.t_dom_Set s) w fun s_1 w1 =>
  RunC prog (Instr.alloc T.t_dom_Set true (.tuple #[])) w1 fun t4 w2 =>
  JoinC (α := World → Prop) (fun (w3 : World) =>
    RunQ prog (Instr.loadAt T.t_dom_Set s_1) w3 fun t14 =>
    RunC prog (Instr.storeAt T.t_dom_Set t4 t14) w3 fun (_ : Unit) w4 =>
    RunQ prog (do loadVar T.t_dom_Set (← asAddr t4)) w4 fun r =>
  Q r w4) fun J =>
  RunQ prog (Instr.loadAt T.t_dom_Set s_1) w2 fun t5 =>
  Cal prog F.dom_Set_right [t5, v] w2 fun t7 w5 =>
  Split t7 (Drew w5 fun w6 =>
   RunQ prog (Instr.fieldAt T.t_dom_Set s_1 0) w6 fun t8 =>
   RunQ prog (Instr.loadAt T.t_uint64 t8) w6 fun t9 =>
   RunQ prog (binS .shl T.t_uint64 true false (.int .u64 1) v) w6 fun t11 =>
   RunQ prog (binS .andNot T.t_uint64 false false t9 t11) w6 fun t12 =>
   RunQ prog (Instr.fieldAt T.t_dom_Set s_1 0) w6 fun t13 =>
   RunC prog (Instr.storeAt T.t_uint64 t13 t12) w6 fun (_ : Unit) w7 =>
    J w7)
   (J w5)

theorem dom_Set_Drop.enter {s v : Value} {w : World} {Q : Value → World → Prop} (h : dom_Set_Drop.body s v w Q) : Cal prog F.dom_Set_Drop [s, v] w Q :=
  Cal.enter' (P := prog) mixed (show prog.funcs[F.dom_Set_Drop]? = some Tryd.f19 from Tryd.func19) rfl (by kernel_rfl) (by kernel_rfl) (by kernel_rfl) (by kernel_rfl) (Eq.mp (by kernel_rfl) h)

/-- pennyweight/pennyweightref04.Out -/
def ref04_Out.body (t pos values : Value) (w : World) (Q : Value → World → Prop) : Prop :=
  RunC prog (Instr.box T.t_ref04_Table t) w fun t_1 w1 =>
  RunC prog (Instr.alloc T.t_ref04_Table true (.tuple #[])) w1 fun t6 w2 =>
  RunQ prog (Instr.fieldAt T.t_ref04_Table t_1 1) w2 fun t18 =>
  RunQ prog (Instr.loadAt T.t_int64 t18) w2 fun t19 =>
  RunQ prog (Instr.build T.t_ref04_Table #[(1, t19)]) w2 fun t20 =>
  RunC prog (Instr.alloc T.t_ref04_Table true (.tuple #[])) w2 fun u w3 =>
  RunC prog (Instr.storeAt T.t_ref04_Table u t20) w3 fun (_ : Unit) w4 =>
  Drew w4 fun w5 =>
  RunQ prog (Instr.fieldAt T.t_ref04_Table t_1 0) w5 fun t22 =>
  RunQ prog (Instr.loadAt T.t_sl_int t22) w5 fun t23 =>
  RunQ prog (Instr.sliceAt T.t_sl_int t23 none (some pos) none) w5 fun t25 =>
  RunQ prog (Instr.fieldAt T.t_ref04_Table t_1 0) w5 fun t27 =>
  RunQ prog (Instr.loadAt T.t_sl_int t27) w5 fun t28 =>
  RunQ prog (binS .add T.t_int false true pos (.int .i64 1)) w5 fun t30 =>
  RunQ prog (Instr.sliceAt T.t_sl_int t28 (some t30) none none) w5 fun t31 =>
  RunC prog (Instr.buildSlice T.t_sl_int 0 #[]) w5 fun t21 w6 =>
   (Ext w5 w6 ∨ Stays prog (Instr.sliceAt T.t_sl_int t28 (some t30) none none) t31 w6 ∧ Stays prog (binS .add T.t_int false true pos (.int .i64 1)) t30 w6 ∧ Stays prog (Instr.loadAt T.t_sl_int t27) t28 w6 ∧ Stays prog (Instr.fieldAt T.t_ref04_Table t_1 0) t27 w6 ∧ Stays prog (Instr.sliceAt T.t_sl_int t23 none (some pos) none) t25 w6 ∧ Stays prog (Instr.loadAt T.t_sl_int t22) t23 w6 ∧ Stays prog (Instr.fieldAt T.t_ref04_Table t_1 0) t22 w6 ∧ True) ∧
  RunC prog (Builtin.append_ #[T.t_sl_int, T.t_sl_int] T.t_sl_int #[t21, t25]) w6 fun t26 w7 =>
    (Ext w5 w7 ∨ Stays prog (Instr.sliceAt T.t_sl_int t28 (some t30) none none) t31 w7 ∧ Stays prog (binS .add T.t_int false true pos (.int .i64 1)) t30 w7 ∧ Stays prog (Instr.loadAt T.t_sl_int t27) t28 w7 ∧ Stays prog (Instr.fieldAt T.t_ref04_Table t_1 0) t27 w7 ∧ True) ∧
   RunC prog (Builtin.append_ #[T.t_sl_int, T.t_sl_int] T.t_sl_int #[t26, t31]) w7 fun t32 w8 =>
     RunQ prog (Instr.fieldAt T.t_ref04_Table u 0) w8 fun t33 =>
     RunC prog (Instr.storeAt T.t_sl_int t33 t32) w8 fun (_ : Unit) w9 =>
      RunQ prog (Instr.fieldAt T.t_ref04_Table u 0) w9 fun t34 =>
  RunQ prog (Instr.loadAt T.t_sl_int t34) w9 fun t35 =>
  Cal prog F.ref03_All [t35] w9 fun t36 w10 =>
  RunQ prog (Builtin.len_ #[T.t_sl_sl_int] T.t_int #[t36]) w10 fun t37 =>
  Loop2 (.slice none 0 0) (.int .i64 0) w10 fun best t38 w11 k =>
    RunQ prog (binS .lss T.t_int false false t38 t37) w11 fun t39 =>
    Split t39 (RunQ prog (Instr.indexAt T.t_sl_sl_int t36 t38) w11 fun t40 =>
    RunQ prog (Instr.loadAt T.t_sl_int t40) w11 fun t41 =>
    RunQ prog (Instr.fieldAt T.t_ref04_Table t_1 1) w11 fun t42 =>
    RunQ prog (Instr.loadAt T.t_int64 t42) w11 fun t43 =>
    RunQ prog (Builtin.len_ #[T.t_sl_int] T.t_int #[values]) w11 fun t45 =>
    Loop3 t43 (.int .i64 (-1)) (.int .i64 0) w11 fun c wv t46 w12 k_1 =>
      RunQ prog (binS .lss T.t_int false false t46 t45) w12 fun t47 =>
      Split t47 (JoinC (α := Value → Value → World → Prop) (fun (c_1 wv_1 : Value) (w13 : World) =>
        RunQ prog (binS .add T.t_int false true t46 (.int .i64 1)) w13 fun t74 =>
        k_1 c_1 wv_1 t74 w13) fun J =>
      RunQ prog (Instr.indexAt T.t_sl_int values t46) w12 fun t48 =>
      RunQ prog (Instr.loadAt T.t_int t48) w12 fun t49 =>
      JoinC (α := Value → World → Prop) (fun (full : Value) (w14 : World) =>
        RunQ prog (Instr.loadAt T.t_ref04_Table t_1) w14 fun t62 =>
        Cal prog F.ref04_Get [t62, full] w14 fun t64 w15 =>
        JoinC (α := Value → World → Prop) (fun (t71 : Value) (w16 : World) =>
          Split t71 (J t64 t49 w16)
           (J c wv w16)) fun J_2 =>
        RunQ prog (binS .lss T.t_int false true wv (.int .i64 0)) w15 fun t66 =>
        Split t66 (J_2 (.bool true) w15)
         (RunQ prog (binS .lss T.t_int64 false false t64 c) w15 fun t70 =>
        J_2 t70 w15)) fun J_1 =>
      Drew w12 fun w17 =>
      RunQ prog (Instr.sliceAt T.t_sl_int t41 none (some pos) none) w17 fun t53 =>
      RunQ prog (Instr.sliceAt T.t_sl_int t41 (some pos) none none) w17 fun t60 =>
      (RunC prog (Instr.buildSlice T.t_sl_int 0 #[]) w17 fun t50 w18 =>
       (Ext w17 w18 ∨ Stays prog (Instr.sliceAt T.t_sl_int t41 (some pos) none none) t60 w18 ∧ Stays prog (Instr.sliceAt T.t_sl_int t41 none (some pos) none) t53 w18 ∧ True) ∧
      (RunC prog (Builtin.append_ #[T.t_sl_int, T.t_sl_int] T.t_sl_int #[t50, t53]) w18 fun t54 w19 =>
        (Ext w17 w19 ∨ Stays prog (Instr.sliceAt T.t_sl_int t41 (some pos) none none) t60 w19 ∧ True) ∧
       RunC prog (Instr.buildSlice T.t_sl_int 1 #[(0, t49)]) w19 fun t56 w20 =>
         (Ext w17 w20 ∨ Stays prog (Instr.sliceAt T.t_sl_int t41 (some pos) none none) t60 w20 ∧ Stays prog (Instr.sliceAt T.t_sl_int t41 none (some pos) none) t53 w20 ∧ True) ∧
        RunC prog (Builtin.append_ #[T.t_sl_int, T.t_sl_int] T.t_sl_int #[t54, t56]) w20 fun t57 w21 =>
          (Ext w17 w21 ∨ Stays prog (Instr.sliceAt T.t_sl_int t41 (some pos) none none) t60 w21 ∧ True) ∧
         RunC prog (Builtin.append_ #[T.t_sl_int, T.t_sl_int] T.t_sl_int #[t57, t60]) w21 fun t61 w22 =>
           J_1 t61 w22) ∧
       (RunC prog (Instr.buildSlice T.t_sl_int 1 #[(0, t49)]) w18 fun t56_1 w23 =>
        (Ext w17 w23 ∨ Stays prog (Instr.sliceAt T.t_sl_int t41 (some pos) none none) t60 w23 ∧ Stays prog (Instr.sliceAt T.t_sl_int t41 none (some pos) none) t53 w23 ∧ True) ∧
       RunC prog (Builtin.append_ #[T.t_sl_int, T.t_sl_int] T.t_sl_int #[t50, t53]) w23 fun t54_1 w24 =>
         (Ext w17 w24 ∨ Stays prog (Instr.sliceAt T.t_sl_int t41 (some pos) none none) t60 w24 ∧ True) ∧
        RunC prog (Builtin.append_ #[T.t_sl_int, T.t_sl_int] T.t_sl_int #[t54_1, t56_1]) w24 fun t57_1 w25 =>
          (Ext w17 w25 ∨ Stays prog (Instr.sliceAt T.t_sl_int t41 (some pos) none none) t60 w25 ∧ True) ∧
         RunC prog (Builtin.append_ #[T.t_sl_int, T.t_sl_int] T.t_sl_int #[t57_1, t60]) w25 fun t61_1 w26 =>
           J_1 t61_1 w26)) ∧
      (RunC prog (Instr.buildSlice T.t_sl_int 1 #[(0, t49)]) w17 fun t56_2 w27 =>
       (Ext w17 w27 ∨ Stays prog (Instr.sliceAt T.t_sl_int t41 (some pos) none none) t60 w27 ∧ Stays prog (Instr.sliceAt T.t_sl_int t41 none (some pos) none) t53 w27 ∧ True) ∧
      RunC prog (Instr.buildSlice T.t_sl_int 0 #[]) w27 fun t50_1 w28 =>
        (Ext w17 w28 ∨ Stays prog (Instr.sliceAt T.t_sl_int t41 (some pos) none none) t60 w28 ∧ Stays prog (Instr.sliceAt T.t_sl_int t41 none (some pos) none) t53 w28 ∧ True) ∧
       RunC prog (Builtin.append_ #[T.t_sl_int, T.t_sl_int] T.t_sl_int #[t50_1, t53]) w28 fun t54_2 w29 =>
         (Ext w17 w29 ∨ Stays prog (Instr.sliceAt T.t_sl_int t41 (some pos) none none) t60 w29 ∧ True) ∧
        RunC prog (Builtin.append_ #[T.t_sl_int, T.t_sl_int] T.t_sl_int #[t54_2, t56_2]) w29 fun t57_2 w30 =>
          (Ext w17 w30 ∨ Stays prog (Instr.sliceAt T.t_sl_int t41 (some pos) none none) t60 w30 ∧ True) ∧
         RunC prog (Builtin.append_ #[T.t_sl_int, T.t_sl_int] T.t_sl_int #[t57_2, t60]) w30 fun t61_2 w31 =>
           J_1 t61_2 w31))
       (RunQ prog (Instr.fieldAt T.t_ref04_Table u 2) w12 fun t75 =>
    RunQ prog (Instr.loadAt T.t_sl_int64 t75) w12 fun t76 =>
    RunC prog (Instr.buildSlice T.t_sl_int64 1 #[(0, c)]) w12 fun t78 w32 =>
    RunC prog (Builtin.append_ #[T.t_sl_int64, T.t_sl_int64] T.t_sl_int64 #[t76, t78]) w32 fun t79 w33 =>
    RunQ prog (Instr.fieldAt T.t_ref04_Table u 2) w33 fun t80 =>
    RunC prog (Instr.storeAt T.t_sl_int64 t80 t79) w33 fun (_ : Unit) w34 =>
    RunC prog (Instr.buildSlice T.t_sl_int 1 #[(0, wv)]) w34 fun t83 w35 =>
    RunC prog (Builtin.append_ #[T.t_sl_int, T.t_sl_int] T.t_sl_int #[best, t83]) w35 fun t84 w36 =>
    RunQ prog (binS .add T.t_int false true t38 (.int .i64 1)) w36 fun t85 =>
    k t84 t85 w36))
     (RunQ prog (Instr.loadAt T.t_ref04_Table u) w11 fun t86 =>
  RunC prog (Instr.storeAt T.t_ref04_Table t6 t86) w11 fun (_ : Unit) w37 =>
  RunQ prog (do loadVar T.t_ref04_Table (← asAddr t6)) w37 fun r =>
  Q (.tuple #[r, best]) w37)

theorem ref04_Out.enter {t pos values : Value} {w : World} {Q : Value → World → Prop} (h : ref04_Out.body t pos values w Q) : Cal prog F.ref04_Out [t, pos, values] w Q :=
  Cal.enter' (P := prog) mixed (show prog.funcs[F.ref04_Out]? = some Tryd.f20 from Tryd.func20) rfl (by kernel_rfl) (by kernel_rfl) (by kernel_rfl) (by kernel_rfl) (Eq.mp (by kernel_rfl) h)

/-- pennyweight/pennyweightlaw04.like -/
def law04_like.body (t x : Value) (w : World) (Q : Value → World → Prop) : Prop :=
  RunC prog (Instr.box T.t_ref04_Table x) w fun x_1 w1 =>
  JoinC (α := Value → World → Prop) (fun (t4 : Value) (w2 : World) =>
    Q t4 w2) fun J =>
  Drew w1 fun w3 =>
  RunQ prog (binS .neq T.t_p_table_Table false true t (.pointer none)) w3 fun t6 =>
  Split t6 (RunQ prog (Instr.fieldAt T.t_ref04_Table x_1 1) w3 fun t10 =>
  RunQ prog (Instr.loadAt T.t_int64 t10) w3 fun t11 =>
  Cal prog F.P_table_Table_K [t] w3 fun t9 w4 =>
   (Ext w3 w4 ∨ Stays prog (Instr.loadAt T.t_int64 t10) t11 w4 ∧ Stays prog (Instr.fieldAt T.t_ref04_Table x_1 1) t10 w4 ∧ True) ∧
  RunQ prog (binS .eql T.t_int64 false false t9 t11) w4 fun t12 =>
   Split t12 (RunQ prog (Instr.fieldAt T.t_ref04_Table x_1 0) w4 fun t18 =>
   RunQ prog (Instr.loadAt T.t_sl_int t18) w4 fun t19 =>
   Cal prog F.P_table_Table_Shape [t] w4 fun t16 w5 =>
    (Ext w4 w5 ∨ Stays prog (Instr.loadAt T.t_sl_int t18) t19 w5 ∧ Stays prog (Instr.fieldAt T.t_ref04_Table x_1 0) t18 w5 ∧ True) ∧
   Cal prog F.shape_Shape_Sizes [t16] w5 fun t17 w6 =>
     (Ext w4 w6 ∨ Stays prog (Instr.loadAt T.t_sl_int t18) t19 w6 ∧ Stays prog (Instr.fieldAt T.t_ref04_Table x_1 0) t18 w6 ∧ True) ∧
    Cal prog F.slices_Equal_int_int [t17, t19] w6 fun t20 w7 =>
      Split t20 (RunQ prog (Instr.fieldAt T.t_ref04_Table x_1 2) w7 fun t25 =>
      RunQ prog (Instr.loadAt T.t_sl_int64 t25) w7 fun t26 =>
      Cal prog F.P_table_Table_Entries [t] w7 fun t24 w8 =>
       (Ext w7 w8 ∨ Stays prog (Instr.loadAt T.t_sl_int64 t25) t26 w8 ∧ Stays prog (Instr.fieldAt T.t_ref04_Table x_1 2) t25 w8 ∧ True) ∧
      Cal prog F.slices_Equal_int64_int64 [t24, t26] w8 fun t27 w9 =>
        J t27 w9)
       ((Ext w7 w7 ∨ True ∧ True ∧ True) ∧
      J (.bool false) w7))
    ((Ext w4 w4 ∨ True ∧ True ∧ True) ∧
   (Ext w4 w4 ∨ True ∧ True ∧ True) ∧
    (Ext w4 w4 ∨ True ∧ True ∧ True) ∧
      J (.bool false) w4))
   ((Ext w3 w3 ∨ True ∧ True ∧ True) ∧
  (Ext w3 w3 ∨ True ∧ True ∧ True) ∧
   (Ext w3 w3 ∨ True ∧ True ∧ True) ∧
    (Ext w3 w3 ∨ True ∧ True ∧ True) ∧
      J (.bool false) w3)

theorem law04_like.enter {t x : Value} {w : World} {Q : Value → World → Prop} (h : law04_like.body t x w Q) : Cal prog F.law04_like [t, x] w Q :=
  Cal.enter' (P := prog) mixed (show prog.funcs[F.law04_like]? = some Tryd.f21 from Tryd.func21) rfl (by kernel_rfl) (by kernel_rfl) (by kernel_rfl) (by kernel_rfl) (Eq.mp (by kernel_rfl) h)

/-- slices.Equal[[]int,int] -/
def slices_Equal_int_int.body (s1 s2 : Value) (w : World) (Q : Value → World → Prop) : Prop :=
  RunQ prog (Builtin.len_ #[T.t_sl_int] T.t_int #[s1]) w fun t7 =>
  RunQ prog (Builtin.len_ #[T.t_sl_int] T.t_int #[s2]) w fun t9 =>
  RunQ prog (binS .neq T.t_int false false t7 t9) w fun t10 =>
  Split t10 (Q (.bool false) w)
   (RunQ prog (Builtin.len_ #[T.t_sl_int] T.t_int #[s1]) w fun t12 =>
  Loop2 (.bool false) (.int .i64 0) w fun t4 t13 w1 k =>
    RunQ prog (binS .lss T.t_int false false t13 t12) w1 fun t14 =>
    Split t14 (Drew w1 fun w2 =>
    RunQ prog (Instr.indexAt T.t_sl_int s1 t13) w2 fun t18 =>
    RunQ prog (Instr.loadAt T.t_int t18) w2 fun t19 =>
    RunQ prog (Instr.indexAt T.t_sl_int s2 t13) w2 fun t22 =>
    RunQ prog (Instr.loadAt T.t_int t22) w2 fun t23 =>
    RunQ prog (binS .neq T.t_int false false t19 t23) w2 fun t24 =>
    Split t24 (Q (.bool false) w2)
     (RunQ prog (binS .add T.t_int false true t13 (.int .i64 1)) w2 fun t25 =>
    k t4 t25 w2))
     (Q (.bool true) w1))

theorem slices_Equal_int_int.enter {s1 s2 : Value} {w : World} {Q : Value → World → Prop} (h : slices_Equal_int_int.body s1 s2 w Q) : Cal prog F.slices_Equal_int_int [s1, s2] w Q :=
  Cal.enter' (P := prog) mixed (show prog.funcs[F.slices_Equal_int_int]? = some Tryd.f22 from Tryd.func22) rfl (by kernel_rfl) (by kernel_rfl) (by kernel_rfl) (by kernel_rfl) (Eq.mp (by kernel_rfl) h)

/-- slices.Clone[[]int,int] -/
def slices_Clone_int_int.body (s : Value) (w : World) (Q : Value → World → Prop) : Prop :=
  RunQ prog (binS .eql T.t_sl_int false true s (.slice none 0 0)) w fun t4 =>
  Split t4 (Q (.slice none 0 0) w)
   (RunC prog (Instr.buildSlice T.t_sl_int 0 #[]) w fun t5 w1 =>
  RunC prog (Builtin.append_ #[T.t_sl_int, T.t_sl_int] T.t_sl_int #[t5, s]) w1 fun t7 w2 =>
  Q t7 w2)

theorem slices_Clone_int_int.enter {s : Value} {w : World} {Q : Value → World → Prop} (h : slices_Clone_int_int.body s w Q) : Cal prog F.slices_Clone_int_int [s] w Q :=
  Cal.enter' (P := prog) mixed (show prog.funcs[F.slices_Clone_int_int]? = some Tryd.f23 from Tryd.func23) rfl (by kernel_rfl) (by kernel_rfl) (by kernel_rfl) (by kernel_rfl) (Eq.mp (by kernel_rfl) h)

/-- pennyweight/pennyweightref03.Index -/
def ref03_Index.body (sizes t : Value) (w : World) (Q : Value → World → Prop) : Prop :=
  Cal prog F.ref03_All [sizes] w fun t8 w1 =>
  RunQ prog (Builtin.len_ #[T.t_sl_sl_int] T.t_int #[t8]) w1 fun t9 =>
  Loop2 (.int .i64 0) (.int .i64 0) w1 fun t4 t10 w2 k =>
    RunQ prog (binS .lss T.t_int false false t10 t9) w2 fun t11 =>
    Split t11 (RunQ prog (Instr.indexAt T.t_sl_sl_int t8 t10) w2 fun t13 =>
    RunQ prog (Instr.loadAt T.t_sl_int t13) w2 fun t14 =>
    Cal prog F.ref03_Same [t14, t] w2 fun t17 w3 =>
    Split t17 (Q t10 w3)
     (RunQ prog (binS .add T.t_int false true t10 (.int .i64 1)) w3 fun t19 =>
    k t4 t19 w3))
     (Q (.int .i64 (-1)) w2)

theorem ref03_Index.enter {sizes t : Value} {w : World} {Q : Value → World → Prop} (h : ref03_Index.body sizes t w Q) : Cal prog F.ref03_Index [sizes, t] w Q :=
  Cal.enter' (P := prog) mixed (show prog.funcs[F.ref03_Index]? = some Tryd.f24 from Tryd.func24) rfl (by kernel_rfl) (by kernel_rfl) (by kernel_rfl) (by kernel_rfl) (Eq.mp (by kernel_rfl) h)

/-- pennyweight/pennyweightref01.In -/
def ref01_In.body (a k : Value) (w : World) (Q : Value → World → Prop) : Prop :=
  JoinC (α := Value → World → Prop) (fun (t4 : Value) (w1 : World) =>
    Q t4 w1) fun J =>
  Cal prog F.ref01_Right [k] w fun t6 w2 =>
  Split t6 (RunQ prog (binS .geq T.t_int64 false true a (.int .i64 0)) w2 fun t9 =>
  Split t9 (RunQ prog (binS .leq T.t_int64 false false a k) w2 fun t14 =>
  J t14 w2)
   (J (.bool false) w2))
   (J (.bool false) w2)

theorem ref01_In.enter {a k : Value} {w : World} {Q : Value → World → Prop} (h : ref01_In.body a k w Q) : Cal prog F.ref01_In [a, k] w Q :=
  Cal.enter' (P := prog) mixed (show prog.funcs[F.ref01_In]? = some Tryd.f25 from Tryd.func25) rfl (by kernel_rfl) (by kernel_rfl) (by kernel_rfl) (by kernel_rfl) (Eq.mp (by kernel_rfl) h)

/-- (*pennyweight/table.Table).Put -/
def P_table_Table_Put.body (t tuple c : Value) (w : World) (Q : Value → World → Prop) : Prop :=
  Cal prog F.P_table_Table_at [t, tuple] w fun t12 w1 =>
  RunQ prog (Instr.extract t12 0) w1 fun t13 =>
  RunQ prog (Instr.extract t12 1) w1 fun t14 =>
  RunQ prog (binS .neq T.t_api_Errno false true t14 (.int .i64 0)) w1 fun t17 =>
  Split t17 (Q t14 w1)
   (RunQ prog (nilS t) w1 fun t22 =>
   RunQ prog (Instr.fieldAt T.t_table_Table t22 1) w1 fun t23 =>
   RunQ prog (Instr.loadAt T.t_int64 t23) w1 fun t24 =>
   Cal prog F.cost_In [c, t24] w1 fun t25 w2 =>
   RunQ prog (Op.unary .not t25) w2 fun t26 =>
   Split t26 (Q (.int .i64 3) w2)
    (RunQ prog (nilS t) w2 fun t28 =>
  RunQ prog (Instr.fieldAt T.t_table_Table t28 2) w2 fun t29 =>
  RunQ prog (Instr.loadAt T.t_sl_int64 t29) w2 fun t30 =>
  RunQ prog (Instr.indexAt T.t_sl_int64 t30 t13) w2 fun t33 =>
  RunC prog (Instr.storeAt T.t_int64 t33 c) w2 fun (_ : Unit) w3 =>
  Q (.int .i64 0) w3))

theorem P_table_Table_Put.enter {t tuple c : Value} {w : World} {Q : Value → World → Prop} (h : P_table_Table_Put.body t tuple c w Q) : Cal prog F.P_table_Table_Put [t, tuple, c] w Q :=
  Cal.enter' (P := prog) mixed (show prog.funcs[F.P_table_Table_Put]? = some Tryd.f26 from Tryd.func26) rfl (by kernel_rfl) (by kernel_rfl) (by kernel_rfl) (by kernel_rfl) (Eq.mp (by kernel_rfl) h)

/-- (*pennyweight/table.Table).More -/
def P_table_Table_More.body (t tuple c : Value) (w : World) (Q : Value → World → Prop) : Prop :=
  Cal prog F.P_table_Table_at [t, tuple] w fun t13 w1 =>
  RunQ prog (Instr.extract t13 0) w1 fun t14 =>
  RunQ prog (Instr.extract t13 1) w1 fun t15 =>
  RunQ prog (binS .neq T.t_api_Errno false true t15 (.int .i64 0)) w1 fun t17 =>
  Split t17 (Q t15 w1)
   (Drew w1 fun w2 =>
  RunQ prog (nilS t) w2 fun t21 =>
  RunQ prog (Instr.fieldAt T.t_table_Table t21 2) w2 fun t22 =>
  RunQ prog (Instr.loadAt T.t_sl_int64 t22) w2 fun t23 =>
  RunQ prog (Instr.indexAt T.t_sl_int64 t23 t14) w2 fun t25 =>
  RunQ prog (Instr.loadAt T.t_int64 t25) w2 fun t26 =>
  RunQ prog (nilS t) w2 fun t29 =>
  RunQ prog (Instr.fieldAt T.t_table_Table t29 1) w2 fun t30 =>
  RunQ prog (Instr.loadAt T.t_int64 t30) w2 fun t31 =>
  Cal prog F.cost_Add [t26, c, t31] w2 fun t32 w3 =>
   RunQ prog (Instr.extract t32 0) w3 fun t33 =>
   RunQ prog (Instr.extract t32 1) w3 fun t34 =>
   JoinC (α := World → Prop) (fun (w4 : World) =>
    Q t34 w4) fun J =>
  RunQ prog (binS .eql T.t_api_Errno false true t34 (.int .i64 0)) w3 fun t36 =>
  Split t36 (RunQ prog (nilS t) w3 fun t38 =>
   RunQ prog (Instr.fieldAt T.t_table_Table t38 2) w3 fun t39 =>
   RunQ prog (Instr.loadAt T.t_sl_int64 t39) w3 fun t40 =>
   RunQ prog (Instr.indexAt T.t_sl_int64 t40 t14) w3 fun t43 =>
   RunC prog (Instr.storeAt T.t_int64 t43 t33) w3 fun (_ : Unit) w5 =>
   J w5)
   (J w3))

theorem P_table_Table_More.enter {t tuple c : Value} {w : World} {Q : Value → World → Prop} (h : P_table_Table_More.body t tuple c w Q) : Cal prog F.P_table_Table_More [t, tuple, c] w Q :=
  Cal.enter' (P := prog) mixed (show prog.funcs[F.P_table_Table_More]? = some Tryd.f27 from Tryd.func27) rfl (by kernel_rfl) (by kernel_rfl) (by kernel_rfl) (by kernel_rfl) (Eq.mp (by kernel_rfl) h)

/-- pennyweight/pennyweightref01.Add -/
def ref01_Add.body (a b k : Value) (w : World) (Q : Value → World → Prop) : Prop :=
  RunQ prog (binS .add T.t_int64 false false a b) w fun t9 =>
  RunQ prog (binS .gtr T.t_int64 false false t9 k) w fun t11 =>
  Split t11 (Q k w)
   (RunQ prog (binS .add T.t_int64 false false a b) w fun t15 =>
  Q t15 w)

theorem ref01_Add.enter {a b k : Value} {w : World} {Q : Value → World → Prop} (h : ref01_Add.body a b k w Q) : Cal prog F.ref01_Add [a, b, k] w Q :=
  Cal.enter' (P := prog) mixed (show prog.funcs[F.ref01_Add]? = some Tryd.f28 from Tryd.func28) rfl (by kernel_rfl) (by kernel_rfl) (by kernel_rfl) (by kernel_rfl) (Eq.mp (by kernel_rfl) h)

/-- slices.Index[[]int,int] -/
def slices_Index_int_int.body (s v : Value) (w : World) (Q : Value → World → Prop) : Prop :=
  RunQ prog (Builtin.len_ #[T.t_sl_int] T.t_int #[s]) w fun t7 =>
  Loop2 (.int .i64 0) (.int .i64 0) w fun t4 t8 w1 k =>
    RunQ prog (binS .lss T.t_int false false t8 t7) w1 fun t9 =>
    Split t9 (RunQ prog (Instr.indexAt T.t_sl_int s t8) w1 fun t14 =>
    RunQ prog (Instr.loadAt T.t_int t14) w1 fun t15 =>
    RunQ prog (binS .eql T.t_int false false v t15) w1 fun t16 =>
    Split t16 (Q t8 w1)
     (RunQ prog (binS .add T.t_int false true t8 (.int .i64 1)) w1 fun t18 =>
    k t4 t18 w1))
     (Q (.int .i64 (-1)) w1)

theorem slices_Index_int_int.enter {s v : Value} {w : World} {Q : Value → World → Prop} (h : slices_Index_int_int.body s v w Q) : Cal prog F.slices_Index_int_int [s, v] w Q :=
  Cal.enter' (P := prog) mixed (show prog.funcs[F.slices_Index_int_int]? = some Tryd.f29 from Tryd.func29) rfl (by kernel_rfl) (by kernel_rfl) (by kernel_rfl) (by kernel_rfl) (Eq.mp (by kernel_rfl) h)

/-- (*pennyweight/table.Table).Turn -/
def P_table_Table_Turn.body (t order : Value) (w : World) (Q : Value → World → Prop) : Prop :=
  RunC prog (Instr.box T.t_p_table_Table t) w fun t_1 w1 =>
  RunC prog (Instr.box T.t_sl_int order) w1 fun order_1 w2 =>
  RunQ prog (Instr.loadAt T.t_p_table_Table t_1) w2 fun t19 =>
  RunQ prog (binS .eql T.t_p_table_Table false true t19 (.pointer none)) w2 fun t20 =>
  Split t20 (Again w2 fun w3 => Q (.tuple #[(.pointer none), (.int .i64 2)]) w3)
   (RunQ prog (Instr.loadAt T.t_sl_int order_1) w2 fun t21 =>
  Cal prog F.slices_Values_int_int [t21] w2 fun t22 w4 =>
  Cal prog F.slices_Sorted_int [t22] w4 fun t23 w5 =>
  RunQ prog (Builtin.len_ #[T.t_sl_int] T.t_int #[t23]) w5 fun t25 =>
  Loop3 (.pointer none) (.int .i64 0) (.int .i64 0) w5 fun t4 t5 t26 w6 k =>
    RunQ prog (binS .lss T.t_int false false t26 t25) w6 fun t27 =>
    Split t27 (RunQ prog (Instr.indexAt T.t_sl_int t23 t26) w6 fun t29 =>
    RunQ prog (Instr.loadAt T.t_int t29) w6 fun t30 =>
    RunQ prog (binS .neq T.t_int false false t26 t30) w6 fun t33 =>
    Split t33 (Again w6 fun w7 => Q (.tuple #[(.pointer none), (.int .i64 1)]) w7)
     (RunQ prog (binS .add T.t_int false true t26 (.int .i64 1)) w6 fun t34 =>
    k t4 t5 t34 w6))
     (Drew w6 fun w8 =>
  RunQ prog (Instr.loadAt T.t_sl_int order_1) w8 fun t35 =>
  RunQ prog (Builtin.len_ #[T.t_sl_int] T.t_int #[t35]) w8 fun t36 =>
  RunQ prog (Instr.loadAt T.t_p_table_Table t_1) w8 fun t37 =>
  RunQ prog (nilS t37) w8 fun t38 =>
  RunQ prog (Instr.fieldAt T.t_table_Table t38 0) w8 fun t39 =>
  RunQ prog (Instr.loadAt T.t_shape_Shape t39) w8 fun t40 =>
  Cal prog F.shape_Shape_Arity [t40] w8 fun t41 w9 =>
   (Ext w8 w9 ∨ Stays prog (Builtin.len_ #[T.t_sl_int] T.t_int #[t35]) t36 w9 ∧ Stays prog (Instr.loadAt T.t_sl_int order_1) t35 w9 ∧ True) ∧
  RunQ prog (binS .neq T.t_int false false t36 t41) w9 fun t42 =>
   Split t42 (Again w9 fun w10 => Q (.tuple #[(.pointer none), (.int .i64 1)]) w10)
   (RunQ prog (Instr.loadAt T.t_sl_int order_1) w9 fun t43 =>
  RunQ prog (Builtin.len_ #[T.t_sl_int] T.t_int #[t43]) w9 fun t44 =>
  RunC prog (Instr.makeSlice T.t_sl_int t44 t44) w9 fun t45 w11 =>
  RunQ prog (Instr.loadAt T.t_sl_int order_1) w11 fun t46 =>
  RunQ prog (Builtin.len_ #[T.t_sl_int] T.t_int #[t46]) w11 fun t47 =>
  Loop1 (.int .i64 0) w11 fun t48 w12 k_1 =>
    RunQ prog (binS .lss T.t_int false false t48 t47) w12 fun t49 =>
    Split t49 (RunQ prog (Instr.indexAt T.t_sl_int t46 t48) w12 fun t51 =>
    RunQ prog (Instr.loadAt T.t_int t51) w12 fun t52 =>
    RunQ prog (Instr.loadAt T.t_p_table_Table t_1) w12 fun t55 =>
    RunQ prog (nilS t55) w12 fun t56 =>
    RunQ prog (Instr.fieldAt T.t_table_Table t56 0) w12 fun t57 =>
    RunQ prog (Instr.loadAt T.t_shape_Shape t57) w12 fun t58 =>
    Cal prog F.shape_Shape_Size [t58, t52] w12 fun t60 w13 =>
    RunQ prog (Instr.indexAt T.t_sl_int t45 t48) w13 fun t61 =>
    RunC prog (Instr.storeAt T.t_int t61 t60) w13 fun (_ : Unit) w14 =>
    RunQ prog (binS .add T.t_int false true t48 (.int .i64 1)) w14 fun t62 =>
    k_1 t62 w14)
     (RunQ prog (Instr.loadAt T.t_p_table_Table t_1) w12 fun t65 =>
  RunQ prog (nilS t65) w12 fun t66 =>
  RunQ prog (Instr.fieldAt T.t_table_Table t66 1) w12 fun t67 =>
  RunQ prog (Instr.loadAt T.t_int64 t67) w12 fun t68 =>
  Cal prog F.table_New [t45, t68, (.int .i64 0)] w12 fun t69 w15 =>
  RunQ prog (Instr.extract t69 0) w15 fun t70 =>
  RunQ prog (Instr.extract t69 1) w15 fun t71 =>
  RunC prog (Instr.alloc T.t_p_table_Table true (.tuple #[])) w15 fun u w16 =>
  RunC prog (Instr.storeAt T.t_p_table_Table u t70) w16 fun (_ : Unit) w17 =>
  RunQ prog (Instr.loadAt T.t_p_table_Table u) w17 fun t72 =>
  RunQ prog (nilS t72) w17 fun t73 =>
  RunQ prog (Instr.fieldAt T.t_table_Table t73 0) w17 fun t74 =>
  RunQ prog (Instr.loadAt T.t_shape_Shape t74) w17 fun t75 =>
  Cal prog F.shape_Shape_All [t75] w17 fun t76 w18 =>
  Range2 prog t76 w18 (fun t77 t78 w19 k_2 =>
    Again w19 fun w20 =>
    RunQ prog (Builtin.len_ #[T.t_sl_int] T.t_int #[t78]) w20 fun t80 =>
    RunC prog (Instr.makeSlice T.t_sl_int t80 t80) w20 fun t81 w21 =>
    RunQ prog (Instr.loadAt T.t_sl_int order_1) w21 fun t82 =>
    RunQ prog (Builtin.len_ #[T.t_sl_int] T.t_int #[t82]) w21 fun t83 =>
    Loop1 (.int .i64 0) w21 fun t84 w22 k_3 =>
      RunQ prog (binS .lss T.t_int false false t84 t83) w22 fun t85 =>
      Split t85 (RunQ prog (Instr.indexAt T.t_sl_int t82 t84) w22 fun t87 =>
      RunQ prog (Instr.loadAt T.t_int t87) w22 fun t88 =>
      RunQ prog (Instr.indexAt T.t_sl_int t78 t84) w22 fun t93 =>
      RunQ prog (Instr.loadAt T.t_int t93) w22 fun t94 =>
      RunQ prog (Instr.indexAt T.t_sl_int t81 t88) w22 fun t95 =>
      RunC prog (Instr.storeAt T.t_int t95 t94) w22 fun (_ : Unit) w23 =>
      RunQ prog (binS .add T.t_int false true t84 (.int .i64 1)) w23 fun t96 =>
      k_3 t96 w23)
       (Drew w22 fun w24 =>
    RunQ prog (Instr.loadAt T.t_p_table_Table u) w24 fun t98 =>
    RunQ prog (nilS t98) w24 fun t99 =>
    RunQ prog (Instr.fieldAt T.t_table_Table t99 2) w24 fun t100 =>
    RunQ prog (Instr.loadAt T.t_sl_int64 t100) w24 fun t101 =>
    RunQ prog (Instr.loadAt T.t_p_table_Table t_1) w24 fun t103 =>
    Cal prog F.P_table_Table_Get [t103, t81] w24 fun t105 w25 =>
     (Ext w24 w25 ∨ Stays prog (Instr.loadAt T.t_sl_int64 t100) t101 w25 ∧ Stays prog (Instr.fieldAt T.t_table_Table t99 2) t100 w25 ∧ Stays prog (nilS t98) t99 w25 ∧ Stays prog (Instr.loadAt T.t_p_table_Table u) t98 w25 ∧ True) ∧
    RunQ prog (Instr.extract t105 0) w25 fun t106 =>
     RunQ prog (Instr.extract t105 1) w25 fun t107 =>
     RunQ prog (Instr.indexAt T.t_sl_int64 t101 t77) w25 fun t108 =>
     RunC prog (Instr.storeAt T.t_int64 t108 t106) w25 fun (_ : Unit) w26 =>
      k_2 .normal w26))
   (fun w27 =>
    RunQ prog (Instr.loadAt T.t_p_table_Table u) w27 fun t109 =>
  Again w27 fun w28 => Q (.tuple #[t109, (.int .i64 0)]) w28)
   (fun _ => False)
   []))))

theorem P_table_Table_Turn.enter {t order : Value} {w : World} {Q : Value → World → Prop} (h : P_table_Table_Turn.body t order w Q) : Cal prog F.P_table_Table_Turn [t, order] w Q :=
  Cal.enter (P := prog) mixed (show prog.funcs[F.P_table_Table_Turn]? = some Tryd.f30 from Tryd.func30) rfl (by kernel_rfl) (by kernel_rfl) (by kernel_rfl) (Eq.mp (by kernel_rfl) h)

/-- pennyweight/pennyweightref04.Turn -/
def ref04_Turn.body (t order : Value) (w : World) (Q : Value → World → Prop) : Prop :=
  RunC prog (Instr.box T.t_ref04_Table t) w fun t_1 w1 =>
  RunC prog (Instr.alloc T.t_ref04_Table true (.tuple #[])) w1 fun t4 w2 =>
  RunQ prog (Instr.fieldAt T.t_ref04_Table t_1 1) w2 fun t13 =>
  RunQ prog (Instr.loadAt T.t_int64 t13) w2 fun t14 =>
  RunQ prog (Instr.build T.t_ref04_Table #[(1, t14)]) w2 fun t15 =>
  RunC prog (Instr.alloc T.t_ref04_Table true (.tuple #[])) w2 fun u w3 =>
  RunC prog (Instr.storeAt T.t_ref04_Table u t15) w3 fun (_ : Unit) w4 =>
  RunQ prog (Builtin.len_ #[T.t_sl_int] T.t_int #[order]) w4 fun t17 =>
  Loop1 (.int .i64 0) w4 fun t18 w5 k =>
    RunQ prog (binS .lss T.t_int false false t18 t17) w5 fun t19 =>
    Split t19 (RunQ prog (Instr.indexAt T.t_sl_int order t18) w5 fun t20 =>
    RunQ prog (Instr.loadAt T.t_int t20) w5 fun t21 =>
    Drew w5 fun w6 =>
    RunQ prog (Instr.fieldAt T.t_ref04_Table u 0) w6 fun t22 =>
    RunQ prog (Instr.loadAt T.t_sl_int t22) w6 fun t23 =>
    RunQ prog (Instr.fieldAt T.t_ref04_Table t_1 0) w6 fun t24 =>
    RunQ prog (Instr.loadAt T.t_sl_int t24) w6 fun t25 =>
    RunQ prog (Instr.indexAt T.t_sl_int t25 t21) w6 fun t27 =>
    RunQ prog (Instr.loadAt T.t_int t27) w6 fun t28 =>
    RunC prog (Instr.buildSlice T.t_sl_int 1 #[(0, t28)]) w6 fun t29 w7 =>
     (Ext w6 w7 ∨ Stays prog (Instr.loadAt T.t_sl_int t22) t23 w7 ∧ Stays prog (Instr.fieldAt T.t_ref04_Table u 0) t22 w7 ∧ True) ∧
    RunC prog (Builtin.append_ #[T.t_sl_int, T.t_sl_int] T.t_sl_int #[t23, t29]) w7 fun t30 w8 =>
      RunQ prog (Instr.fieldAt T.t_ref04_Table u 0) w8 fun t31 =>
      RunC prog (Instr.storeAt T.t_sl_int t31 t30) w8 fun (_ : Unit) w9 =>
       RunQ prog (binS .add T.t_int false true t18 (.int .i64 1)) w9 fun t32 =>
    k t32 w9)
     (RunQ prog (Instr.fieldAt T.t_ref04_Table u 0) w5 fun t33 =>
  RunQ prog (Instr.loadAt T.t_sl_int t33) w5 fun t34 =>
  Cal prog F.ref03_All [t34] w5 fun t35 w10 =>
  RunQ prog (Builtin.len_ #[T.t_sl_sl_int] T.t_int #[t35]) w10 fun t36 =>
  Loop1 (.int .i64 0) w10 fun t37 w11 k_1 =>
    RunQ prog (binS .lss T.t_int false false t37 t36) w11 fun t38 =>
    Split t38 (RunQ prog (Instr.indexAt T.t_sl_sl_int t35 t37) w11 fun t39 =>
    RunQ prog (Instr.loadAt T.t_sl_int t39) w11 fun t40 =>
    RunC prog (Instr.buildSlice T.t_sl_int 0 #[]) w11 fun t41 w12 =>
    RunC prog (Builtin.append_ #[T.t_sl_int, T.t_sl_int] T.t_sl_int #[t41, t40]) w12 fun t43 w13 =>
    RunQ prog (Builtin.len_ #[T.t_sl_int] T.t_int #[order]) w13 fun t45 =>
    Loop1 (.int .i64 0) w13 fun t46 w14 k_2 =>
      RunQ prog (binS .lss T.t_int false false t46 t45) w14 fun t47 =>
      Split t47 (RunQ prog (Instr.indexAt T.t_sl_int order t46) w14 fun t49 =>
      RunQ prog (Instr.loadAt T.t_int t49) w14 fun t50 =>
      RunQ prog (Instr.indexAt T.t_sl_int t40 t46) w14 fun t55 =>
      RunQ prog (Instr.loadAt T.t_int t55) w14 fun t56 =>
      RunQ prog (Instr.indexAt T.t_sl_int t43 t50) w14 fun t57 =>
      RunC prog (Instr.storeAt T.t_int t57 t56) w14 fun (_ : Unit) w15 =>
      RunQ prog (binS .add T.t_int false true t46 (.int .i64 1)) w15 fun t58 =>
      k_2 t58 w15)
       (Drew w14 fun w16 =>
    RunQ prog (Instr.fieldAt T.t_ref04_Table u 2) w16 fun t59 =>
    RunQ prog (Instr.loadAt T.t_sl_int64 t59) w16 fun t60 =>
    RunQ prog (Instr.loadAt T.t_ref04_Table t_1) w16 fun t61 =>
    Cal prog F.ref04_Get [t61, t43] w16 fun t63 w17 =>
     (Ext w16 w17 ∨ Stays prog (Instr.loadAt T.t_sl_int64 t59) t60 w17 ∧ Stays prog (Instr.fieldAt T.t_ref04_Table u 2) t59 w17 ∧ True) ∧
    RunC prog (Instr.buildSlice T.t_sl_int64 1 #[(0, t63)]) w17 fun t64 w18 =>
      (Ext w16 w18 ∨ Stays prog (Instr.loadAt T.t_sl_int64 t59) t60 w18 ∧ Stays prog (Instr.fieldAt T.t_ref04_Table u 2) t59 w18 ∧ True) ∧
     RunC prog (Builtin.append_ #[T.t_sl_int64, T.t_sl_int64] T.t_sl_int64 #[t60, t64]) w18 fun t65 w19 =>
       RunQ prog (Instr.fieldAt T.t_ref04_Table u 2) w19 fun t66 =>
       RunC prog (Instr.storeAt T.t_sl_int64 t66 t65) w19 fun (_ : Unit) w20 =>
        RunQ prog (binS .add T.t_int false true t37 (.int .i64 1)) w20 fun t67 =>
    k_1 t67 w20))
     (RunQ prog (Instr.loadAt T.t_ref04_Table u) w11 fun t68 =>
  RunC prog (Instr.storeAt T.t_ref04_Table t4 t68) w11 fun (_ : Unit) w21 =>
  RunQ prog (do loadVar T.t_ref04_Table (← asAddr t4)) w21 fun r =>
  Q r w21))

theorem ref04_Turn.enter {t order : Value} {w : World} {Q : Value → World → Prop} (h : ref04_Turn.body t order w Q) : Cal prog F.ref04_Turn [t, order] w Q :=
  Cal.enter' (P := prog) mixed (show prog.funcs[F.ref04_Turn]? = some Tryd.f31 from Tryd.func31) rfl (by kernel_rfl) (by kernel_rfl) (by kernel_rfl) (by kernel_rfl) (Eq.mp (by kernel_rfl) h)

/-- pennyweight/pennyweightlaw04.scope -/
def law04_scope.body (n l : Value) (w : World) (Q : Value → World → Prop) : Prop :=
  Loop3 (.slice none 0 0) (.int .i64 0) (.int .i64 0) w fun out atv t9 w1 k =>
    RunQ prog (binS .lss T.t_int false false t9 n) w1 fun t10 =>
    Split t10 (JoinC (α := Value → World → Prop) (fun (atv_1 : Value) (w2 : World) =>
      RunC prog (Instr.buildSlice T.t_sl_int 1 #[(0, atv_1)]) w2 fun t26 w3 =>
      RunC prog (Builtin.append_ #[T.t_sl_int, T.t_sl_int] T.t_sl_int #[out, t26]) w3 fun t27 w4 =>
      RunQ prog (binS .add T.t_int false true atv_1 (.int .i64 1)) w4 fun t29 =>
      RunQ prog (binS .add T.t_int false true t9 (.int .i64 1)) w4 fun t30 =>
    k t27 t29 t30 w4) fun J =>
    RunQ prog (Builtin.len_ #[T.t_sl_uint8] T.t_int #[l]) w1 fun t14 =>
    RunQ prog (binS .lss T.t_int false false t9 t14) w1 fun t15 =>
    Split t15 (RunQ prog (Instr.indexAt T.t_sl_uint8 l t9) w1 fun t19 =>
     RunQ prog (Instr.loadAt T.t_uint8 t19) w1 fun t20 =>
     RunQ prog (binS .rem T.t_uint8 false true t20 (.int .u8 3)) w1 fun t21 =>
     RunQ prog (convert T.t_uint8 T.t_int t21) w1 fun t22 =>
     RunQ prog (binS .add T.t_int false false atv t22) w1 fun t23 =>
     J t23 w1)
     (J atv w1))
     (Q out w1)

theorem law04_scope.enter {n l : Value} {w : World} {Q : Value → World → Prop} (h : law04_scope.body n l w Q) : Cal prog F.law04_scope [n, l] w Q :=
  Cal.enter' (P := prog) mixed (show prog.funcs[F.law04_scope]? = some Tryd.f32 from Tryd.func32) rfl (by kernel_rfl) (by kernel_rfl) (by kernel_rfl) (by kernel_rfl) (Eq.mp (by kernel_rfl) h)

/-- pennyweight/table.Join -/
def table_Join.body (a atv b bt : Value) (w : World) (Q : Value → World → Prop) : Prop :=
  RunC prog (Instr.box T.t_p_table_Table a) w fun a_1 w1 =>
  RunC prog (Instr.box T.t_sl_int atv) w1 fun atv_1 w2 =>
  RunC prog (Instr.box T.t_p_table_Table b) w2 fun b_1 w3 =>
  RunC prog (Instr.box T.t_sl_int bt) w3 fun bt_1 w4 =>
  JoinC (α := Value → World → Prop) (fun (t27 : Value) (w5 : World) =>
    Split t27 (Again w5 fun w6 => Q (.tuple #[(.pointer none), (.slice none 0 0), (.int .i64 2)]) w6)
     (JoinC (α := Value → World → Prop) (fun (t37 : Value) (w7 : World) =>
    Split t37 (Again w7 fun w8 => Q (.tuple #[(.pointer none), (.slice none 0 0), (.int .i64 1)]) w8)
     (RunQ prog (Instr.loadAt T.t_sl_int atv_1) w7 fun t38 =>
  RunQ prog (Instr.loadAt T.t_sl_int bt_1) w7 fun t39 =>
  RunC prog (Instr.buildSlice T.t_sl_sl_int 2 #[(0, t38), (1, t39)]) w7 fun t40 w9 =>
  Cal prog F.slices_Concat_int_int [t40] w9 fun t41 w10 =>
  Cal prog F.slices_Values_int_int [t41] w10 fun t42 w11 =>
  Cal prog F.slices_Sorted_int [t42] w11 fun t43 w12 =>
  Cal prog F.slices_Compact_int_int [t43] w12 fun t44 w13 =>
  RunC prog (Instr.alloc T.t_sl_int true (.tuple #[])) w13 fun vars w14 =>
  RunC prog (Instr.storeAt T.t_sl_int vars t44) w14 fun (_ : Unit) w15 =>
  RunQ prog (Instr.loadAt T.t_sl_int vars) w15 fun t46 =>
  RunQ prog (Instr.loadAt T.t_p_table_Table a_1) w15 fun t47 =>
  RunQ prog (Instr.loadAt T.t_sl_int atv_1) w15 fun t48 =>
  RunQ prog (Instr.loadAt T.t_p_table_Table b_1) w15 fun t49 =>
  RunQ prog (Instr.loadAt T.t_sl_int bt_1) w15 fun t50 =>
  Cal prog F.table_sizes [t46, t47, t48, t49, t50] w15 fun t51 w16 =>
  RunQ prog (Instr.extract t51 0) w16 fun t52 =>
  RunQ prog (Instr.extract t51 1) w16 fun t53 =>
  RunQ prog (Op.unary .not t53) w16 fun t56 =>
  Split t56 (Again w16 fun w17 => Q (.tuple #[(.pointer none), (.slice none 0 0), (.int .i64 1)]) w17)
   (Drew w16 fun w18 =>
   RunQ prog (Instr.loadAt T.t_p_table_Table a_1) w18 fun t58 =>
   RunQ prog (nilS t58) w18 fun t59 =>
   RunQ prog (Instr.fieldAt T.t_table_Table t59 1) w18 fun t60 =>
   RunQ prog (Instr.loadAt T.t_int64 t60) w18 fun t61 =>
   RunQ prog (Instr.loadAt T.t_p_table_Table b_1) w18 fun t62 =>
   RunQ prog (nilS t62) w18 fun t63 =>
   RunQ prog (Instr.fieldAt T.t_table_Table t63 1) w18 fun t64 =>
   RunQ prog (Instr.loadAt T.t_int64 t64) w18 fun t65 =>
   RunQ prog (binS .neq T.t_int64 false false t61 t65) w18 fun t66 =>
   Split t66 (Again w18 fun w19 => Q (.tuple #[(.pointer none), (.slice none 0 0), (.int .i64 3)]) w19)
    (RunQ prog (Instr.loadAt T.t_p_table_Table a_1) w18 fun t69 =>
  RunQ prog (nilS t69) w18 fun t70 =>
  RunQ prog (Instr.fieldAt T.t_table_Table t70 1) w18 fun t71 =>
  RunQ prog (Instr.loadAt T.t_int64 t71) w18 fun t72 =>
  Cal prog F.table_New [t52, t72, (.int .i64 0)] w18 fun t73 w20 =>
  RunQ prog (Instr.extract t73 0) w20 fun t74 =>
  RunQ prog (Instr.extract t73 1) w20 fun t75 =>
  RunC prog (Instr.alloc T.t_p_table_Table true (.tuple #[])) w20 fun t w21 =>
  RunC prog (Instr.storeAt T.t_p_table_Table t t74) w21 fun (_ : Unit) w22 =>
  RunQ prog (binS .neq T.t_api_Errno false true t75 (.int .i64 0)) w22 fun t77 =>
  Split t77 (Again w22 fun w23 => Q (.tuple #[(.pointer none), (.slice none 0 0), t75]) w23)
   (RunQ prog (Instr.loadAt T.t_p_table_Table t) w22 fun t79 =>
  RunQ prog (nilS t79) w22 fun t80 =>
  RunQ prog (Instr.fieldAt T.t_table_Table t80 0) w22 fun t81 =>
  RunQ prog (Instr.loadAt T.t_shape_Shape t81) w22 fun t82 =>
  Cal prog F.shape_Shape_All [t82] w22 fun t83 w24 =>
  Range2 prog t83 w24 (fun t84 t85 w25 k =>
    Again w25 fun w26 =>
    Drew w26 fun w27 =>
    RunQ prog (Instr.loadAt T.t_p_table_Table a_1) w27 fun t87 =>
    RunQ prog (Instr.loadAt T.t_sl_int vars) w27 fun t89 =>
    RunQ prog (Instr.loadAt T.t_sl_int atv_1) w27 fun t90 =>
    Cal prog F.table_part [t85, t89, t90] w27 fun t91 w28 =>
     (Ext w27 w28 ∨ Stays prog (Instr.loadAt T.t_p_table_Table a_1) t87 w28 ∧ True) ∧
    Cal prog F.P_table_Table_Get [t87, t91] w28 fun t92 w29 =>
      RunQ prog (Instr.extract t92 0) w29 fun t93 =>
      RunQ prog (Instr.extract t92 1) w29 fun t94 =>
      Drew w29 fun w30 =>
    RunQ prog (Instr.loadAt T.t_p_table_Table b_1) w30 fun t96 =>
    RunQ prog (Instr.loadAt T.t_sl_int vars) w30 fun t98 =>
    RunQ prog (Instr.loadAt T.t_sl_int bt_1) w30 fun t99 =>
    Cal prog F.table_part [t85, t98, t99] w30 fun t100 w31 =>
     (Ext w30 w31 ∨ Stays prog (Instr.loadAt T.t_p_table_Table b_1) t96 w31 ∧ True) ∧
    Cal prog F.P_table_Table_Get [t96, t100] w31 fun t101 w32 =>
      RunQ prog (Instr.extract t101 0) w32 fun t102 =>
      RunQ prog (Instr.extract t101 1) w32 fun t103 =>
      Drew w32 fun w33 =>
    RunQ prog (Instr.loadAt T.t_p_table_Table t) w33 fun t105 =>
    RunQ prog (nilS t105) w33 fun t106 =>
    RunQ prog (Instr.fieldAt T.t_table_Table t106 2) w33 fun t107 =>
    RunQ prog (Instr.loadAt T.t_sl_int64 t107) w33 fun t108 =>
    RunQ prog (Instr.loadAt T.t_p_table_Table t) w33 fun t112 =>
    RunQ prog (nilS t112) w33 fun t113 =>
    RunQ prog (Instr.fieldAt T.t_table_Table t113 1) w33 fun t114 =>
    RunQ prog (Instr.loadAt T.t_int64 t114) w33 fun t115 =>
    Cal prog F.cost_Add [t93, t102, t115] w33 fun t116 w34 =>
     (Ext w33 w34 ∨ Stays prog (Instr.loadAt T.t_sl_int64 t107) t108 w34 ∧ Stays prog (Instr.fieldAt T.t_table_Table t106 2) t107 w34 ∧ Stays prog (nilS t105) t106 w34 ∧ Stays prog (Instr.loadAt T.t_p_table_Table t) t105 w34 ∧ True) ∧
    RunQ prog (Instr.extract t116 0) w34 fun t117 =>
     RunQ prog (Instr.extract t116 1) w34 fun t118 =>
     RunQ prog (Instr.indexAt T.t_sl_int64 t108 t84) w34 fun t119 =>
     RunC prog (Instr.storeAt T.t_int64 t119 t117) w34 fun (_ : Unit) w35 =>
      k .normal w35)
   (fun w36 =>
    Drew w36 fun w37 =>
  RunQ prog (Instr.loadAt T.t_p_table_Table t) w37 fun t120 =>
  RunQ prog (Instr.loadAt T.t_sl_int vars) w37 fun t121 =>
  Again w37 fun w38 => Q (.tuple #[t120, t121, (.int .i64 0)]) w38)
   (fun _ => False)
   []))))) fun J_1 =>
  RunQ prog (Instr.loadAt T.t_p_table_Table a_1) w5 fun t28 =>
  RunQ prog (Instr.loadAt T.t_sl_int atv_1) w5 fun t29 =>
  Cal prog F.P_table_Table_rises [t28, t29] w5 fun t30 w39 =>
  RunQ prog (Op.unary .not t30) w39 fun t31 =>
  Split t31 (J_1 (.bool true) w39)
   (RunQ prog (Instr.loadAt T.t_p_table_Table b_1) w39 fun t33 =>
   RunQ prog (Instr.loadAt T.t_sl_int bt_1) w39 fun t34 =>
  Cal prog F.P_table_Table_rises [t33, t34] w39 fun t35 w40 =>
  RunQ prog (Op.unary .not t35) w40 fun t36 =>
  J_1 t36 w40))) fun J =>
  RunQ prog (Instr.loadAt T.t_p_table_Table a_1) w4 fun t22 =>
  RunQ prog (binS .eql T.t_p_table_Table false true t22 (.pointer none)) w4 fun t23 =>
  Split t23 (J (.bool true) w4)
   (RunQ prog (Instr.loadAt T.t_p_table_Table b_1) w4 fun t25 =>
   RunQ prog (binS .eql T.t_p_table_Table false true t25 (.pointer none)) w4 fun t26 =>
  J t26 w4)

theorem table_Join.enter {a atv b bt : Value} {w : World} {Q : Value → World → Prop} (h : table_Join.body a atv b bt w Q) : Cal prog F.table_Join [a, atv, b, bt] w Q :=
  Cal.enter (P := prog) mixed (show prog.funcs[F.table_Join]? = some Tryd.f33 from Tryd.func33) rfl (by kernel_rfl) (by kernel_rfl) (by kernel_rfl) (Eq.mp (by kernel_rfl) h)

end Go.Proofs.YtahhkeljejfgfaaDoor
