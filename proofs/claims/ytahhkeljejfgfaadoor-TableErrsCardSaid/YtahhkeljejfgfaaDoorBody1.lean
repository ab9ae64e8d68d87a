/- the functions as conditions (by program) -/
import Derived.Test.YtahhkeljejfgfaaDoorNames
namespace Go.Proofs.YtahhkeljejfgfaaDoor
open Go Go.Vc Go.Proofs Go.Proofs.Tryd
set_option maxRecDepth 100000
set_option linter.unusedVariables false

/-- (*pennyweight/table.Table).Entries -/
def P_table_Table_Entries.body (t : Value) (w : World) (Q : Value → World → Prop) : Prop :=
  RunQ prog (binS .eql T.t_p_table_Table false true t (.pointer none)) w fun t4 =>
  Split t4 (Q (.slice none 0 0) w)
   (RunQ prog (nilS t) w fun t6 =>
  RunQ prog (Instr.fieldAt T.t_table_Table t6 2) w fun t7 =>
  RunQ prog (Instr.loadAt T.t_sl_int64 t7) w fun t8 =>
  Cal prog F.slices_Clone_int64_int64 [t8] w fun t9 w1 =>
  Q t9 w1)

theorem P_table_Table_Entries.enter {t : Value} {w : World} {Q : Value → World → Prop} (h : P_table_Table_Entries.body t w Q) : Cal prog F.P_table_Table_Entries [t] w Q :=
  Cal.enter' (P := prog) mixed (show prog.funcs[F.P_table_Table_Entries]? = some Tryd.f34 from Tryd.func34) rfl (by kernel_rfl) (by kernel_rfl) (by kernel_rfl) (by kernel_rfl) (Eq.mp (by kernel_rfl) h)

/-- pennyweight/pennyweightref04.Join -/
def ref04_Join.body (a atv b bt : Value) (w : World) (Q : Value → World → Prop) : Prop :=
  RunC prog (Instr.box T.t_ref04_Table a) w fun a_1 w1 =>
  RunC prog (Instr.box T.t_ref04_Table b) w1 fun b_1 w2 =>
  RunC prog (Instr.alloc T.t_ref04_Table true (.tuple #[])) w2 fun t8 w3 =>
  RunQ prog (Instr.fieldAt T.t_ref04_Table a_1 1) w3 fun t22 =>
  RunQ prog (Instr.loadAt T.t_int64 t22) w3 fun t23 =>
  RunQ prog (Instr.build T.t_ref04_Table #[(1, t23)]) w3 fun t24 =>
  RunC prog (Instr.alloc T.t_ref04_Table true (.tuple #[])) w3 fun t w4 =>
  RunC prog (Instr.storeAt T.t_ref04_Table t t24) w4 fun (_ : Unit) w5 =>
  Loop4 (.slice none 0 0) (.bool false) (.slice none 0 0) (.int .i64 0) w5 fun t9 t10 vars v w6 k =>
    RunQ prog (binS .lss T.t_int false true v (.int .i64 12)) w6 fun t26 =>
    Split t26 (JoinC (α := Value → Value → Value → World → Prop) (fun (t9_1 t10_1 vars_1 : Value) (w7 : World) =>
      RunQ prog (binS .add T.t_int false true v (.int .i64 1)) w7 fun t28 =>
      k t9_1 t10_1 vars_1 t28 w7) fun J =>
    Cal prog F.ref04_find [atv, v] w6 fun t31 w8 =>
    Cal prog F.ref04_find [bt, v] w8 fun t34 w9 =>
    JoinC (α := Value → World → Prop) (fun (t40 : Value) (w10 : World) =>
      Split t40 (J t9 t10 vars w10)
       (JoinC (α := Value → World → Prop) (fun (t59 : Value) (w11 : World) =>
      Split t59 (RunQ prog (Instr.loadAt T.t_ref04_Table t) w11 fun t60 =>
       RunC prog (Instr.storeAt T.t_ref04_Table t8 t60) w11 fun (_ : Unit) w12 =>
       RunQ prog (do loadVar T.t_ref04_Table (← asAddr t8)) w12 fun r =>
  Q (.tuple #[r, (.slice none 0 0), (.bool false)]) w12)
       (RunC prog (Instr.buildSlice T.t_sl_int 1 #[(0, v)]) w11 fun t63 w13 =>
    RunC prog (Builtin.append_ #[T.t_sl_int, T.t_sl_int] T.t_sl_int #[vars, t63]) w13 fun t64 w14 =>
    RunQ prog (binS .geq T.t_int false true t31 (.int .i64 0)) w14 fun t66 =>
    Split t66 (Drew w14 fun w15 =>
     RunQ prog (Instr.fieldAt T.t_ref04_Table t 0) w15 fun t67 =>
     RunQ prog (Instr.loadAt T.t_sl_int t67) w15 fun t68 =>
     RunQ prog (Instr.fieldAt T.t_ref04_Table a_1 0) w15 fun t69 =>
     RunQ prog (Instr.loadAt T.t_sl_int t69) w15 fun t70 =>
     RunQ prog (Instr.indexAt T.t_sl_int t70 t31) w15 fun t72 =>
     RunQ prog (Instr.loadAt T.t_int t72) w15 fun t73 =>
     RunC prog (Instr.buildSlice T.t_sl_int 1 #[(0, t73)]) w15 fun t74 w16 =>
      (Ext w15 w16 ∨ Stays prog (Instr.loadAt T.t_sl_int t67) t68 w16 ∧ Stays prog (Instr.fieldAt T.t_ref04_Table t 0) t67 w16 ∧ True) ∧
     RunC prog (Builtin.append_ #[T.t_sl_int, T.t_sl_int] T.t_sl_int #[t68, t74]) w16 fun t75 w17 =>
       RunQ prog (Instr.fieldAt T.t_ref04_Table t 0) w17 fun t76 =>
       RunC prog (Instr.storeAt T.t_sl_int t76 t75) w17 fun (_ : Unit) w18 =>
        J t9 t10 t64 w18)
     (Drew w14 fun w19 =>
     RunQ prog (Instr.fieldAt T.t_ref04_Table t 0) w19 fun t77 =>
     RunQ prog (Instr.loadAt T.t_sl_int t77) w19 fun t78 =>
     RunQ prog (Instr.fieldAt T.t_ref04_Table b_1 0) w19 fun t79 =>
     RunQ prog (Instr.loadAt T.t_sl_int t79) w19 fun t80 =>
     RunQ prog (Instr.indexAt T.t_sl_int t80 t34) w19 fun t82 =>
     RunQ prog (Instr.loadAt T.t_int t82) w19 fun t83 =>
     RunC prog (Instr.buildSlice T.t_sl_int 1 #[(0, t83)]) w19 fun t84 w20 =>
      (Ext w19 w20 ∨ Stays prog (Instr.loadAt T.t_sl_int t77) t78 w20 ∧ Stays prog (Instr.fieldAt T.t_ref04_Table t 0) t77 w20 ∧ True) ∧
     RunC prog (Builtin.append_ #[T.t_sl_int, T.t_sl_int] T.t_sl_int #[t78, t84]) w20 fun t85 w21 =>
       RunQ prog (Instr.fieldAt T.t_ref04_Table t 0) w21 fun t86 =>
       RunC prog (Instr.storeAt T.t_sl_int t86 t85) w21 fun (_ : Unit) w22 =>
        J t9 t10 t64 w22))) fun J_2 =>
    Drew w10 fun w23 =>
    RunQ prog (binS .geq T.t_int false true t31 (.int .i64 0)) w23 fun t42 =>
    Split t42 (RunQ prog (binS .geq T.t_int false true t34 (.int .i64 0)) w23 fun t45 =>
    Split t45 (RunQ prog (Instr.fieldAt T.t_ref04_Table a_1 0) w23 fun t48 =>
     RunQ prog (Instr.loadAt T.t_sl_int t48) w23 fun t49 =>
    RunQ prog (Instr.indexAt T.t_sl_int t49 t31) w23 fun t51 =>
    RunQ prog (Instr.loadAt T.t_int t51) w23 fun t52 =>
    RunQ prog (Instr.fieldAt T.t_ref04_Table b_1 0) w23 fun t53 =>
    RunQ prog (Instr.loadAt T.t_sl_int t53) w23 fun t54 =>
    RunQ prog (Instr.indexAt T.t_sl_int t54 t34) w23 fun t56 =>
    RunQ prog (Instr.loadAt T.t_int t56) w23 fun t57 =>
    RunQ prog (binS .neq T.t_int false false t52 t57) w23 fun t58 =>
    J_2 t58 w23)
     (J_2 (.bool false) w23))
     (J_2 (.bool false) w23))) fun J_1 =>
    RunQ prog (binS .lss T.t_int false true t31 (.int .i64 0)) w9 fun t36 =>
    Split t36 (RunQ prog (binS .lss T.t_int false true t34 (.int .i64 0)) w9 fun t39 =>
    J_1 t39 w9)
     (J_1 (.bool false) w9))
     (RunQ prog (Instr.fieldAt T.t_ref04_Table t 0) w6 fun t87 =>
  RunQ prog (Instr.loadAt T.t_sl_int t87) w6 fun t88 =>
  Cal prog F.ref03_All [t88] w6 fun t89 w24 =>
  RunQ prog (Builtin.len_ #[T.t_sl_sl_int] T.t_int #[t89]) w24 fun t90 =>
  Loop1 (.int .i64 0) w24 fun t91 w25 k_1 =>
    RunQ prog (binS .lss T.t_int false false t91 t90) w25 fun t92 =>
    Split t92 (RunQ prog (Instr.indexAt T.t_sl_sl_int t89 t91) w25 fun t93 =>
    RunQ prog (Instr.loadAt T.t_sl_int t93) w25 fun t94 =>
    RunQ prog (Builtin.len_ #[T.t_sl_int] T.t_int #[vars]) w25 fun t96 =>
    Loop3 (.slice none 0 0) (.slice none 0 0) (.int .i64 0) w25 fun p q t97 w26 k_2 =>
      RunQ prog (binS .lss T.t_int false false t97 t96) w26 fun t98 =>
      Split t98 (JoinC (α := Value → Value → World → Prop) (fun (p_1 q_1 : Value) (w27 : World) =>
        RunQ prog (binS .add T.t_int false true t97 (.int .i64 1)) w27 fun t124 =>
        k_2 p_1 q_1 t124 w27) fun J_3 =>
      RunQ prog (Instr.indexAt T.t_sl_int vars t97) w26 fun t100 =>
      RunQ prog (Instr.loadAt T.t_int t100) w26 fun t101 =>
      JoinC (α := Value → World → Prop) (fun (p_2 : Value) (w28 : World) =>
        Cal prog F.ref04_find [bt, t101] w28 fun t115 w29 =>
        RunQ prog (binS .geq T.t_int false true t115 (.int .i64 0)) w29 fun t116 =>
        Split t116 (RunQ prog (Instr.indexAt T.t_sl_int t94 t97) w29 fun t120 =>
         RunQ prog (Instr.loadAt T.t_int t120) w29 fun t121 =>
         RunC prog (Instr.buildSlice T.t_sl_int 1 #[(0, t121)]) w29 fun t122 w30 =>
         RunC prog (Builtin.append_ #[T.t_sl_int, T.t_sl_int] T.t_sl_int #[q, t122]) w30 fun t123 w31 =>
         J_3 p_2 t123 w31)
         (J_3 p_2 q w29)) fun J_4 =>
      Cal prog F.ref04_find [atv, t101] w26 fun t104 w32 =>
      RunQ prog (binS .geq T.t_int false true t104 (.int .i64 0)) w32 fun t105 =>
      Split t105 (RunQ prog (Instr.indexAt T.t_sl_int t94 t97) w32 fun t109 =>
       RunQ prog (Instr.loadAt T.t_int t109) w32 fun t110 =>
       RunC prog (Instr.buildSlice T.t_sl_int 1 #[(0, t110)]) w32 fun t111 w33 =>
       RunC prog (Builtin.append_ #[T.t_sl_int, T.t_sl_int] T.t_sl_int #[p, t111]) w33 fun t112 w34 =>
       J_4 t112 w34)
       (J_4 p w32))
       (Drew w26 fun w35 =>
    RunQ prog (Instr.fieldAt T.t_ref04_Table t 2) w35 fun t125 =>
    RunQ prog (Instr.loadAt T.t_sl_int64 t125) w35 fun t126 =>
    RunQ prog (Instr.loadAt T.t_ref04_Table a_1) w35 fun t127 =>
    RunQ prog (Instr.loadAt T.t_ref04_Table b_1) w35 fun t130 =>
    RunQ prog (Instr.fieldAt T.t_ref04_Table t 1) w35 fun t133 =>
    RunQ prog (Instr.loadAt T.t_int64 t133) w35 fun t134 =>
    Cal prog F.ref04_Get [t127, p] w35 fun t129 w36 =>
     (Ext w35 w36 ∨ Stays prog (Instr.loadAt T.t_int64 t133) t134 w36 ∧ Stays prog (Instr.fieldAt T.t_ref04_Table t 1) t133 w36 ∧ Stays prog (Instr.loadAt T.t_ref04_Table b_1) t130 w36 ∧ Stays prog (Instr.loadAt T.t_sl_int64 t125) t126 w36 ∧ Stays prog (Instr.fieldAt T.t_ref04_Table t 2) t125 w36 ∧ True) ∧
    Cal prog F.ref04_Get [t130, q] w36 fun t132 w37 =>
      (Ext w35 w37 ∨ Stays prog (Instr.loadAt T.t_int64 t133) t134 w37 ∧ Stays prog (Instr.fieldAt T.t_ref04_Table t 1) t133 w37 ∧ Stays prog (Instr.loadAt T.t_sl_int64 t125) t126 w37 ∧ Stays prog (Instr.fieldAt T.t_ref04_Table t 2) t125 w37 ∧ True) ∧
     Cal prog F.ref01_Add [t129, t132, t134] w37 fun t135 w38 =>
       (Ext w35 w38 ∨ Stays prog (Instr.loadAt T.t_sl_int64 t125) t126 w38 ∧ Stays prog (Instr.fieldAt T.t_ref04_Table t 2) t125 w38 ∧ True) ∧
      RunC prog (Instr.buildSlice T.t_sl_int64 1 #[(0, t135)]) w38 fun t136 w39 =>
        (Ext w35 w39 ∨ Stays prog (Instr.loadAt T.t_sl_int64 t125) t126 w39 ∧ Stays prog (Instr.fieldAt T.t_ref04_Table t 2) t125 w39 ∧ True) ∧
       RunC prog (Builtin.append_ #[T.t_sl_int64, T.t_sl_int64] T.t_sl_int64 #[t126, t136]) w39 fun t137 w40 =>
         RunQ prog (Instr.fieldAt T.t_ref04_Table t 2) w40 fun t138 =>
         RunC prog (Instr.storeAt T.t_sl_int64 t138 t137) w40 fun (_ : Unit) w41 =>
          RunQ prog (binS .add T.t_int false true t91 (.int .i64 1)) w41 fun t139 =>
    k_1 t139 w41))
     (RunQ prog (Instr.loadAt T.t_ref04_Table t) w25 fun t140 =>
  RunC prog (Instr.storeAt T.t_ref04_Table t8 t140) w25 fun (_ : Unit) w42 =>
  RunQ prog (do loadVar T.t_ref04_Table (← asAddr t8)) w42 fun r_1 =>
  Q (.tuple #[r_1, vars, (.bool true)]) w42))

theorem ref04_Join.enter {a atv b bt : Value} {w : World} {Q : Value → World → Prop} (h : ref04_Join.body a atv b bt w Q) : Cal prog F.ref04_Join [a, atv, b, bt] w Q :=
  Cal.enter' (P := prog) mixed (show prog.funcs[F.ref04_Join]? = some Tryd.f35 from Tryd.func35) rfl (by kernel_rfl) (by kernel_rfl) (by kernel_rfl) (by kernel_rfl) (Eq.mp (by kernel_rfl) h)

/-- pennyweight/table.New -/
def table_New.body (sizes k fill : Value) (w : World) (Q : Value → World → Prop) : Prop :=
  Cal prog F.shape_New [sizes] w fun t12 w1 =>
  RunQ prog (Instr.extract t12 0) w1 fun t13 =>
  RunQ prog (Instr.extract t12 1) w1 fun t14 =>
  RunC prog (Instr.alloc T.t_shape_Shape true (.tuple #[])) w1 fun s w2 =>
  RunC prog (Instr.storeAt T.t_shape_Shape s t13) w2 fun (_ : Unit) w3 =>
  RunQ prog (binS .neq T.t_api_Errno false true t14 (.int .i64 0)) w3 fun t17 =>
  Split t17 (Q (.tuple #[(.pointer none), t14]) w3)
   (Cal prog F.cost_In [fill, k] w3 fun t22 w4 =>
   RunQ prog (Op.unary .not t22) w4 fun t23 =>
   Split t23 (Q (.tuple #[(.pointer none), (.int .i64 3)]) w4)
    (JoinC (α := Value → Value → World → Prop) (fun (t6 t7 : Value) (w5 : World) =>
    Q (.tuple #[t6, t7]) w5) fun J =>
  Drew w4 fun w6 =>
  RunQ prog (Instr.loadAt T.t_shape_Shape s) w6 fun t24 =>
  RunQ prog (Instr.loadAt T.t_shape_Shape s) w6 fun t28 =>
  (RunC prog (Instr.buildSlice T.t_sl_int64 1 #[(0, fill)]) w6 fun t27 w7 =>
   (Ext w6 w7 ∨ Stays prog (Instr.loadAt T.t_shape_Shape s) t28 w7 ∧ Stays prog (Instr.loadAt T.t_shape_Shape s) t24 w7 ∧ True) ∧
  Cal prog F.shape_Shape_Count [t28] w7 fun t29 w8 =>
    (Ext w6 w8 ∨ Stays prog (Instr.loadAt T.t_shape_Shape s) t24 w8 ∧ True) ∧
   Cal prog F.slices_Repeat_int64_int64 [t27, t29] w8 fun t30 w9 =>
     (Ext w6 w9 ∨ Stays prog (Instr.loadAt T.t_shape_Shape s) t24 w9 ∧ True) ∧
    RunQ prog (Instr.build T.t_table_Table #[(0, t24), (1, k), (2, t30)]) w9 fun t31 =>
     RunC prog (Instr.box T.t_table_Table t31) w9 fun t32 w10 =>
      J t32 (.int .i64 0) w10) ∧
  (Cal prog F.shape_Shape_Count [t28] w6 fun t29_1 w11 =>
   (Ext w6 w11 ∨ Stays prog (Instr.loadAt T.t_shape_Shape s) t24 w11 ∧ True) ∧
  RunC prog (Instr.buildSlice T.t_sl_int64 1 #[(0, fill)]) w11 fun t27_1 w12 =>
    (Ext w6 w12 ∨ Stays prog (Instr.loadAt T.t_shape_Shape s) t28 w12 ∧ Stays prog (Instr.loadAt T.t_shape_Shape s) t24 w12 ∧ True) ∧
   Cal prog F.slices_Repeat_int64_int64 [t27_1, t29_1] w12 fun t30_1 w13 =>
     (Ext w6 w13 ∨ Stays prog (Instr.loadAt T.t_shape_Shape s) t24 w13 ∧ True) ∧
    RunQ prog (Instr.build T.t_table_Table #[(0, t24), (1, k), (2, t30_1)]) w13 fun t31_1 =>
     RunC prog (Instr.box T.t_table_Table t31_1) w13 fun t32_1 w14 =>
      J t32_1 (.int .i64 0) w14)))

theorem table_New.enter {sizes k fill : Value} {w : World} {Q : Value → World → Prop} (h : table_New.body sizes k fill w Q) : Cal prog F.table_New [sizes, k, fill] w Q :=
  Cal.enter' (P := prog) mixed (show prog.funcs[F.table_New]? = some Tryd.f36 from Tryd.func36) rfl (by kernel_rfl) (by kernel_rfl) (by kernel_rfl) (by kernel_rfl) (Eq.mp (by kernel_rfl) h)

/-- (*pennyweight/table.Table).Copy -/
def P_table_Table_Copy.body (t : Value) (w : World) (Q : Value → World → Prop) : Prop :=
  RunQ prog (binS .eql T.t_p_table_Table false true t (.pointer none)) w fun t4 =>
  Split t4 (Q (.pointer none) w)
   (Drew w fun w1 =>
  RunQ prog (nilS t) w1 fun t6 =>
  RunQ prog (Instr.fieldAt T.t_table_Table t6 0) w1 fun t7 =>
  RunQ prog (Instr.loadAt T.t_shape_Shape t7) w1 fun t8 =>
  RunQ prog (nilS t) w1 fun t10 =>
  RunQ prog (Instr.fieldAt T.t_table_Table t10 1) w1 fun t11 =>
  RunQ prog (Instr.loadAt T.t_int64 t11) w1 fun t12 =>
  RunQ prog (nilS t) w1 fun t14 =>
  RunQ prog (Instr.fieldAt T.t_table_Table t14 2) w1 fun t15 =>
  RunQ prog (Instr.loadAt T.t_sl_int64 t15) w1 fun t16 =>
  Cal prog F.slices_Clone_int64_int64 [t16] w1 fun t17 w2 =>
   (Ext w1 w2 ∨ Stays prog (Instr.loadAt T.t_int64 t11) t12 w2 ∧ Stays prog (Instr.fieldAt T.t_table_Table t10 1) t11 w2 ∧ Stays prog (nilS t) t10 w2 ∧ Stays prog (Instr.loadAt T.t_shape_Shape t7) t8 w2 ∧ Stays prog (Instr.fieldAt T.t_table_Table t6 0) t7 w2 ∧ Stays prog (nilS t) t6 w2 ∧ True) ∧
  RunQ prog (Instr.build T.t_table_Table #[(0, t8), (1, t12), (2, t17)]) w2 fun t18 =>
   RunC prog (Instr.box T.t_table_Table t18) w2 fun t19 w3 =>
    Q t19 w3)

theorem P_table_Table_Copy.enter {t : Value} {w : World} {Q : Value → World → Prop} (h : P_table_Table_Copy.body t w Q) : Cal prog F.P_table_Table_Copy [t] w Q :=
  Cal.enter' (P := prog) mixed (show prog.funcs[F.P_table_Table_Copy]? = some Tryd.f37 from Tryd.func37) rfl (by kernel_rfl) (by kernel_rfl) (by kernel_rfl) (by kernel_rfl) (Eq.mp (by kernel_rfl) h)

/-- (*pennyweight/table.Table).K -/
def P_table_Table_K.body (t : Value) (w : World) (Q : Value → World → Prop) : Prop :=
  RunQ prog (binS .eql T.t_p_table_Table false true t (.pointer none)) w fun t4 =>
  Split t4 (Q (.int .i64 0) w)
   (RunQ prog (nilS t) w fun t6 =>
  RunQ prog (Instr.fieldAt T.t_table_Table t6 1) w fun t7 =>
  RunQ prog (Instr.loadAt T.t_int64 t7) w fun t8 =>
  Q t8 w)

theorem P_table_Table_K.enter {t : Value} {w : World} {Q : Value → World → Prop} (h : P_table_Table_K.body t w Q) : Cal prog F.P_table_Table_K [t] w Q :=
  Cal.enter' (P := prog) mixed (show prog.funcs[F.P_table_Table_K]? = some Tryd.f38 from Tryd.func38) rfl (by kernel_rfl) (by kernel_rfl) (by kernel_rfl) (by kernel_rfl) (Eq.mp (by kernel_rfl) h)

/-- (*pennyweight/table.Table).Shape -/
def P_table_Table_Shape.body (t : Value) (w : World) (Q : Value → World → Prop) : Prop :=
  RunC prog (Instr.alloc T.t_shape_Shape true (.tuple #[])) w fun t2 w1 =>
  RunQ prog (binS .eql T.t_p_table_Table false true t (.pointer none)) w1 fun t4 =>
  Split t4 (RunQ prog (Instr.build T.t_shape_Shape #[]) w1 fun t5 =>
   RunC prog (Instr.storeAt T.t_shape_Shape t2 t5) w1 fun (_ : Unit) w2 =>
   RunQ prog (do loadVar T.t_shape_Shape (← asAddr t2)) w2 fun r =>
  Q r w2)
   (RunQ prog (nilS t) w1 fun t7 =>
  RunQ prog (Instr.fieldAt T.t_table_Table t7 0) w1 fun t8 =>
  RunQ prog (Instr.loadAt T.t_shape_Shape t8) w1 fun t9 =>
  RunC prog (Instr.storeAt T.t_shape_Shape t2 t9) w1 fun (_ : Unit) w3 =>
  RunQ prog (do loadVar T.t_shape_Shape (← asAddr t2)) w3 fun r_1 =>
  Q r_1 w3)

theorem P_table_Table_Shape.enter {t : Value} {w : World} {Q : Value → World → Prop} (h : P_table_Table_Shape.body t w Q) : Cal prog F.P_table_Table_Shape [t] w Q :=
  Cal.enter' (P := prog) mixed (show prog.funcs[F.P_table_Table_Shape]? = some Tryd.f39 from Tryd.func39) rfl (by kernel_rfl) (by kernel_rfl) (by kernel_rfl) (by kernel_rfl) (Eq.mp (by kernel_rfl) h)

/-- (pennyweight/shape.Shape).Arity -/
def shape_Shape_Arity.body (s : Value) (w : World) (Q : Value → World → Prop) : Prop :=
  RunC prog (Instr.box T.t_shape_Shape s) w fun s_1 w1 =>
  RunQ prog (Instr.fieldAt T.t_shape_Shape s_1 0) w1 fun t3 =>
  RunQ prog (Instr.loadAt T.t_sl_int t3) w1 fun t4 =>
  RunQ prog (Builtin.len_ #[T.t_sl_int] T.t_int #[t4]) w1 fun t5 =>
  Q t5 w1

theorem shape_Shape_Arity.enter {s : Value} {w : World} {Q : Value → World → Prop} (h : shape_Shape_Arity.body s w Q) : Cal prog F.shape_Shape_Arity [s] w Q :=
  Cal.enter' (P := prog) mixed (show prog.funcs[F.shape_Shape_Arity]? = some Tryd.f40 from Tryd.func40) rfl (by kernel_rfl) (by kernel_rfl) (by kernel_rfl) (by kernel_rfl) (Eq.mp (by kernel_rfl) h)

/-- slices.Equal[[]int64,int64] -/
def slices_Equal_int64_int64.body (s1 s2 : Value) (w : World) (Q : Value → World → Prop) : Prop :=
  RunQ prog (Builtin.len_ #[T.t_sl_int64] T.t_int #[s1]) w fun t7 =>
  RunQ prog (Builtin.len_ #[T.t_sl_int64] T.t_int #[s2]) w fun t9 =>
  RunQ prog (binS .neq T.t_int false false t7 t9) w fun t10 =>
  Split t10 (Q (.bool false) w)
   (RunQ prog (Builtin.len_ #[T.t_sl_int64] T.t_int #[s1]) w fun t12 =>
  Loop2 (.bool false) (.int .i64 0) w fun t4 t13 w1 k =>
    RunQ prog (binS .lss T.t_int false false t13 t12) w1 fun t14 =>
    Split t14 (Drew w1 fun w2 =>
    RunQ prog (Instr.indexAt T.t_sl_int64 s1 t13) w2 fun t18 =>
    RunQ prog (Instr.loadAt T.t_int64 t18) w2 fun t19 =>
    RunQ prog (Instr.indexAt T.t_sl_int64 s2 t13) w2 fun t22 =>
    RunQ prog (Instr.loadAt T.t_int64 t22) w2 fun t23 =>
    RunQ prog (binS .neq T.t_int64 false false t19 t23) w2 fun t24 =>
    Split t24 (Q (.bool false) w2)
     (RunQ prog (binS .add T.t_int false true t13 (.int .i64 1)) w2 fun t25 =>
    k t4 t25 w2))
     (Q (.bool true) w1))

theorem slices_Equal_int64_int64.enter {s1 s2 : Value} {w : World} {Q : Value → World → Prop} (h : slices_Equal_int64_int64.body s1 s2 w Q) : Cal prog F.slices_Equal_int64_int64 [s1, s2] w Q :=
  Cal.enter' (P := prog) mixed (show prog.funcs[F.slices_Equal_int64_int64]? = some Tryd.f41 from Tryd.func41) rfl (by kernel_rfl) (by kernel_rfl) (by kernel_rfl) (by kernel_rfl) (Eq.mp (by kernel_rfl) h)

/-- pennyweight/pennyweightref04.Make -/
def ref04_Make.body (sizes k l : Value) (w : World) (Q : Value → World → Prop) : Prop :=
  RunC prog (Instr.alloc T.t_ref04_Table true (.tuple #[])) w fun t6 w1 =>
  RunQ prog (Instr.build T.t_ref04_Table #[(0, sizes), (1, k)]) w1 fun t12 =>
  RunC prog (Instr.alloc T.t_ref04_Table true (.tuple #[])) w1 fun t w2 =>
  RunC prog (Instr.storeAt T.t_ref04_Table t t12) w2 fun (_ : Unit) w3 =>
  Loop1 (.int .i64 0) w3 fun i w4 k_1 =>
    Cal prog F.ref03_Count [sizes] w4 fun t15 w5 =>
    RunQ prog (binS .lss T.t_int false false i t15) w5 fun t16 =>
    Split t16 (JoinC (α := Value → World → Prop) (fun (c : Value) (w6 : World) =>
      RunQ prog (Instr.fieldAt T.t_ref04_Table t 2) w6 fun t39 =>
      RunQ prog (Instr.loadAt T.t_sl_int64 t39) w6 fun t40 =>
      RunC prog (Instr.buildSlice T.t_sl_int64 1 #[(0, c)]) w6 fun t42 w7 =>
      RunC prog (Builtin.append_ #[T.t_sl_int64, T.t_sl_int64] T.t_sl_int64 #[t40, t42]) w7 fun t43 w8 =>
      RunQ prog (Instr.fieldAt T.t_ref04_Table t 2) w8 fun t44 =>
      RunC prog (Instr.storeAt T.t_sl_int64 t44 t43) w8 fun (_ : Unit) w9 =>
      RunQ prog (binS .add T.t_int false true i (.int .i64 1)) w9 fun t18 =>
    k_1 t18 w9) fun J =>
    RunQ prog (Builtin.len_ #[T.t_sl_uint16] T.t_int #[l]) w5 fun t21 =>
    RunQ prog (binS .lss T.t_int false false i t21) w5 fun t22 =>
    Split t22 (RunQ prog (Instr.indexAt T.t_sl_uint16 l i) w5 fun t25 =>
     RunQ prog (Instr.loadAt T.t_uint16 t25) w5 fun t26 =>
     RunQ prog (binS .quo T.t_uint16 false true t26 (.int .u16 5)) w5 fun t27 =>
     RunQ prog (convert T.t_uint16 T.t_int64 t27) w5 fun t28 =>
     RunQ prog (binS .add T.t_int64 false true k (.int .i64 1)) w5 fun t30 =>
     RunQ prog (binS .rem T.t_int64 false false t28 t30) w5 fun t31 =>
     RunQ prog (Instr.indexAt T.t_sl_uint16 l i) w5 fun t34 =>
     RunQ prog (Instr.loadAt T.t_uint16 t34) w5 fun t35 =>
     RunQ prog (binS .rem T.t_uint16 false true t35 (.int .u16 5)) w5 fun t36 =>
     RunQ prog (binS .eql T.t_uint16 false true t36 (.int .u16 0)) w5 fun t37 =>
     Split t37 (J k w5)
      (J t31 w5))
     (J (.int .i64 0) w5))
     (RunQ prog (Instr.loadAt T.t_ref04_Table t) w5 fun t45 =>
  RunC prog (Instr.storeAt T.t_ref04_Table t6 t45) w5 fun (_ : Unit) w10 =>
  RunQ prog (do loadVar T.t_ref04_Table (← asAddr t6)) w10 fun r =>
  Q r w10)

theorem ref04_Make.enter {sizes k l : Value} {w : World} {Q : Value → World → Prop} (h : ref04_Make.body sizes k l w Q) : Cal prog F.ref04_Make [sizes, k, l] w Q :=
  Cal.enter' (P := prog) mixed (show prog.funcs[F.ref04_Make]? = some Tryd.f42 from Tryd.func42) rfl (by kernel_rfl) (by kernel_rfl) (by kernel_rfl) (by kernel_rfl) (Eq.mp (by kernel_rfl) h)

/-- pennyweight/pennyweightref03.Small -/
def ref03_Small.body (l : Value) (w : World) (Q : Value → World → Prop) : Prop :=
  RunQ prog (Builtin.len_ #[T.t_sl_uint8] T.t_int #[l]) w fun t7 =>
  Loop2 (.slice none 0 0) (.int .i64 0) w fun out t8 w1 k =>
    RunQ prog (binS .lss T.t_int false false t8 t7) w1 fun t9 =>
    Split t9 (JoinC (α := Value → World → Prop) (fun (out_1 : Value) (w2 : World) =>
      RunQ prog (binS .add T.t_int false true t8 (.int .i64 1)) w2 fun t22 =>
      k out_1 t22 w2) fun J =>
    RunQ prog (Instr.indexAt T.t_sl_uint8 l t8) w1 fun t11 =>
    RunQ prog (Instr.loadAt T.t_uint8 t11) w1 fun t12 =>
    RunQ prog (binS .lss T.t_int false true t8 (.int .i64 3)) w1 fun t14 =>
    Split t14 (RunQ prog (binS .rem T.t_uint8 false true t12 (.int .u8 4)) w1 fun t17 =>
     RunQ prog (convert T.t_uint8 T.t_int t17) w1 fun t18 =>
     RunQ prog (binS .add T.t_int true false (.int .i64 1) t18) w1 fun t19 =>
     RunC prog (Instr.buildSlice T.t_sl_int 1 #[(0, t19)]) w1 fun t20 w3 =>
     RunC prog (Builtin.append_ #[T.t_sl_int, T.t_sl_int] T.t_sl_int #[out, t20]) w3 fun t21 w4 =>
     J t21 w4)
     (J out w1))
     (Q out w1)

theorem ref03_Small.enter {l : Value} {w : World} {Q : Value → World → Prop} (h : ref03_Small.body l w Q) : Cal prog F.ref03_Small [l] w Q :=
  Cal.enter' (P := prog) mixed (show prog.funcs[F.ref03_Small]? = some Tryd.f43 from Tryd.func43) rfl (by kernel_rfl) (by kernel_rfl) (by kernel_rfl) (by kernel_rfl) (Eq.mp (by kernel_rfl) h)

/-- pennyweight/pennyweightref03.All -/
def ref03_All.body (sizes : Value) (w : World) (Q : Value → World → Prop) : Prop :=
  RunQ prog (Builtin.len_ #[T.t_sl_int] T.t_int #[sizes]) w fun t9 =>
  RunQ prog (binS .eql T.t_int false true t9 (.int .i64 0)) w fun t10 =>
  Split t10 (RunC prog (Instr.buildSlice T.t_sl_sl_int 1 #[(0, (.slice none 0 0))]) w fun t11 w1 =>
   Q t11 w1)
   (RunQ prog (Instr.sliceAt T.t_sl_int sizes (some (.int .i64 1)) none none) w fun t13 =>
  Cal prog F.ref03_All [t13] w fun t14 w2 =>
  Loop2 (.slice none 0 0) (.int .i64 0) w2 fun out v w3 k =>
    RunQ prog (Instr.indexAt T.t_sl_int sizes (.int .i64 0)) w3 fun t17 =>
    RunQ prog (Instr.loadAt T.t_int t17) w3 fun t18 =>
    RunQ prog (binS .lss T.t_int false false v t18) w3 fun t19 =>
    Split t19 (RunQ prog (Builtin.len_ #[T.t_sl_sl_int] T.t_int #[t14]) w3 fun t23 =>
    Loop2 out (.int .i64 0) w3 fun out_1 t24 w4 k_1 =>
      RunQ prog (binS .lss T.t_int false false t24 t23) w4 fun t25 =>
      Split t25 (RunQ prog (Instr.indexAt T.t_sl_sl_int t14 t24) w4 fun t26 =>
      RunQ prog (Instr.loadAt T.t_sl_int t26) w4 fun t27 =>
      RunC prog (Instr.buildSlice T.t_sl_int 1 #[(0, v)]) w4 fun t30 w5 =>
      RunC prog (Builtin.append_ #[T.t_sl_int, T.t_sl_int] T.t_sl_int #[t30, t27]) w5 fun t32 w6 =>
      RunC prog (Instr.buildSlice T.t_sl_sl_int 1 #[(0, t32)]) w6 fun t33 w7 =>
      RunC prog (Builtin.append_ #[T.t_sl_sl_int, T.t_sl_sl_int] T.t_sl_sl_int #[out_1, t33]) w7 fun t34 w8 =>
      RunQ prog (binS .add T.t_int false true t24 (.int .i64 1)) w8 fun t35 =>
      k_1 t34 t35 w8)
       (RunQ prog (binS .add T.t_int false true v (.int .i64 1)) w4 fun t21 =>
    k out_1 t21 w4))
     (Q out w3))

theorem ref03_All.enter {sizes : Value} {w : World} {Q : Value → World → Prop} (h : ref03_All.body sizes w Q) : Cal prog F.ref03_All [sizes] w Q :=
  Cal.enter' (P := prog) mixed (show prog.funcs[F.ref03_All]? = some Tryd.f44 from Tryd.func44) rfl (by kernel_rfl) (by kernel_rfl) (by kernel_rfl) (by kernel_rfl) (Eq.mp (by kernel_rfl) h)

/-- (pennyweight/shape.Shape).Size -/
def shape_Shape_Size.body (s i : Value) (w : World) (Q : Value → World → Prop) : Prop :=
  RunC prog (Instr.box T.t_shape_Shape s) w fun s_1 w1 =>
  JoinC (α := Value → World → Prop) (fun (t13 : Value) (w2 : World) =>
    Split t13 (Q (.int .i64 0) w2)
     (RunQ prog (Instr.fieldAt T.t_shape_Shape s_1 0) w2 fun t14 =>
  RunQ prog (Instr.loadAt T.t_sl_int t14) w2 fun t15 =>
  RunQ prog (Instr.indexAt T.t_sl_int t15 i) w2 fun t17 =>
  RunQ prog (Instr.loadAt T.t_int t17) w2 fun t18 =>
  Q t18 w2)) fun J =>
  RunQ prog (binS .lss T.t_int false true i (.int .i64 0)) w1 fun t6 =>
  Split t6 (J (.bool true) w1)
   (RunQ prog (Instr.fieldAt T.t_shape_Shape s_1 0) w1 fun t9 =>
  RunQ prog (Instr.loadAt T.t_sl_int t9) w1 fun t10 =>
  RunQ prog (Builtin.len_ #[T.t_sl_int] T.t_int #[t10]) w1 fun t11 =>
  RunQ prog (binS .geq T.t_int false false i t11) w1 fun t12 =>
  J t12 w1)

theorem shape_Shape_Size.enter {s i : Value} {w : World} {Q : Value → World → Prop} (h : shape_Shape_Size.body s i w Q) : Cal prog F.shape_Shape_Size [s, i] w Q :=
  Cal.enter' (P := prog) mixed (show prog.funcs[F.shape_Shape_Size]? = some Tryd.f45 from Tryd.func45) rfl (by kernel_rfl) (by kernel_rfl) (by kernel_rfl) (by kernel_rfl) (Eq.mp (by kernel_rfl) h)

/-- slices.Delete[[]int,int] -/
def slices_Delete_int_int.body (s i j : Value) (w : World) (Q : Value → World → Prop) : Prop :=
  RunQ prog (Builtin.len_ #[T.t_sl_int] T.t_int #[s]) w fun t12 =>
  RunQ prog (Instr.sliceAt T.t_sl_int s (some i) (some j) (some t12)) w fun t13 =>
  RunQ prog (binS .eql T.t_int false false i j) w fun t16 =>
  Split t16 (Q s w)
   (RunQ prog (Builtin.len_ #[T.t_sl_int] T.t_int #[s]) w fun t19 =>
  Drew w fun w1 =>
  RunQ prog (Instr.sliceAt T.t_sl_int s none (some i) none) w1 fun t22 =>
  RunQ prog (Instr.sliceAt T.t_sl_int s (some j) none none) w1 fun t25 =>
  RunC prog (Builtin.append_ #[T.t_sl_int, T.t_sl_int] T.t_sl_int #[t22, t25]) w1 fun t26 w2 =>
   RunQ prog (Builtin.len_ #[T.t_sl_int] T.t_int #[t26]) w2 fun t29 =>
  RunQ prog (Instr.sliceAt T.t_sl_int t26 (some t29) (some t19) none) w2 fun t31 =>
  RunC prog (Builtin.clear_ #[T.t_sl_int] T.t_unit #[t31]) w2 fun u w3 =>
  Q t26 w3)

theorem slices_Delete_int_int.enter {s i j : Value} {w : World} {Q : Value → World → Prop} (h : slices_Delete_int_int.body s i j w Q) : Cal prog F.slices_Delete_int_int [s, i, j] w Q :=
  Cal.enter' (P := prog) mixed (show prog.funcs[F.slices_Delete_int_int]? = some Tryd.f46 from Tryd.func46) rfl (by kernel_rfl) (by kernel_rfl) (by kernel_rfl) (by kernel_rfl) (Eq.mp (by kernel_rfl) h)

/-- (pennyweight/shape.Shape).Sizes -/
def shape_Shape_Sizes.body (s : Value) (w : World) (Q : Value → World → Prop) : Prop :=
  RunC prog (Instr.box T.t_shape_Shape s) w fun s_1 w1 =>
  RunQ prog (Instr.fieldAt T.t_shape_Shape s_1 0) w1 fun t3 =>
  RunQ prog (Instr.loadAt T.t_sl_int t3) w1 fun t4 =>
  Cal prog F.slices_Clone_int_int [t4] w1 fun t5 w2 =>
  Q t5 w2

theorem shape_Shape_Sizes.enter {s : Value} {w : World} {Q : Value → World → Prop} (h : shape_Shape_Sizes.body s w Q) : Cal prog F.shape_Shape_Sizes [s] w Q :=
  Cal.enter' (P := prog) mixed (show prog.funcs[F.shape_Shape_Sizes]? = some Tryd.f47 from Tryd.func47) rfl (by kernel_rfl) (by kernel_rfl) (by kernel_rfl) (by kernel_rfl) (Eq.mp (by kernel_rfl) h)

/-- slices.Repeat[[]int,int] -/
def slices_Repeat_int_int.body (x count : Value) (w : World) (Q : Value → World → Prop) : Prop :=
  JoinC (α := World → Prop) (fun (w1 : World) =>
    RunQ prog (Builtin.len_ #[T.t_sl_int] T.t_int #[x]) w1 fun t14 =>
    RunQ prog (convert T.t_int T.t_uint t14) w1 fun t15 =>
    RunQ prog (convert T.t_int T.t_uint count) w1 fun t17 =>
    Cal prog F.math_bits_Mul [t15, t17] w1 fun t18 w2 =>
    RunQ prog (Instr.extract t18 0) w2 fun t19 =>
    RunQ prog (Instr.extract t18 1) w2 fun t20 =>
    JoinC (α := World → Prop) (fun (w3 : World) =>
      RunQ prog (convert T.t_uint T.t_int t20) w3 fun t29 =>
      RunC prog (Instr.makeSlice T.t_sl_int t29 t29) w3 fun t30 w4 =>
      RunC prog (Builtin.copy_ #[T.t_sl_int, T.t_sl_int] T.t_int #[t30, x]) w4 fun t33 w5 =>
      Loop1 t33 w5 fun n w6 k =>
        RunQ prog (Builtin.len_ #[T.t_sl_int] T.t_int #[t30]) w6 fun t36 =>
        RunQ prog (binS .lss T.t_int false false n t36) w6 fun t37 =>
        Split t37 (Drew w6 fun w7 =>
        RunQ prog (Instr.sliceAt T.t_sl_int t30 (some n) none none) w7 fun t41 =>
        RunQ prog (Instr.sliceAt T.t_sl_int t30 none (some n) none) w7 fun t44 =>
        RunC prog (Builtin.copy_ #[T.t_sl_int, T.t_sl_int] T.t_int #[t41, t44]) w7 fun t45 w8 =>
         RunQ prog (binS .add T.t_int false false n t45) w8 fun t46 =>
         k t46 w8)
         (Q t30 w6)) fun J_1 =>
    JoinC (α := Value → World → Prop) (fun (t26 : Value) (w9 : World) =>
      Split t26 (RunQ prog (Instr.makeInterface T.t_string (.string ⟨#[116, 104, 101, 32, 114, 101, 115, 117, 108, 116, 32, 111, 102, 32, 40, 108, 101, 110, 40, 120, 41, 32, 42, 32, 99, 111, 117, 110, 116, 41, 32, 111, 118, 101, 114, 102, 108, 111, 119, 115]⟩)) w9 fun t27 =>
       False)
       (J_1 w9)) fun J_2 =>
    RunQ prog (binS .gtr T.t_uint false true t19 (.int .u64 0)) w2 fun t22 =>
    Split t22 (J_2 (.bool true) w2)
     (RunQ prog (binS .gtr T.t_uint false true t20 (.int .u64 9223372036854775807)) w2 fun t25 =>
    J_2 t25 w2)) fun J =>
  RunQ prog (binS .lss T.t_int false true count (.int .i64 0)) w fun t10 =>
  Split t10 (RunQ prog (Instr.makeInterface T.t_string (.string ⟨#[99, 97, 110, 110, 111, 116, 32, 98, 101, 32, 110, 101, 103, 97, 116, 105, 118, 101]⟩)) w fun t11 =>
   False)
   (J w)

theorem slices_Repeat_int_int.enter {x count : Value} {w : World} {Q : Value → World → Prop} (h : slices_Repeat_int_int.body x count w Q) : Cal prog F.slices_Repeat_int_int [x, count] w Q :=
  Cal.enter' (P := prog) mixed (show prog.funcs[F.slices_Repeat_int_int]? = some Tryd.f48 from Tryd.func48) rfl (by kernel_rfl) (by kernel_rfl) (by kernel_rfl) (by kernel_rfl) (Eq.mp (by kernel_rfl) h)

/-- (pennyweight/shape.Shape).All -/
def shape_Shape_All.body (s : Value) (w : World) (Q : Value → World → Prop) : Prop :=
  RunC prog (Instr.box T.t_shape_Shape s) w fun s_1 w1 =>
  RunQ prog (Instr.makeFunc (.func F.shape_Shape_All_c1) #[] #[s_1]) w1 fun t3 =>
  Q t3 w1

theorem shape_Shape_All.enter {s : Value} {w : World} {Q : Value → World → Prop} (h : shape_Shape_All.body s w Q) : Cal prog F.shape_Shape_All [s] w Q :=
  Cal.enter' (P := prog) mixed (show prog.funcs[F.shape_Shape_All]? = some Tryd.f49 from Tryd.func49) rfl (by kernel_rfl) (by kernel_rfl) (by kernel_rfl) (by kernel_rfl) (Eq.mp (by kernel_rfl) h)

/-- (pennyweight/dom.Set).Values -/
def dom_Set_Values.body (s : Value) (w : World) (Q : Value → World → Prop) : Prop :=
  RunC prog (Instr.box T.t_dom_Set s) w fun s_1 w1 =>
  RunQ prog (Instr.makeFunc (.func F.dom_Set_Values_c1) #[] #[s_1]) w1 fun t3 =>
  Q t3 w1

theorem dom_Set_Values.enter {s : Value} {w : World} {Q : Value → World → Prop} (h : dom_Set_Values.body s w Q) : Cal prog F.dom_Set_Values [s] w Q :=
  Cal.enter' (P := prog) mixed (show prog.funcs[F.dom_Set_Values]? = some Tryd.f50 from Tryd.func50) rfl (by kernel_rfl) (by kernel_rfl) (by kernel_rfl) (by kernel_rfl) (Eq.mp (by kernel_rfl) h)

/-- slices.Insert[[]int,int] -/
def slices_Insert_int_int.body (s i v : Value) (w : World) (Q : Value → World → Prop) : Prop :=
  RunQ prog (Instr.sliceAt T.t_sl_int s (some i) none none) w fun t12 =>
  RunQ prog (Builtin.len_ #[T.t_sl_int] T.t_int #[v]) w fun t14 =>
  RunQ prog (binS .eql T.t_int false true t14 (.int .i64 0)) w fun t16 =>
  Split t16 (Q s w)
   (RunQ prog (Builtin.len_ #[T.t_sl_int] T.t_int #[s]) w fun t19 =>
  RunQ prog (binS .eql T.t_int false false i t19) w fun t22 =>
  Split t22 (RunC prog (Builtin.append_ #[T.t_sl_int, T.t_sl_int] T.t_sl_int #[s, v]) w fun t25 w1 =>
   Q t25 w1)
   (RunQ prog (binS .add T.t_int false false t19 t14) w fun t28 =>
  RunQ prog (Builtin.cap_ #[T.t_sl_int] T.t_int #[s]) w fun t30 =>
  RunQ prog (binS .gtr T.t_int false false t28 t30) w fun t31 =>
  Split t31 (RunQ prog (Instr.sliceAt T.t_sl_int s none (some i) none) w fun t34 =>
   RunQ prog (binS .add T.t_int false false t19 t14) w fun t37 =>
   RunQ prog (binS .sub T.t_int false false t37 i) w fun t39 =>
   RunC prog (Builtin.append_ #[T.t_sl_int, T.t_int] T.t_sl_int #[t34, t39]) w fun t40 w2 =>
   RunQ prog (Instr.sliceAt T.t_sl_int t40 (some i) none none) w2 fun t43 =>
   RunC prog (Builtin.copy_ #[T.t_sl_int, T.t_sl_int] T.t_int #[t43, v]) w2 fun t45 w3 =>
   Drew w3 fun w4 =>
   RunQ prog (binS .add T.t_int false false i t14) w4 fun t49 =>
   RunQ prog (Instr.sliceAt T.t_sl_int t40 (some t49) none none) w4 fun t50 =>
   RunQ prog (Instr.sliceAt T.t_sl_int s (some i) none none) w4 fun t53 =>
   RunC prog (Builtin.copy_ #[T.t_sl_int, T.t_sl_int] T.t_int #[t50, t53]) w4 fun t54 w5 =>
    Q t40 w5)
   (RunQ prog (binS .add T.t_int false false t19 t14) w fun t59 =>
  RunQ prog (Instr.sliceAt T.t_sl_int s none (some t59) none) w fun t60 =>
  RunQ prog (binS .add T.t_int false false i t14) w fun t65 =>
  RunQ prog (Instr.sliceAt T.t_sl_int t60 (some t65) none none) w fun t66 =>
  Cal prog F.slices_overlaps_int [v, t66] w fun t67 w6 =>
  RunQ prog (Op.unary .not t67) w6 fun t68 =>
  Split t68 (Drew w6 fun w7 =>
   RunQ prog (binS .add T.t_int false false i t14) w7 fun t72 =>
   RunQ prog (Instr.sliceAt T.t_sl_int t60 (some t72) none none) w7 fun t73 =>
   RunQ prog (Instr.sliceAt T.t_sl_int t60 (some i) none none) w7 fun t76 =>
   RunC prog (Builtin.copy_ #[T.t_sl_int, T.t_sl_int] T.t_int #[t73, t76]) w7 fun t77 w8 =>
    RunQ prog (Instr.sliceAt T.t_sl_int t60 (some i) none none) w8 fun t80 =>
   RunC prog (Builtin.copy_ #[T.t_sl_int, T.t_sl_int] T.t_int #[t80, v]) w8 fun t82 w9 =>
   Q t60 w9)
   (RunQ prog (Instr.sliceAt T.t_sl_int t60 (some t19) none none) w6 fun t86 =>
  RunC prog (Builtin.copy_ #[T.t_sl_int, T.t_sl_int] T.t_int #[t86, v]) w6 fun t88 w10 =>
  RunQ prog (Instr.sliceAt T.t_sl_int t60 (some i) none none) w10 fun t91 =>
  Cal prog F.slices_rotateRight_int [t91, t14] w10 fun t93 w11 =>
  Q t60 w11))))

theorem slices_Insert_int_int.enter {s i v : Value} {w : World} {Q : Value → World → Prop} (h : slices_Insert_int_int.body s i v w Q) : Cal prog F.slices_Insert_int_int [s, i, v] w Q :=
  Cal.enter' (P := prog) mixed (show prog.funcs[F.slices_Insert_int_int]? = some Tryd.f51 from Tryd.func51) rfl (by kernel_rfl) (by kernel_rfl) (by kernel_rfl) (by kernel_rfl) (Eq.mp (by kernel_rfl) h)

/-- (*pennyweight/table.Table).at -/
def P_table_Table_at.body (t tuple : Value) (w : World) (Q : Value → World → Prop) : Prop :=
  RunQ prog (binS .eql T.t_p_table_Table false true t (.pointer none)) w fun t7 =>
  Split t7 (Q (.tuple #[(.int .i64 0), (.int .i64 2)]) w)
   (RunQ prog (nilS t) w fun t9 =>
  RunQ prog (Instr.fieldAt T.t_table_Table t9 0) w fun t10 =>
  RunQ prog (Instr.loadAt T.t_shape_Shape t10) w fun t11 =>
  Cal prog F.shape_Shape_Index [t11, tuple] w fun t13 w1 =>
  RunQ prog (Instr.extract t13 0) w1 fun t14 =>
  RunQ prog (Instr.extract t13 1) w1 fun t15 =>
  Q (.tuple #[t14, t15]) w1)

theorem P_table_Table_at.enter {t tuple : Value} {w : World} {Q : Value → World → Prop} (h : P_table_Table_at.body t tuple w Q) : Cal prog F.P_table_Table_at [t, tuple] w Q :=
  Cal.enter' (P := prog) mixed (show prog.funcs[F.P_table_Table_at]? = some Tryd.f52 from Tryd.func52) rfl (by kernel_rfl) (by kernel_rfl) (by kernel_rfl) (by kernel_rfl) (Eq.mp (by kernel_rfl) h)

/-- pennyweight/shape.Same -/
def shape_Same.body (a b : Value) (w : World) (Q : Value → World → Prop) : Prop :=
  RunC prog (Instr.box T.t_shape_Shape a) w fun a_1 w1 =>
  RunC prog (Instr.box T.t_shape_Shape b) w1 fun b_1 w2 =>
  RunQ prog (Instr.fieldAt T.t_shape_Shape a_1 0) w2 fun t5 =>
  RunQ prog (Instr.loadAt T.t_sl_int t5) w2 fun t6 =>
  RunQ prog (Instr.fieldAt T.t_shape_Shape b_1 0) w2 fun t7 =>
  RunQ prog (Instr.loadAt T.t_sl_int t7) w2 fun t8 =>
  Cal prog F.slices_Equal_int_int [t6, t8] w2 fun t9 w3 =>
  Q t9 w3

theorem shape_Same.enter {a b : Value} {w : World} {Q : Value → World → Prop} (h : shape_Same.body a b w Q) : Cal prog F.shape_Same [a, b] w Q :=
  Cal.enter' (P := prog) mixed (show prog.funcs[F.shape_Same]? = some Tryd.f53 from Tryd.func53) rfl (by kernel_rfl) (by kernel_rfl) (by kernel_rfl) (by kernel_rfl) (Eq.mp (by kernel_rfl) h)

/-- (pennyweight/dom.Set).right -/
def dom_Set_right.body (s v : Value) (w : World) (Q : Value → World → Prop) : Prop :=
  RunC prog (Instr.box T.t_dom_Set s) w fun s_1 w1 =>
  JoinC (α := Value → World → Prop) (fun (t4 : Value) (w2 : World) =>
    Q t4 w2) fun J =>
  RunQ prog (binS .geq T.t_int false true v (.int .i64 0)) w1 fun t6 =>
  Split t6 (RunQ prog (Instr.fieldAt T.t_dom_Set s_1 1) w1 fun t9 =>
  RunQ prog (Instr.loadAt T.t_int t9) w1 fun t10 =>
  RunQ prog (binS .lss T.t_int false false v t10) w1 fun t11 =>
  J t11 w1)
   (J (.bool false) w1)

theorem dom_Set_right.enter {s v : Value} {w : World} {Q : Value → World → Prop} (h : dom_Set_right.body s v w Q) : Cal prog F.dom_Set_right [s, v] w Q :=
  Cal.enter' (P := prog) mixed (show prog.funcs[F.dom_Set_right]? = some Tryd.f54 from Tryd.func54) rfl (by kernel_rfl) (by kernel_rfl) (by kernel_rfl) (by kernel_rfl) (Eq.mp (by kernel_rfl) h)

/-- pennyweight/pennyweightref04.Get -/
def ref04_Get.body (t x : Value) (w : World) (Q : Value → World → Prop) : Prop :=
  RunC prog (Instr.box T.t_ref04_Table t) w fun t_1 w1 =>
  Drew w1 fun w2 =>
  RunQ prog (Instr.fieldAt T.t_ref04_Table t_1 2) w2 fun t5 =>
  RunQ prog (Instr.loadAt T.t_sl_int64 t5) w2 fun t6 =>
  RunQ prog (Instr.fieldAt T.t_ref04_Table t_1 0) w2 fun t7 =>
  RunQ prog (Instr.loadAt T.t_sl_int t7) w2 fun t8 =>
  Cal prog F.ref03_Index [t8, x] w2 fun t10 w3 =>
   (Ext w2 w3 ∨ Stays prog (Instr.loadAt T.t_sl_int64 t5) t6 w3 ∧ Stays prog (Instr.fieldAt T.t_ref04_Table t_1 2) t5 w3 ∧ True) ∧
  RunQ prog (Instr.indexAt T.t_sl_int64 t6 t10) w3 fun t11 =>
   RunQ prog (Instr.loadAt T.t_int64 t11) w3 fun t12 =>
   Q t12 w3

theorem ref04_Get.enter {t x : Value} {w : World} {Q : Value → World → Prop} (h : ref04_Get.body t x w Q) : Cal prog F.ref04_Get [t, x] w Q :=
  Cal.enter' (P := prog) mixed (show prog.funcs[F.ref04_Get]? = some Tryd.f55 from Tryd.func55) rfl (by kernel_rfl) (by kernel_rfl) (by kernel_rfl) (by kernel_rfl) (Eq.mp (by kernel_rfl) h)

/-- pennyweight/pennyweightref03.Same -/
def ref03_Same.body (a b : Value) (w : World) (Q : Value → World → Prop) : Prop :=
  RunQ prog (Builtin.len_ #[T.t_sl_int] T.t_int #[a]) w fun t7 =>
  RunQ prog (Builtin.len_ #[T.t_sl_int] T.t_int #[b]) w fun t9 =>
  RunQ prog (binS .neq T.t_int false false t7 t9) w fun t10 =>
  Split t10 (Q (.bool false) w)
   (RunQ prog (Builtin.len_ #[T.t_sl_int] T.t_int #[a]) w fun t12 =>
  Loop2 (.bool false) (.int .i64 0) w fun t4 t13 w1 k =>
    RunQ prog (binS .lss T.t_int false false t13 t12) w1 fun t14 =>
    Split t14 (Drew w1 fun w2 =>
    RunQ prog (Instr.indexAt T.t_sl_int a t13) w2 fun t18 =>
    RunQ prog (Instr.loadAt T.t_int t18) w2 fun t19 =>
    RunQ prog (Instr.indexAt T.t_sl_int b t13) w2 fun t22 =>
    RunQ prog (Instr.loadAt T.t_int t22) w2 fun t23 =>
    RunQ prog (binS .neq T.t_int false false t19 t23) w2 fun t24 =>
    Split t24 (Q (.bool false) w2)
     (RunQ prog (binS .add T.t_int false true t13 (.int .i64 1)) w2 fun t25 =>
    k t4 t25 w2))
     (Q (.bool true) w1))

theorem ref03_Same.enter {a b : Value} {w : World} {Q : Value → World → Prop} (h : ref03_Same.body a b w Q) : Cal prog F.ref03_Same [a, b] w Q :=
  Cal.enter' (P := prog) mixed (show prog.funcs[F.ref03_Same]? = some Tryd.f56 from Tryd.func56) rfl (by kernel_rfl) (by kernel_rfl) (by kernel_rfl) (by kernel_rfl) (Eq.mp (by kernel_rfl) h)

/-- pennyweight/pennyweightref01.Right -/
def ref01_Right.body (k : Value) (w : World) (Q : Value → World → Prop) : Prop :=
  JoinC (α := Value → World → Prop) (fun (t2 : Value) (w1 : World) =>
    Q t2 w1) fun J =>
  RunQ prog (binS .gtr T.t_int64 false true k (.int .i64 0)) w fun t4 =>
  Split t4 (RunQ prog (binS .leq T.t_int64 false true k (.int .i64 2147483648)) w fun t7 =>
  J t7 w)
   (J (.bool false) w)

theorem ref01_Right.enter {k : Value} {w : World} {Q : Value → World → Prop} (h : ref01_Right.body k w Q) : Cal prog F.ref01_Right [k] w Q :=
  Cal.enter' (P := prog) mixed (show prog.funcs[F.ref01_Right]? = some Tryd.f57 from Tryd.func57) rfl (by kernel_rfl) (by kernel_rfl) (by kernel_rfl) (by kernel_rfl) (Eq.mp (by kernel_rfl) h)

/-- pennyweight/cost.In -/
def cost_In.body (a k : Value) (w : World) (Q : Value → World → Prop) : Prop :=
  JoinC (α := Value → World → Prop) (fun (t4 : Value) (w1 : World) =>
    Q t4 w1) fun J =>
  Cal prog F.cost_Right [k] w fun t6 w2 =>
  Split t6 (RunQ prog (binS .geq T.t_int64 false true a (.int .i64 0)) w2 fun t9 =>
  Split t9 (RunQ prog (binS .leq T.t_int64 false false a k) w2 fun t14 =>
  J t14 w2)
   (J (.bool false) w2))
   (J (.bool false) w2)

theorem cost_In.enter {a k : Value} {w : World} {Q : Value → World → Prop} (h : cost_In.body a k w Q) : Cal prog F.cost_In [a, k] w Q :=
  Cal.enter' (P := prog) mixed (show prog.funcs[F.cost_In]? = some Tryd.f58 from Tryd.func58) rfl (by kernel_rfl) (by kernel_rfl) (by kernel_rfl) (by kernel_rfl) (Eq.mp (by kernel_rfl) h)

/-- pennyweight/cost.Add -/
def cost_Add.body (a b k : Value) (w : World) (Q : Value → World → Prop) : Prop :=
  JoinC (α := Value → World → Prop) (fun (t17 : Value) (w1 : World) =>
    Split t17 (Q (.tuple #[(.int .i64 0), (.int .i64 3)]) w1)
     (RunQ prog (binS .add T.t_int64 false false a b) w1 fun t20 =>
  RunQ prog (Builtin.min_ #[T.t_int64, T.t_int64] T.t_int64 #[t20, k]) w1 fun t22 =>
  Q (.tuple #[t22, (.int .i64 0)]) w1)) fun J =>
  Cal prog F.cost_In [a, k] w fun t10 w2 =>
  RunQ prog (Op.unary .not t10) w2 fun t11 =>
  Split t11 (J (.bool true) w2)
   (Cal prog F.cost_In [b, k] w2 fun t15 w3 =>
  RunQ prog (Op.unary .not t15) w3 fun t16 =>
  J t16 w3)

theorem cost_Add.enter {a b k : Value} {w : World} {Q : Value → World → Prop} (h : cost_Add.body a b k w Q) : Cal prog F.cost_Add [a, b, k] w Q :=
  Cal.enter' (P := prog) mixed (show prog.funcs[F.cost_Add]? = some Tryd.f59 from Tryd.func59) rfl (by kernel_rfl) (by kernel_rfl) (by kernel_rfl) (by kernel_rfl) (Eq.mp (by kernel_rfl) h)

/-- slices.Sorted[int] -/
def slices_Sorted_int.body (seq : Value) (w : World) (Q : Value → World → Prop) : Prop :=
  Cal prog F.slices_Collect_int [seq] w fun t5 w1 =>
  Cal prog F.slices_Sort_int_int [t5] w1 fun t7 w2 =>
  Q t5 w2

theorem slices_Sorted_int.enter {seq : Value} {w : World} {Q : Value → World → Prop} (h : slices_Sorted_int.body seq w Q) : Cal prog F.slices_Sorted_int [seq] w Q :=
  Cal.enter' (P := prog) mixed (show prog.funcs[F.slices_Sorted_int]? = some Tryd.f60 from Tryd.func60) rfl (by kernel_rfl) (by kernel_rfl) (by kernel_rfl) (by kernel_rfl) (Eq.mp (by kernel_rfl) h)

/-- slices.Values[[]int,int] -/
def slices_Values_int_int.body (s : Value) (w : World) (Q : Value → World → Prop) : Prop :=
  RunC prog (Instr.box T.t_sl_int s) w fun s_1 w1 =>
  RunQ prog (Instr.makeFunc (.func F.slices_Values_int_int__c1) #[] #[s_1]) w1 fun t3 =>
  Q t3 w1

theorem slices_Values_int_int.enter {s : Value} {w : World} {Q : Value → World → Prop} (h : slices_Values_int_int.body s w Q) : Cal prog F.slices_Values_int_int [s] w Q :=
  Cal.enter' (P := prog) mixed (show prog.funcs[F.slices_Values_int_int]? = some Tryd.f61 from Tryd.func61) rfl (by kernel_rfl) (by kernel_rfl) (by kernel_rfl) (by kernel_rfl) (Eq.mp (by kernel_rfl) h)

/-- (*pennyweight/table.Table).rises -/
def P_table_Table_rises.body (t l : Value) (w : World) (Q : Value → World → Prop) : Prop :=
  RunQ prog (Builtin.len_ #[T.t_sl_int] T.t_int #[l]) w fun t8 =>
  RunQ prog (nilS t) w fun t10 =>
  RunQ prog (Instr.fieldAt T.t_table_Table t10 0) w fun t11 =>
  RunQ prog (Instr.loadAt T.t_shape_Shape t11) w fun t12 =>
  Cal prog F.shape_Shape_Arity [t12] w fun t13 w1 =>
  RunQ prog (binS .neq T.t_int false false t8 t13) w1 fun t14 =>
  Split t14 (Q (.bool false) w1)
   (RunQ prog (Builtin.len_ #[T.t_sl_int] T.t_int #[l]) w1 fun t16 =>
  Loop2 (.bool false) (.int .i64 0) w1 fun t4 t17 w2 k =>
    RunQ prog (binS .lss T.t_int false false t17 t16) w2 fun t18 =>
    Split t18 (RunQ prog (Instr.indexAt T.t_sl_int l t17) w2 fun t20 =>
    RunQ prog (Instr.loadAt T.t_int t20) w2 fun t21 =>
    JoinC (α := Value → World → Prop) (fun (t36 : Value) (w3 : World) =>
      Split t36 (Q (.bool false) w3)
       (RunQ prog (binS .add T.t_int false true t17 (.int .i64 1)) w3 fun t37 =>
    k t4 t37 w3)) fun J =>
    RunQ prog (binS .lss T.t_int false true t21 (.int .i64 0)) w2 fun t23 =>
    Split t23 (J (.bool true) w2)
     (RunQ prog (binS .gtr T.t_int false true t17 (.int .i64 0)) w2 fun t26 =>
    Split t26 (RunQ prog (binS .sub T.t_int false true t17 (.int .i64 1)) w2 fun t30 =>
    RunQ prog (Instr.indexAt T.t_sl_int l t30) w2 fun t31 =>
    RunQ prog (Instr.loadAt T.t_int t31) w2 fun t32 =>
    RunQ prog (binS .geq T.t_int false false t32 t21) w2 fun t34 =>
    J t34 w2)
     (J (.bool false) w2)))
     (Q (.bool true) w2))

theorem P_table_Table_rises.enter {t l : Value} {w : World} {Q : Value → World → Prop} (h : P_table_Table_rises.body t l w Q) : Cal prog F.P_table_Table_rises [t, l] w Q :=
  Cal.enter' (P := prog) mixed (show prog.funcs[F.P_table_Table_rises]? = some Tryd.f62 from Tryd.func62) rfl (by kernel_rfl) (by kernel_rfl) (by kernel_rfl) (by kernel_rfl) (Eq.mp (by kernel_rfl) h)

/-- slices.Compact[[]int,int] -/
def slices_Compact_int_int.body (s : Value) (w : World) (Q : Value → World → Prop) : Prop :=
  RunQ prog (Builtin.len_ #[T.t_sl_int] T.t_int #[s]) w fun t7 =>
  RunQ prog (binS .lss T.t_int false true t7 (.int .i64 2)) w fun t8 =>
  Split t8 (Q s w)
   (Loop2 (.slice none 0 0) (.int .i64 1) w fun t2 k w1 k_1 =>
    RunQ prog (Builtin.len_ #[T.t_sl_int] T.t_int #[s]) w1 fun t12 =>
    RunQ prog (binS .lss T.t_int false false k t12) w1 fun t13 =>
    Split t13 (Drew w1 fun w2 =>
    RunQ prog (Instr.indexAt T.t_sl_int s k) w2 fun t18 =>
    RunQ prog (Instr.loadAt T.t_int t18) w2 fun t19 =>
    RunQ prog (binS .sub T.t_int false true k (.int .i64 1)) w2 fun t22 =>
    RunQ prog (Instr.indexAt T.t_sl_int s t22) w2 fun t23 =>
    RunQ prog (Instr.loadAt T.t_int t23) w2 fun t24 =>
    RunQ prog (binS .eql T.t_int false false t19 t24) w2 fun t25 =>
    Split t25 (RunQ prog (Instr.sliceAt T.t_sl_int s (some k) none none) w2 fun t28 =>
     Loop2 k (.int .i64 1) w2 fun k_2 k2 w3 k_3 =>
       RunQ prog (Builtin.len_ #[T.t_sl_int] T.t_int #[t28]) w3 fun t31 =>
       RunQ prog (binS .lss T.t_int false false k2 t31) w3 fun t32 =>
       Split t32 (JoinC (α := Value → World → Prop) (fun (k_4 : Value) (w4 : World) =>
         RunQ prog (binS .add T.t_int false true k2 (.int .i64 1)) w4 fun t34 =>
         k_3 k_4 t34 w4) fun J =>
       Drew w3 fun w5 =>
       RunQ prog (Instr.indexAt T.t_sl_int t28 k2) w5 fun t37 =>
       RunQ prog (Instr.loadAt T.t_int t37) w5 fun t38 =>
       RunQ prog (binS .sub T.t_int false true k2 (.int .i64 1)) w5 fun t41 =>
       RunQ prog (Instr.indexAt T.t_sl_int t28 t41) w5 fun t42 =>
       RunQ prog (Instr.loadAt T.t_int t42) w5 fun t43 =>
       RunQ prog (binS .neq T.t_int false false t38 t43) w5 fun t44 =>
       Split t44 (RunQ prog (Instr.indexAt T.t_sl_int t28 k2) w5 fun t49 =>
        RunQ prog (Instr.loadAt T.t_int t49) w5 fun t50 =>
        RunQ prog (Instr.indexAt T.t_sl_int s k_2) w5 fun t51 =>
        RunC prog (Instr.storeAt T.t_int t51 t50) w5 fun (_ : Unit) w6 =>
        RunQ prog (binS .add T.t_int false true k_2 (.int .i64 1)) w6 fun t53 =>
        J t53 w6)
        (J k_2 w5))
        (RunQ prog (Instr.sliceAt T.t_sl_int s (some k_2) none none) w3 fun t56 =>
     RunC prog (Builtin.clear_ #[T.t_sl_int] T.t_unit #[t56]) w3 fun u w7 =>
     RunQ prog (Instr.sliceAt T.t_sl_int s none (some k_2) none) w7 fun t59 =>
     Q t59 w7))
     (RunQ prog (binS .add T.t_int false true k (.int .i64 1)) w2 fun t15 =>
    k_1 t2 t15 w2))
     (Q s w1))

theorem slices_Compact_int_int.enter {s : Value} {w : World} {Q : Value → World → Prop} (h : slices_Compact_int_int.body s w Q) : Cal prog F.slices_Compact_int_int [s] w Q :=
  Cal.enter' (P := prog) mixed (show prog.funcs[F.slices_Compact_int_int]? = some Tryd.f63 from Tryd.func63) rfl (by kernel_rfl) (by kernel_rfl) (by kernel_rfl) (by kernel_rfl) (Eq.mp (by kernel_rfl) h)

/-- slices.Concat[[]int,int] -/
def slices_Concat_int_int.body (slices : Value) (w : World) (Q : Value → World → Prop) : Prop :=
  RunQ prog (Builtin.len_ #[T.t_sl_sl_int] T.t_int #[slices]) w fun t10 =>
  Loop2 (.int .i64 0) (.int .i64 0) w fun size t11 w1 k =>
    RunQ prog (binS .lss T.t_int false false t11 t10) w1 fun t12 =>
    Split t12 (JoinC (α := Value → World → Prop) (fun (size_1 : Value) (w2 : World) =>
      RunQ prog (binS .add T.t_int false true t11 (.int .i64 1)) w2 fun t22 =>
      k size_1 t22 w2) fun J =>
    RunQ prog (Instr.indexAt T.t_sl_sl_int slices t11) w1 fun t13 =>
    RunQ prog (Instr.loadAt T.t_sl_int t13) w1 fun t14 =>
    RunQ prog (Builtin.len_ #[T.t_sl_int] T.t_int #[t14]) w1 fun t17 =>
    RunQ prog (binS .add T.t_int false false size t17) w1 fun t18 =>
    RunQ prog (binS .lss T.t_int false true t18 (.int .i64 0)) w1 fun t20 =>
    Split t20 (RunQ prog (Instr.makeInterface T.t_string (.string ⟨#[108, 101, 110, 32, 111, 117, 116, 32, 111, 102, 32, 114, 97, 110, 103, 101]⟩)) w1 fun t21 =>
     False)
     (J t18 w1))
     (Cal prog F.slices_Grow_int_int [(.slice none 0 0), size] w1 fun t24 w3 =>
  RunQ prog (Builtin.len_ #[T.t_sl_sl_int] T.t_int #[slices]) w3 fun t26 =>
  Loop2 t24 (.int .i64 0) w3 fun newslice t27 w4 k_1 =>
    RunQ prog (binS .lss T.t_int false false t27 t26) w4 fun t28 =>
    Split t28 (RunQ prog (Instr.indexAt T.t_sl_sl_int slices t27) w4 fun t29 =>
    RunQ prog (Instr.loadAt T.t_sl_int t29) w4 fun t30 =>
    RunC prog (Builtin.append_ #[T.t_sl_int, T.t_sl_int] T.t_sl_int #[newslice, t30]) w4 fun t33 w5 =>
    RunQ prog (binS .add T.t_int false true t27 (.int .i64 1)) w5 fun t34 =>
    k_1 t33 t34 w5)
     (Q newslice w4))

theorem slices_Concat_int_int.enter {slices : Value} {w : World} {Q : Value → World → Prop} (h : slices_Concat_int_int.body slices w Q) : Cal prog F.slices_Concat_int_int [slices] w Q :=
  Cal.enter' (P := prog) mixed (show prog.funcs[F.slices_Concat_int_int]? = some Tryd.f64 from Tryd.func64) rfl (by kernel_rfl) (by kernel_rfl) (by kernel_rfl) (by kernel_rfl) (Eq.mp (by kernel_rfl) h)

/-- pennyweight/table.sizes -/
def table_sizes.body (vars a atv b bt : Value) (w : World) (Q : Value → World → Prop) : Prop :=
  RunQ prog (Builtin.len_ #[T.t_sl_int] T.t_int #[vars]) w fun t18 =>
  RunC prog (Instr.makeSlice T.t_sl_int t18 t18) w fun t19 w1 =>
  RunQ prog (Builtin.len_ #[T.t_sl_int] T.t_int #[vars]) w1 fun t21 =>
  Loop3 (.slice none 0 0) (.bool false) (.int .i64 0) w1 fun t10 t11 t22 w2 k =>
    RunQ prog (binS .lss T.t_int false false t22 t21) w2 fun t23 =>
    Split t23 (RunQ prog (Instr.indexAt T.t_sl_int vars t22) w2 fun t25 =>
    RunQ prog (Instr.loadAt T.t_int t25) w2 fun t26 =>
    Cal prog F.slices_Index_int_int [atv, t26] w2 fun t29 w3 =>
    Cal prog F.slices_Index_int_int [bt, t26] w3 fun t32 w4 =>
    JoinC (α := Value → World → Prop) (fun (t53 : Value) (w5 : World) =>
      Split t53 (Q (.tuple #[(.slice none 0 0), (.bool false)]) w5)
       (Drew w5 fun w6 =>
    RunQ prog (nilS a) w6 fun t57 =>
    RunQ prog (Instr.fieldAt T.t_table_Table t57 0) w6 fun t58 =>
    RunQ prog (Instr.loadAt T.t_shape_Shape t58) w6 fun t59 =>
    RunQ prog (nilS b) w6 fun t63 =>
    RunQ prog (Instr.fieldAt T.t_table_Table t63 0) w6 fun t64 =>
    RunQ prog (Instr.loadAt T.t_shape_Shape t64) w6 fun t65 =>
    Cal prog F.shape_Shape_Size [t59, t29] w6 fun t61 w7 =>
     (Ext w6 w7 ∨ Stays prog (Instr.loadAt T.t_shape_Shape t64) t65 w7 ∧ Stays prog (Instr.fieldAt T.t_table_Table t63 0) t64 w7 ∧ Stays prog (nilS b) t63 w7 ∧ True) ∧
    Cal prog F.shape_Shape_Size [t65, t32] w7 fun t67 w8 =>
      RunQ prog (Builtin.max_ #[T.t_int, T.t_int] T.t_int #[t61, t67]) w8 fun t68 =>
      RunQ prog (Instr.indexAt T.t_sl_int t19 t22) w8 fun t69 =>
      RunC prog (Instr.storeAt T.t_int t69 t68) w8 fun (_ : Unit) w9 =>
       RunQ prog (binS .add T.t_int false true t22 (.int .i64 1)) w9 fun t70 =>
    k t10 t11 t70 w9)) fun J =>
    Drew w4 fun w10 =>
    RunQ prog (binS .geq T.t_int false true t29 (.int .i64 0)) w10 fun t34 =>
    Split t34 (RunQ prog (binS .geq T.t_int false true t32 (.int .i64 0)) w10 fun t37 =>
    Split t37 (RunQ prog (nilS a) w10 fun t41 =>
    RunQ prog (Instr.fieldAt T.t_table_Table t41 0) w10 fun t42 =>
    RunQ prog (Instr.loadAt T.t_shape_Shape t42) w10 fun t43 =>
    RunQ prog (nilS b) w10 fun t47 =>
    RunQ prog (Instr.fieldAt T.t_table_Table t47 0) w10 fun t48 =>
    RunQ prog (Instr.loadAt T.t_shape_Shape t48) w10 fun t49 =>
    Cal prog F.shape_Shape_Size [t43, t29] w10 fun t45 w11 =>
     (Ext w10 w11 ∨ Stays prog (Instr.loadAt T.t_shape_Shape t48) t49 w11 ∧ Stays prog (Instr.fieldAt T.t_table_Table t47 0) t48 w11 ∧ Stays prog (nilS b) t47 w11 ∧ True) ∧
    Cal prog F.shape_Shape_Size [t49, t32] w11 fun t51 w12 =>
      RunQ prog (binS .neq T.t_int false false t45 t51) w12 fun t52 =>
      J t52 w12)
     ((Ext w10 w10 ∨ True ∧ True ∧ True ∧ True) ∧
    J (.bool false) w10))
     ((Ext w10 w10 ∨ True ∧ True ∧ True ∧ True) ∧
    J (.bool false) w10))
     (Q (.tuple #[t19, (.bool true)]) w2)

theorem table_sizes.enter {vars a atv b bt : Value} {w : World} {Q : Value → World → Prop} (h : table_sizes.body vars a atv b bt w Q) : Cal prog F.table_sizes [vars, a, atv, b, bt] w Q :=
  Cal.enter' (P := prog) mixed (show prog.funcs[F.table_sizes]? = some Tryd.f65 from Tryd.func65) rfl (by kernel_rfl) (by kernel_rfl) (by kernel_rfl) (by kernel_rfl) (Eq.mp (by kernel_rfl) h)

/-- pennyweight/table.part -/
def table_part.body (x vars scope : Value) (w : World) (Q : Value → World → Prop) : Prop :=
  RunQ prog (Builtin.len_ #[T.t_sl_int] T.t_int #[scope]) w fun t11 =>
  RunC prog (Instr.makeSlice T.t_sl_int t11 t11) w fun t12 w1 =>
  RunQ prog (Builtin.len_ #[T.t_sl_int] T.t_int #[scope]) w1 fun t14 =>
  Loop1 (.int .i64 0) w1 fun t15 w2 k =>
    RunQ prog (binS .lss T.t_int false false t15 t14) w2 fun t16 =>
    Split t16 (RunQ prog (Instr.indexAt T.t_sl_int scope t15) w2 fun t18 =>
    RunQ prog (Instr.loadAt T.t_int t18) w2 fun t19 =>
    Cal prog F.slices_Index_int_int [vars, t19] w2 fun t25 w3 =>
    RunQ prog (Instr.indexAt T.t_sl_int x t25) w3 fun t26 =>
    RunQ prog (Instr.loadAt T.t_int t26) w3 fun t27 =>
    RunQ prog (Instr.indexAt T.t_sl_int t12 t15) w3 fun t28 =>
    RunC prog (Instr.storeAt T.t_int t28 t27) w3 fun (_ : Unit) w4 =>
    RunQ prog (binS .add T.t_int false true t15 (.int .i64 1)) w4 fun t29 =>
    k t29 w4)
     (Q t12 w2)

theorem table_part.enter {x vars scope : Value} {w : World} {Q : Value → World → Prop} (h : table_part.body x vars scope w Q) : Cal prog F.table_part [x, vars, scope] w Q :=
  Cal.enter' (P := prog) mixed (show prog.funcs[F.table_part]? = some Tryd.f66 from Tryd.func66) rfl (by kernel_rfl) (by kernel_rfl) (by kernel_rfl) (by kernel_rfl) (Eq.mp (by kernel_rfl) h)

/-- slices.Clone[[]int64,int64] -/
def slices_Clone_int64_int64.body (s : Value) (w : World) (Q : Value → World → Prop) : Prop :=
  RunQ prog (binS .eql T.t_sl_int64 false true s (.slice none 0 0)) w fun t4 =>
  Split t4 (Q (.slice none 0 0) w)
   (RunC prog (Instr.buildSlice T.t_sl_int64 0 #[]) w fun t5 w1 =>
  RunC prog (Builtin.append_ #[T.t_sl_int64, T.t_sl_int64] T.t_sl_int64 #[t5, s]) w1 fun t7 w2 =>
  Q t7 w2)

theorem slices_Clone_int64_int64.enter {s : Value} {w : World} {Q : Value → World → Prop} (h : slices_Clone_int64_int64.body s w Q) : Cal prog F.slices_Clone_int64_int64 [s] w Q :=
  Cal.enter' (P := prog) mixed (show prog.funcs[F.slices_Clone_int64_int64]? = some Tryd.f67 from Tryd.func67) rfl (by kernel_rfl) (by kernel_rfl) (by kernel_rfl) (by kernel_rfl) (Eq.mp (by kernel_rfl) h)

/-- pennyweight/pennyweightref04.find -/
def ref04_find.body (l v : Value) (w : World) (Q : Value → World → Prop) : Prop :=
  RunQ prog (Builtin.len_ #[T.t_sl_int] T.t_int #[l]) w fun t8 =>
  Loop2 (.int .i64 0) (.int .i64 0) w fun t4 t9 w1 k =>
    RunQ prog (binS .lss T.t_int false false t9 t8) w1 fun t10 =>
    Split t10 (RunQ prog (Instr.indexAt T.t_sl_int l t9) w1 fun t12 =>
    RunQ prog (Instr.loadAt T.t_int t12) w1 fun t13 =>
    RunQ prog (binS .eql T.t_int false false t13 v) w1 fun t16 =>
    Split t16 (Q t9 w1)
     (RunQ prog (binS .add T.t_int false true t9 (.int .i64 1)) w1 fun t18 =>
    k t4 t18 w1))
     (Q (.int .i64 (-1)) w1)

theorem ref04_find.enter {l v : Value} {w : World} {Q : Value → World → Prop} (h : ref04_find.body l v w Q) : Cal prog F.ref04_find [l, v] w Q :=
  Cal.enter' (P := prog) mixed (show prog.funcs[F.ref04_find]? = some Tryd.f68 from Tryd.func68) rfl (by kernel_rfl) (by kernel_rfl) (by kernel_rfl) (by kernel_rfl) (Eq.mp (by kernel_rfl) h)

/-- pennyweight/shape.New -/
def shape_New.body (sizes : Value) (w : World) (Q : Value → World → Prop) : Prop :=
  RunC prog (Instr.alloc T.t_shape_Shape true (.tuple #[])) w fun t2 w1 =>
  JoinC (α := Value → World → Prop) (fun (t13 : Value) (w2 : World) =>
    Split t13 (RunQ prog (Instr.build T.t_shape_Shape #[]) w2 fun t14 =>
     RunC prog (Instr.storeAt T.t_shape_Shape t2 t14) w2 fun (_ : Unit) w3 =>
     RunQ prog (do loadVar T.t_shape_Shape (← asAddr t2)) w3 fun r =>
  Q (.tuple #[r, (.int .i64 1)]) w3)
     (Cal prog F.slices_Clone_int_int [sizes] w2 fun t16 w4 =>
  RunQ prog (Instr.build T.t_shape_Shape #[(0, t16)]) w4 fun t17 =>
  RunC prog (Instr.alloc T.t_shape_Shape true (.tuple #[])) w4 fun s w5 =>
  RunC prog (Instr.storeAt T.t_shape_Shape s t17) w5 fun (_ : Unit) w6 =>
  RunQ prog (Instr.loadAt T.t_shape_Shape s) w6 fun t18 =>
  Cal prog F.shape_Shape_Count [t18] w6 fun t19 w7 =>
  RunQ prog (binS .gtr T.t_int false true t19 (.int .i64 4096)) w7 fun t20 =>
  Split t20 (RunQ prog (Instr.build T.t_shape_Shape #[]) w7 fun t21 =>
   RunC prog (Instr.storeAt T.t_shape_Shape t2 t21) w7 fun (_ : Unit) w8 =>
   RunQ prog (do loadVar T.t_shape_Shape (← asAddr t2)) w8 fun r_1 =>
  Q (.tuple #[r_1, (.int .i64 5)]) w8)
   (RunQ prog (Instr.loadAt T.t_shape_Shape s) w7 fun t22 =>
  RunC prog (Instr.storeAt T.t_shape_Shape t2 t22) w7 fun (_ : Unit) w9 =>
  RunQ prog (do loadVar T.t_shape_Shape (← asAddr t2)) w9 fun r_2 =>
  Q (.tuple #[r_2, (.int .i64 0)]) w9))) fun J =>
  RunQ prog (Builtin.len_ #[T.t_sl_int] T.t_int #[sizes]) w1 fun t7 =>
  RunQ prog (binS .gtr T.t_int false true t7 (.int .i64 6)) w1 fun t8 =>
  Split t8 (J (.bool true) w1)
   (Cal prog F.slices_ContainsFunc_int_int [sizes, (.func (.func F.shape_New_c1) #[] #[])] w1 fun t12 w10 =>
  J t12 w10)

theorem shape_New.enter {sizes : Value} {w : World} {Q : Value → World → Prop} (h : shape_New.body sizes w Q) : Cal prog F.shape_New [sizes] w Q :=
  Cal.enter' (P := prog) mixed (show prog.funcs[F.shape_New]? = some Tryd.f69 from Tryd.func69) rfl (by kernel_rfl) (by kernel_rfl) (by kernel_rfl) (by kernel_rfl) (Eq.mp (by kernel_rfl) h)

/-- slices.Repeat[[]int64,int64] -/
def slices_Repeat_int64_int64.body (x count : Value) (w : World) (Q : Value → World → Prop) : Prop :=
  JoinC (α := World → Prop) (fun (w1 : World) =>
    RunQ prog (Builtin.len_ #[T.t_sl_int64] T.t_int #[x]) w1 fun t14 =>
    RunQ prog (convert T.t_int T.t_uint t14) w1 fun t15 =>
    RunQ prog (convert T.t_int T.t_uint count) w1 fun t17 =>
    Cal prog F.math_bits_Mul [t15, t17] w1 fun t18 w2 =>
    RunQ prog (Instr.extract t18 0) w2 fun t19 =>
    RunQ prog (Instr.extract t18 1) w2 fun t20 =>
    JoinC (α := World → Prop) (fun (w3 : World) =>
      RunQ prog (convert T.t_uint T.t_int t20) w3 fun t29 =>
      RunC prog (Instr.makeSlice T.t_sl_int64 t29 t29) w3 fun t30 w4 =>
      RunC prog (Builtin.copy_ #[T.t_sl_int64, T.t_sl_int64] T.t_int #[t30, x]) w4 fun t33 w5 =>
      Loop1 t33 w5 fun n w6 k =>
        RunQ prog (Builtin.len_ #[T.t_sl_int64] T.t_int #[t30]) w6 fun t36 =>
        RunQ prog (binS .lss T.t_int false false n t36) w6 fun t37 =>
        Split t37 (Drew w6 fun w7 =>
        RunQ prog (Instr.sliceAt T.t_sl_int64 t30 (some n) none none) w7 fun t41 =>
        RunQ prog (Instr.sliceAt T.t_sl_int64 t30 none (some n) none) w7 fun t44 =>
        RunC prog (Builtin.copy_ #[T.t_sl_int64, T.t_sl_int64] T.t_int #[t41, t44]) w7 fun t45 w8 =>
         RunQ prog (binS .add T.t_int false false n t45) w8 fun t46 =>
         k t46 w8)
         (Q t30 w6)) fun J_1 =>
    JoinC (α := Value → World → Prop) (fun (t26 : Value) (w9 : World) =>
      Split t26 (RunQ prog (Instr.makeInterface T.t_string (.string ⟨#[116, 104, 101, 32, 114, 101, 115, 117, 108, 116, 32, 111, 102, 32, 40, 108, 101, 110, 40, 120, 41, 32, 42, 32, 99, 111, 117, 110, 116, 41, 32, 111, 118, 101, 114, 102, 108, 111, 119, 115]⟩)) w9 fun t27 =>
       False)
       (J_1 w9)) fun J_2 =>
    RunQ prog (binS .gtr T.t_uint false true t19 (.int .u64 0)) w2 fun t22 =>
    Split t22 (J_2 (.bool true) w2)
     (RunQ prog (binS .gtr T.t_uint false true t20 (.int .u64 9223372036854775807)) w2 fun t25 =>
    J_2 t25 w2)) fun J =>
  RunQ prog (binS .lss T.t_int false true count (.int .i64 0)) w fun t10 =>
  Split t10 (RunQ prog (Instr.makeInterface T.t_string (.string ⟨#[99, 97, 110, 110, 111, 116, 32, 98, 101, 32, 110, 101, 103, 97, 116, 105, 118, 101]⟩)) w fun t11 =>
   False)
   (J w)

theorem slices_Repeat_int64_int64.enter {x count : Value} {w : World} {Q : Value → World → Prop} (h : slices_Repeat_int64_int64.body x count w Q) : Cal prog F.slices_Repeat_int64_int64 [x, count] w Q :=
  Cal.enter' (P := prog) mixed (show prog.funcs[F.slices_Repeat_int64_int64]? = some Tryd.f70 from Tryd.func70) rfl (by kernel_rfl) (by kernel_rfl) (by kernel_rfl) (by kernel_rfl) (Eq.mp (by kernel_rfl) h)

/-- (pennyweight/shape.Shape).Count -/
def shape_Shape_Count.body (s : Value) (w : World) (Q : Value → World → Prop) : Prop :=
  RunC prog (Instr.box T.t_shape_Shape s) w fun s_1 w1 =>
  RunQ prog (Instr.fieldAt T.t_shape_Shape s_1 0) w1 fun t6 =>
  RunQ prog (Instr.loadAt T.t_sl_int t6) w1 fun t7 =>
  RunQ prog (Builtin.len_ #[T.t_sl_int] T.t_int #[t7]) w1 fun t8 =>
  Loop2 (.int .i64 1) (.int .i64 0) w1 fun n t9 w2 k =>
    RunQ prog (binS .lss T.t_int false false t9 t8) w2 fun t10 =>
    Split t10 (RunQ prog (Instr.indexAt T.t_sl_int t7 t9) w2 fun t11 =>
    RunQ prog (Instr.loadAt T.t_int t11) w2 fun t12 =>
    RunQ prog (binS .mul T.t_int false false n t12) w2 fun t15 =>
    RunQ prog (binS .add T.t_int false true t9 (.int .i64 1)) w2 fun t16 =>
    k t15 t16 w2)
     (Q n w2)

theorem shape_Shape_Count.enter {s : Value} {w : World} {Q : Value → World → Prop} (h : shape_Shape_Count.body s w Q) : Cal prog F.shape_Shape_Count [s] w Q :=
  Cal.enter' (P := prog) mixed (show prog.funcs[F.shape_Shape_Count]? = some Tryd.f71 from Tryd.func71) rfl (by kernel_rfl) (by kernel_rfl) (by kernel_rfl) (by kernel_rfl) (Eq.mp (by kernel_rfl) h)

/-- pennyweight/pennyweightref03.Count -/
def ref03_Count.body (sizes : Value) (w : World) (Q : Value → World → Prop) : Prop :=
  RunQ prog (Builtin.len_ #[T.t_sl_int] T.t_int #[sizes]) w fun t7 =>
  Loop2 (.int .i64 1) (.int .i64 0) w fun n t8 w1 k =>
    RunQ prog (binS .lss T.t_int false false t8 t7) w1 fun t9 =>
    Split t9 (RunQ prog (Instr.indexAt T.t_sl_int sizes t8) w1 fun t10 =>
    RunQ prog (Instr.loadAt T.t_int t10) w1 fun t11 =>
    RunQ prog (binS .mul T.t_int false false n t11) w1 fun t14 =>
    RunQ prog (binS .add T.t_int false true t8 (.int .i64 1)) w1 fun t15 =>
    k t14 t15 w1)
     (Q n w1)

theorem ref03_Count.enter {sizes : Value} {w : World} {Q : Value → World → Prop} (h : ref03_Count.body sizes w Q) : Cal prog F.ref03_Count [sizes] w Q :=
  Cal.enter' (P := prog) mixed (show prog.funcs[F.ref03_Count]? = some Tryd.f72 from Tryd.func72) rfl (by kernel_rfl) (by kernel_rfl) (by kernel_rfl) (by kernel_rfl) (Eq.mp (by kernel_rfl) h)

/-- math/bits.Mul -/
def math_bits_Mul.body (x y : Value) (w : World) (Q : Value → World → Prop) : Prop :=
  Cal prog F.math_bits_Mul64 [x, y] w fun t25 w1 =>
  RunQ prog (Instr.extract t25 0) w1 fun t26 =>
  RunQ prog (Instr.extract t25 1) w1 fun t27 =>
  Q (.tuple #[t26, t27]) w1

theorem math_bits_Mul.enter {x y : Value} {w : World} {Q : Value → World → Prop} (h : math_bits_Mul.body x y w Q) : Cal prog F.math_bits_Mul [x, y] w Q :=
  Cal.enter' (P := prog) mixed (show prog.funcs[F.math_bits_Mul]? = some Tryd.f73 from Tryd.func73) rfl (by kernel_rfl) (by kernel_rfl) (by kernel_rfl) (by kernel_rfl) (Eq.mp (by kernel_rfl) h)

/-- (pennyweight/shape.Shape).All$1 -/
def shape_Shape_All_c1.body (yield t1 : Value) (w : World) (Q : Value → World → Prop) : Prop :=
  RunQ prog (Instr.loadAt T.t_shape_Shape t1) w fun t6 =>
  CalF prog F.shape_Shape_Count [t6] w fun t7 w1 =>
  Loop1 (.int .i64 0) w1 fun t8 w2 k =>
    RunQ prog (binS .lss T.t_int false false t8 t7) w2 fun t9 =>
    Split t9 (RunQ prog (Instr.loadAt T.t_shape_Shape t1) w2 fun t12 =>
    CalF prog F.shape_Shape_Tuple [t12, t8] w2 fun t14 w3 =>
    RunQ prog (Instr.extract t14 0) w3 fun t15 =>
    RunQ prog (Instr.extract t14 1) w3 fun t16 =>
    CalV prog true yield [t8, t15] w3 fun t20 w4 =>
    RunQ prog (Op.unary .not t20) w4 fun t21 =>
    Split t21 (Q (.tuple #[]) w4)
     (RunQ prog (binS .add T.t_int false true t8 (.int .i64 1)) w4 fun t22 =>
    k t22 w4))
     (Q (.tuple #[]) w2)

theorem shape_Shape_All_c1.enter {yield t1 : Value} {w : World} {Q : Value → World → Prop} (h : shape_Shape_All_c1.body yield t1 w Q) : CalF prog F.shape_Shape_All_c1 [yield, t1] w Q :=
  CalF.enter (P := prog) mixed (show prog.funcs[F.shape_Shape_All_c1]? = some Tryd.f74 from Tryd.func74) rfl (by kernel_rfl) (by kernel_rfl) (by kernel_rfl) (Eq.mp (by kernel_rfl) h)

theorem shape_Shape_All_c1.enters : Enters prog F.shape_Shape_All_c1 :=
  Enters.of prog (show prog.funcs[F.shape_Shape_All_c1]? = some Tryd.f74 from Tryd.func74) rfl (by kernel_rfl)

/-- (pennyweight/shape.Shape).Tuple -/
def shape_Shape_Tuple.body (s i : Value) (w : World) (Q : Value → World → Prop) : Prop :=
  RunC prog (Instr.box T.t_shape_Shape s) w fun s_1 w1 =>
  JoinC (α := Value → World → Prop) (fun (t16 : Value) (w2 : World) =>
    Split t16 (Q (.tuple #[(.slice none 0 0), (.int .i64 3)]) w2)
     (RunQ prog (Instr.fieldAt T.t_shape_Shape s_1 0) w2 fun t17 =>
  RunQ prog (Instr.loadAt T.t_sl_int t17) w2 fun t18 =>
  RunQ prog (Builtin.len_ #[T.t_sl_int] T.t_int #[t18]) w2 fun t19 =>
  RunC prog (Instr.makeSlice T.t_sl_int t19 t19) w2 fun t20 w3 =>
  RunQ prog (Builtin.len_ #[T.t_sl_int] T.t_int #[t20]) w3 fun t22 =>
  Loop1 (.int .i64 0) w3 fun t23 w4 k =>
    RunQ prog (binS .lss T.t_int false false t23 t22) w4 fun t24 =>
    Split t24 (RunQ prog (Instr.loadAt T.t_shape_Shape s_1) w4 fun t26 =>
    Cal prog F.shape_Shape_Step [t26, t23] w4 fun t28 w5 =>
    Drew w5 fun w6 =>
    RunQ prog (binS .quo T.t_int false false i t28) w6 fun t33 =>
    RunQ prog (Instr.fieldAt T.t_shape_Shape s_1 0) w6 fun t34 =>
    RunQ prog (Instr.loadAt T.t_sl_int t34) w6 fun t35 =>
    RunQ prog (Instr.indexAt T.t_sl_int t35 t23) w6 fun t37 =>
    RunQ prog (Instr.loadAt T.t_int t37) w6 fun t38 =>
    RunQ prog (binS .rem T.t_int false false t33 t38) w6 fun t39 =>
    RunQ prog (Instr.indexAt T.t_sl_int t20 t23) w6 fun t40 =>
    RunC prog (Instr.storeAt T.t_int t40 t39) w6 fun (_ : Unit) w7 =>
     RunQ prog (binS .add T.t_int false true t23 (.int .i64 1)) w7 fun t41 =>
    k t41 w7)
     (Q (.tuple #[t20, (.int .i64 0)]) w4))) fun J =>
  RunQ prog (binS .lss T.t_int false true i (.int .i64 0)) w1 fun t10 =>
  Split t10 (J (.bool true) w1)
   (RunQ prog (Instr.loadAt T.t_shape_Shape s_1) w1 fun t13 =>
  Cal prog F.shape_Shape_Count [t13] w1 fun t14 w8 =>
  RunQ prog (binS .geq T.t_int false false i t14) w8 fun t15 =>
  J t15 w8)

theorem shape_Shape_Tuple.enter {s i : Value} {w : World} {Q : Value → World → Prop} (h : shape_Shape_Tuple.body s i w Q) : Cal prog F.shape_Shape_Tuple [s, i] w Q :=
  Cal.enter' (P := prog) mixed (show prog.funcs[F.shape_Shape_Tuple]? = some Tryd.f75 from Tryd.func75) rfl (by kernel_rfl) (by kernel_rfl) (by kernel_rfl) (by kernel_rfl) (Eq.mp (by kernel_rfl) h)

/-- (pennyweight/dom.Set).Values$1 -/
def dom_Set_Values_c1.body (yield t1 : Value) (w : World) (Q : Value → World → Prop) : Prop :=
  RunQ prog (Instr.loadAt T.t_dom_Set t1) w fun t4 =>
  CalF prog F.dom_Set_First [t4] w fun t5 w1 =>
  Loop1 t5 w1 fun v w2 k =>
    RunQ prog (binS .geq T.t_int false true v (.int .i64 0)) w2 fun t7 =>
    Split t7 (CalV prog true yield [v] w2 fun t13 w3 =>
    RunQ prog (Op.unary .not t13) w3 fun t14 =>
    Split t14 (Q (.tuple #[]) w3)
     (RunQ prog (Instr.loadAt T.t_dom_Set t1) w3 fun t8 =>
    CalF prog F.dom_Set_Next [t8, v] w3 fun t10 w4 =>
    k t10 w4))
     (Q (.tuple #[]) w2)

theorem dom_Set_Values_c1.enter {yield t1 : Value} {w : World} {Q : Value → World → Prop} (h : dom_Set_Values_c1.body yield t1 w Q) : CalF prog F.dom_Set_Values_c1 [yield, t1] w Q :=
  CalF.enter (P := prog) mixed (show prog.funcs[F.dom_Set_Values_c1]? = some Tryd.f76 from Tryd.func76) rfl (by kernel_rfl) (by kernel_rfl) (by kernel_rfl) (Eq.mp (by kernel_rfl) h)

theorem dom_Set_Values_c1.enters : Enters prog F.dom_Set_Values_c1 :=
  Enters.of prog (show prog.funcs[F.dom_Set_Values_c1]? = some Tryd.f76 from Tryd.func76) rfl (by kernel_rfl)

/-- (pennyweight/dom.Set).First -/
def dom_Set_First.body (s : Value) (w : World) (Q : Value → World → Prop) : Prop :=
  RunC prog (Instr.box T.t_dom_Set s) w fun s_1 w1 =>
  RunQ prog (Instr.loadAt T.t_dom_Set s_1) w1 fun t3 =>
  Cal prog F.dom_Set_Next [t3, (.int .i64 (-1))] w1 fun t4 w2 =>
  Q t4 w2

theorem dom_Set_First.enter {s : Value} {w : World} {Q : Value → World → Prop} (h : dom_Set_First.body s w Q) : Cal prog F.dom_Set_First [s] w Q :=
  Cal.enter' (P := prog) mixed (show prog.funcs[F.dom_Set_First]? = some Tryd.f77 from Tryd.func77) rfl (by kernel_rfl) (by kernel_rfl) (by kernel_rfl) (by kernel_rfl) (Eq.mp (by kernel_rfl) h)

/-- (pennyweight/dom.Set).Next -/
def dom_Set_Next.body (s v : Value) (w : World) (Q : Value → World → Prop) : Prop :=
  RunC prog (Instr.box T.t_dom_Set s) w fun s_1 w1 =>
  RunQ prog (Instr.fieldAt T.t_dom_Set s_1 1) w1 fun t7 =>
  RunQ prog (Instr.loadAt T.t_int t7) w1 fun t8 =>
  RunQ prog (binS .sub T.t_int false true t8 (.int .i64 1)) w1 fun t9 =>
  RunQ prog (binS .geq T.t_int false false v t9) w1 fun t10 =>
  Split t10 (Q (.int .i64 (-1)) w1)
   (RunQ prog (Instr.fieldAt T.t_dom_Set s_1 0) w1 fun t11 =>
  RunQ prog (Instr.loadAt T.t_uint64 t11) w1 fun t12 =>
  JoinC (α := Value → World → Prop) (fun (rest : Value) (w2 : World) =>
    RunQ prog (binS .eql T.t_uint64 false true rest (.int .u64 0)) w2 fun t22 =>
    Split t22 (Q (.int .i64 (-1)) w2)
     (Cal prog F.math_bits_TrailingZeros64 [rest] w2 fun t24 w3 =>
    Q t24 w3)) fun J =>
  RunQ prog (binS .geq T.t_int false true v (.int .i64 0)) w1 fun t14 =>
  Split t14 (RunQ prog (binS .add T.t_int false true v (.int .i64 1)) w1 fun t17 =>
   RunQ prog (binS .shl T.t_uint64 true false (.int .u64 1) t17) w1 fun t18 =>
   RunQ prog (binS .sub T.t_uint64 false true t18 (.int .u64 1)) w1 fun t19 =>
   RunQ prog (binS .andNot T.t_uint64 false false t12 t19) w1 fun t20 =>
   J t20 w1)
   (J t12 w1))

theorem dom_Set_Next.enter {s v : Value} {w : World} {Q : Value → World → Prop} (h : dom_Set_Next.body s v w Q) : Cal prog F.dom_Set_Next [s, v] w Q :=
  Cal.enter' (P := prog) mixed (show prog.funcs[F.dom_Set_Next]? = some Tryd.f78 from Tryd.func78) rfl (by kernel_rfl) (by kernel_rfl) (by kernel_rfl) (by kernel_rfl) (Eq.mp (by kernel_rfl) h)



/-- slices.rotateRight[int] -/
def slices_rotateRight_int.body (s r : Value) (w : World) (Q : Value → World → Prop) : Prop :=
  RunQ prog (Builtin.len_ #[T.t_sl_int] T.t_int #[s]) w fun t6 =>
  RunQ prog (binS .sub T.t_int false false t6 r) w fun t8 =>
  Cal prog F.slices_rotateLeft_int [s, t8] w fun t9 w1 =>
  Q (.tuple #[]) w1

theorem slices_rotateRight_int.enter {s r : Value} {w : World} {Q : Value → World → Prop} (h : slices_rotateRight_int.body s r w Q) : Cal prog F.slices_rotateRight_int [s, r] w Q :=
  Cal.enter' (P := prog) mixed (show prog.funcs[F.slices_rotateRight_int]? = some Tryd.f80 from Tryd.func80) rfl (by kernel_rfl) (by kernel_rfl) (by kernel_rfl) (by kernel_rfl) (Eq.mp (by kernel_rfl) h)

/-- (pennyweight/shape.Shape).Index -/
def shape_Shape_Index.body (s t : Value) (w : World) (Q : Value → World → Prop) : Prop :=
  RunC prog (Instr.box T.t_shape_Shape s) w fun s_1 w1 =>
  RunQ prog (Builtin.len_ #[T.t_sl_int] T.t_int #[t]) w1 fun t10 =>
  RunQ prog (Instr.fieldAt T.t_shape_Shape s_1 0) w1 fun t11 =>
  RunQ prog (Instr.loadAt T.t_sl_int t11) w1 fun t12 =>
  RunQ prog (Builtin.len_ #[T.t_sl_int] T.t_int #[t12]) w1 fun t13 =>
  RunQ prog (binS .neq T.t_int false false t10 t13) w1 fun t14 =>
  Split t14 (Q (.tuple #[(.int .i64 0), (.int .i64 3)]) w1)
   (RunQ prog (Builtin.len_ #[T.t_sl_int] T.t_int #[t]) w1 fun t16 =>
  Loop4 (.int .i64 0) (.int .i64 0) (.int .i64 0) (.int .i64 0) w1 fun t4 t5 n t17 w2 k =>
    RunQ prog (binS .lss T.t_int false false t17 t16) w2 fun t18 =>
    Split t18 (RunQ prog (Instr.indexAt T.t_sl_int t t17) w2 fun t20 =>
    RunQ prog (Instr.loadAt T.t_int t20) w2 fun t21 =>
    JoinC (α := Value → World → Prop) (fun (t32 : Value) (w3 : World) =>
      Split t32 (Q (.tuple #[(.int .i64 0), (.int .i64 3)]) w3)
       (RunQ prog (Instr.fieldAt T.t_shape_Shape s_1 0) w3 fun t34 =>
    RunQ prog (Instr.loadAt T.t_sl_int t34) w3 fun t35 =>
    RunQ prog (Instr.indexAt T.t_sl_int t35 t17) w3 fun t37 =>
    RunQ prog (Instr.loadAt T.t_int t37) w3 fun t38 =>
    RunQ prog (binS .mul T.t_int false false n t38) w3 fun t39 =>
    RunQ prog (binS .add T.t_int false false t39 t21) w3 fun t41 =>
    RunQ prog (binS .add T.t_int false true t17 (.int .i64 1)) w3 fun t42 =>
    k t4 t5 t41 t42 w3)) fun J =>
    RunQ prog (binS .lss T.t_int false true t21 (.int .i64 0)) w2 fun t23 =>
    Split t23 (J (.bool true) w2)
     (RunQ prog (Instr.fieldAt T.t_shape_Shape s_1 0) w2 fun t26 =>
    RunQ prog (Instr.loadAt T.t_sl_int t26) w2 fun t27 =>
    RunQ prog (Instr.indexAt T.t_sl_int t27 t17) w2 fun t29 =>
    RunQ prog (Instr.loadAt T.t_int t29) w2 fun t30 =>
    RunQ prog (binS .geq T.t_int false false t21 t30) w2 fun t31 =>
    J t31 w2))
     (Q (.tuple #[n, (.int .i64 0)]) w2))

theorem shape_Shape_Index.enter {s t : Value} {w : World} {Q : Value → World → Prop} (h : shape_Shape_Index.body s t w Q) : Cal prog F.shape_Shape_Index [s, t] w Q :=
  Cal.enter' (P := prog) mixed (show prog.funcs[F.shape_Shape_Index]? = some Tryd.f81 from Tryd.func81) rfl (by kernel_rfl) (by kernel_rfl) (by kernel_rfl) (by kernel_rfl) (Eq.mp (by kernel_rfl) h)

/-- pennyweight/cost.Right -/
def cost_Right.body (k : Value) (w : World) (Q : Value → World → Prop) : Prop :=
  JoinC (α := Value → World → Prop) (fun (t2 : Value) (w1 : World) =>
    Q t2 w1) fun J =>
  RunQ prog (binS .geq T.t_int64 false true k (.int .i64 1)) w fun t4 =>
  Split t4 (RunQ prog (binS .leq T.t_int64 false true k (.int .i64 2147483648)) w fun t7 =>
  J t7 w)
   (J (.bool false) w)

theorem cost_Right.enter {k : Value} {w : World} {Q : Value → World → Prop} (h : cost_Right.body k w Q) : Cal prog F.cost_Right [k] w Q :=
  Cal.enter' (P := prog) mixed (show prog.funcs[F.cost_Right]? = some Tryd.f82 from Tryd.func82) rfl (by kernel_rfl) (by kernel_rfl) (by kernel_rfl) (by kernel_rfl) (Eq.mp (by kernel_rfl) h)

/-- slices.Collect[int] -/
def slices_Collect_int.body (seq : Value) (w : World) (Q : Value → World → Prop) : Prop :=
  Cal prog F.slices_AppendSeq_int_int [(.slice none 0 0), seq] w fun t4 w1 =>
  Q t4 w1

theorem slices_Collect_int.enter {seq : Value} {w : World} {Q : Value → World → Prop} (h : slices_Collect_int.body seq w Q) : Cal prog F.slices_Collect_int [seq] w Q :=
  Cal.enter' (P := prog) mixed (show prog.funcs[F.slices_Collect_int]? = some Tryd.f83 from Tryd.func83) rfl (by kernel_rfl) (by kernel_rfl) (by kernel_rfl) (by kernel_rfl) (Eq.mp (by kernel_rfl) h)

/-- slices.Sort[[]int,int] -/
def slices_Sort_int_int.body (x : Value) (w : World) (Q : Value → World → Prop) : Prop :=
  RunQ prog (Builtin.len_ #[T.t_sl_int] T.t_int #[x]) w fun t4 =>
  RunQ prog (convert T.t_int T.t_uint t4) w fun t8 =>
  Cal prog F.math_bits_Len [t8] w fun t9 w1 =>
  Cal prog F.slices_pdqsortOrdered_int [x, (.int .i64 0), t4, t9] w1 fun t10 w2 =>
  Q (.tuple #[]) w2

theorem slices_Sort_int_int.enter {x : Value} {w : World} {Q : Value → World → Prop} (h : slices_Sort_int_int.body x w Q) : Cal prog F.slices_Sort_int_int [x] w Q :=
  Cal.enter' (P := prog) mixed (show prog.funcs[F.slices_Sort_int_int]? = some Tryd.f84 from Tryd.func84) rfl (by kernel_rfl) (by kernel_rfl) (by kernel_rfl) (by kernel_rfl) (Eq.mp (by kernel_rfl) h)

/-- slices.Values[[]int,int]$1 -/
def slices_Values_int_int__c1.body (yield t1 : Value) (w : World) (Q : Value → World → Prop) : Prop :=
  RunQ prog (Instr.loadAt T.t_sl_int t1) w fun t5 =>
  RunQ prog (Builtin.len_ #[T.t_sl_int] T.t_int #[t5]) w fun t6 =>
  Loop1 (.int .i64 0) w fun t7 w1 k =>
    RunQ prog (binS .lss T.t_int false false t7 t6) w1 fun t8 =>
    Split t8 (RunQ prog (Instr.indexAt T.t_sl_int t5 t7) w1 fun t9 =>
    RunQ prog (Instr.loadAt T.t_int t9) w1 fun t10 =>
    CalV prog true yield [t10] w1 fun t13 w2 =>
    RunQ prog (Op.unary .not t13) w2 fun t14 =>
    Split t14 (Q (.tuple #[]) w2)
     (RunQ prog (binS .add T.t_int false true t7 (.int .i64 1)) w2 fun t15 =>
    k t15 w2))
     (Q (.tuple #[]) w1)

theorem slices_Values_int_int__c1.enter {yield t1 : Value} {w : World} {Q : Value → World → Prop} (h : slices_Values_int_int__c1.body yield t1 w Q) : CalF prog F.slices_Values_int_int__c1 [yield, t1] w Q :=
  CalF.enter (P := prog) mixed (show prog.funcs[F.slices_Values_int_int__c1]? = some Tryd.f85 from Tryd.func85) rfl (by kernel_rfl) (by kernel_rfl) (by kernel_rfl) (Eq.mp (by kernel_rfl) h)

theorem slices_Values_int_int__c1.enters : Enters prog F.slices_Values_int_int__c1 :=
  Enters.of prog (show prog.funcs[F.slices_Values_int_int__c1]? = some Tryd.f85 from Tryd.func85) rfl (by kernel_rfl)

/-- slices.Grow[[]int,int] -/
def slices_Grow_int_int.body (s n : Value) (w : World) (Q : Value → World → Prop) : Prop :=
  JoinC (α := World → Prop) (fun (w1 : World) =>
    JoinC (α := Value → World → Prop) (fun (s_1 : Value) (w2 : World) =>
      Q s_1 w2) fun J_1 =>
    RunQ prog (Builtin.cap_ #[T.t_sl_int] T.t_int #[s]) w1 fun t10 =>
    RunQ prog (Builtin.len_ #[T.t_sl_int] T.t_int #[s]) w1 fun t12 =>
    RunQ prog (binS .sub T.t_int false false t10 t12) w1 fun t13 =>
    RunQ prog (binS .sub T.t_int false false n t13) w1 fun t14 =>
    RunQ prog (binS .gtr T.t_int false true t14 (.int .i64 0)) w1 fun t16 =>
    Split t16 (RunQ prog (Builtin.cap_ #[T.t_sl_int] T.t_int #[s]) w1 fun t19 =>
     RunQ prog (Instr.sliceAt T.t_sl_int s none (some t19) none) w1 fun t20 =>
     RunC prog (Builtin.append_ #[T.t_sl_int, T.t_int] T.t_sl_int #[t20, t14]) w1 fun t22 w3 =>
     RunQ prog (Builtin.len_ #[T.t_sl_int] T.t_int #[s]) w3 fun t24 =>
     RunQ prog (Instr.sliceAt T.t_sl_int t22 none (some t24) none) w3 fun t25 =>
     J_1 t25 w3)
     (J_1 s w1)) fun J =>
  RunQ prog (binS .lss T.t_int false true n (.int .i64 0)) w fun t6 =>
  Split t6 (RunQ prog (Instr.makeInterface T.t_string (.string ⟨#[99, 97, 110, 110, 111, 116, 32, 98, 101, 32, 110, 101, 103, 97, 116, 105, 118, 101]⟩)) w fun t7 =>
   False)
   (J w)

theorem slices_Grow_int_int.enter {s n : Value} {w : World} {Q : Value → World → Prop} (h : slices_Grow_int_int.body s n w Q) : Cal prog F.slices_Grow_int_int [s, n] w Q :=
  Cal.enter' (P := prog) mixed (show prog.funcs[F.slices_Grow_int_int]? = some Tryd.f86 from Tryd.func86) rfl (by kernel_rfl) (by kernel_rfl) (by kernel_rfl) (by kernel_rfl) (Eq.mp (by kernel_rfl) h)

/-- pennyweight/shape.New$1 -/
def shape_New_c1.body (n : Value) (w : World) (Q : Value → World → Prop) : Prop :=
  JoinC (α := Value → World → Prop) (fun (t2 : Value) (w1 : World) =>
    Q t2 w1) fun J =>
  RunQ prog (binS .lss T.t_int false true n (.int .i64 1)) w fun t4 =>
  Split t4 (J (.bool true) w)
   (RunQ prog (binS .gtr T.t_int false true n (.int .i64 32)) w fun t7 =>
  J t7 w)

theorem shape_New_c1.enter {n : Value} {w : World} {Q : Value → World → Prop} (h : shape_New_c1.body n w Q) : Cal prog F.shape_New_c1 [n] w Q :=
  Cal.enter' (P := prog) mixed (show prog.funcs[F.shape_New_c1]? = some Tryd.f87 from Tryd.func87) rfl (by kernel_rfl) (by kernel_rfl) (by kernel_rfl) (by kernel_rfl) (Eq.mp (by kernel_rfl) h)

/-- slices.ContainsFunc[[]int,int] -/
def slices_ContainsFunc_int_int.body (s f : Value) (w : World) (Q : Value → World → Prop) : Prop :=
  Cal prog F.slices_IndexFunc_int_int [s, f] w fun t7 w1 =>
  RunQ prog (binS .geq T.t_int false true t7 (.int .i64 0)) w1 fun t8 =>
  Q t8 w1

theorem slices_ContainsFunc_int_int.enter {s f : Value} {w : World} {Q : Value → World → Prop} (h : slices_ContainsFunc_int_int.body s f w Q) : Cal prog F.slices_ContainsFunc_int_int [s, f] w Q :=
  Cal.enter' (P := prog) mixed (show prog.funcs[F.slices_ContainsFunc_int_int]? = some Tryd.f88 from Tryd.func88) rfl (by kernel_rfl) (by kernel_rfl) (by kernel_rfl) (by kernel_rfl) (Eq.mp (by kernel_rfl) h)

/-- math/bits.Mul32 -/
def math_bits_Mul32.body (x y : Value) (w : World) (Q : Value → World → Prop) : Prop :=
  RunQ prog (convert T.t_uint32 T.t_uint64 x) w fun t8 =>
  RunQ prog (convert T.t_uint32 T.t_uint64 y) w fun t10 =>
  RunQ prog (binS .mul T.t_uint64 false false t8 t10) w fun t11 =>
  RunQ prog (binS .shr T.t_uint64 false true t11 (.int .u64 32)) w fun t13 =>
  RunQ prog (convert T.t_uint64 T.t_uint32 t13) w fun t14 =>
  RunQ prog (convert T.t_uint64 T.t_uint32 t11) w fun t16 =>
  Q (.tuple #[t14, t16]) w

theorem math_bits_Mul32.enter {x y : Value} {w : World} {Q : Value → World → Prop} (h : math_bits_Mul32.body x y w Q) : Cal prog F.math_bits_Mul32 [x, y] w Q :=
  Cal.enter' (P := prog) mixed (show prog.funcs[F.math_bits_Mul32]? = some Tryd.f89 from Tryd.func89) rfl (by kernel_rfl) (by kernel_rfl) (by kernel_rfl) (by kernel_rfl) (Eq.mp (by kernel_rfl) h)

/-- math/bits.Mul64 -/
def math_bits_Mul64.body (x y : Value) (w : World) (Q : Value → World → Prop) : Prop :=
  RunQ prog (binS .and T.t_uint64 false true x (.int .u64 4294967295)) w fun t15 =>
  RunQ prog (binS .shr T.t_uint64 false true x (.int .u64 32)) w fun t17 =>
  RunQ prog (binS .and T.t_uint64 false true y (.int .u64 4294967295)) w fun t19 =>
  RunQ prog (binS .shr T.t_uint64 false true y (.int .u64 32)) w fun t21 =>
  RunQ prog (binS .mul T.t_uint64 false false t15 t19) w fun t24 =>
  RunQ prog (binS .mul T.t_uint64 false false t17 t19) w fun t27 =>
  RunQ prog (binS .shr T.t_uint64 false true t24 (.int .u64 32)) w fun t29 =>
  RunQ prog (binS .add T.t_uint64 false false t27 t29) w fun t30 =>
  RunQ prog (binS .and T.t_uint64 false true t30 (.int .u64 4294967295)) w fun t32 =>
  RunQ prog (binS .shr T.t_uint64 false true t30 (.int .u64 32)) w fun t34 =>
  RunQ prog (binS .mul T.t_uint64 false false t15 t21) w fun t38 =>
  RunQ prog (binS .add T.t_uint64 false false t32 t38) w fun t39 =>
  RunQ prog (binS .mul T.t_uint64 false false t17 t21) w fun t42 =>
  RunQ prog (binS .add T.t_uint64 false false t42 t34) w fun t44 =>
  RunQ prog (binS .shr T.t_uint64 false true t39 (.int .u64 32)) w fun t46 =>
  RunQ prog (binS .add T.t_uint64 false false t44 t46) w fun t47 =>
  RunQ prog (binS .mul T.t_uint64 false false x y) w fun t50 =>
  Q (.tuple #[t47, t50]) w

theorem math_bits_Mul64.enter {x y : Value} {w : World} {Q : Value → World → Prop} (h : math_bits_Mul64.body x y w Q) : Cal prog F.math_bits_Mul64 [x, y] w Q :=
  Cal.enter' (P := prog) mixed (show prog.funcs[F.math_bits_Mul64]? = some Tryd.f90 from Tryd.func90) rfl (by kernel_rfl) (by kernel_rfl) (by kernel_rfl) (by kernel_rfl) (Eq.mp (by kernel_rfl) h)

/-- (pennyweight/shape.Shape).Step -/
def shape_Shape_Step.body (s i : Value) (w : World) (Q : Value → World → Prop) : Prop :=
  RunC prog (Instr.box T.t_shape_Shape s) w fun s_1 w1 =>
  JoinC (α := Value → World → Prop) (fun (t13 : Value) (w2 : World) =>
    Split t13 (Q (.int .i64 0) w2)
     (RunQ prog (Instr.fieldAt T.t_shape_Shape s_1 0) w2 fun t14 =>
  RunQ prog (Instr.loadAt T.t_sl_int t14) w2 fun t15 =>
  RunQ prog (binS .add T.t_int false true i (.int .i64 1)) w2 fun t17 =>
  RunQ prog (Instr.sliceAt T.t_sl_int t15 (some t17) none none) w2 fun t18 =>
  RunQ prog (Instr.build T.t_shape_Shape #[(0, t18)]) w2 fun t19 =>
  Cal prog F.shape_Shape_Count [t19] w2 fun t20 w3 =>
  Q t20 w3)) fun J =>
  RunQ prog (binS .lss T.t_int false true i (.int .i64 0)) w1 fun t6 =>
  Split t6 (J (.bool true) w1)
   (RunQ prog (Instr.fieldAt T.t_shape_Shape s_1 0) w1 fun t9 =>
  RunQ prog (Instr.loadAt T.t_sl_int t9) w1 fun t10 =>
  RunQ prog (Builtin.len_ #[T.t_sl_int] T.t_int #[t10]) w1 fun t11 =>
  RunQ prog (binS .geq T.t_int false false i t11) w1 fun t12 =>
  J t12 w1)

theorem shape_Shape_Step.enter {s i : Value} {w : World} {Q : Value → World → Prop} (h : shape_Shape_Step.body s i w Q) : Cal prog F.shape_Shape_Step [s, i] w Q :=
  Cal.enter' (P := prog) mixed (show prog.funcs[F.shape_Shape_Step]? = some Tryd.f91 from Tryd.func91) rfl (by kernel_rfl) (by kernel_rfl) (by kernel_rfl) (by kernel_rfl) (Eq.mp (by kernel_rfl) h)

/-- math/bits.TrailingZeros64 -/
def math_bits_TrailingZeros64.body (x : Value) (w : World) (Q : Value → World → Prop) : Prop :=
  RunQ prog (binS .eql T.t_uint64 false true x (.int .u64 0)) w fun t4 =>
  Split t4 (Q (.int .i64 64) w)
   (RunQ prog (Op.unary .neg x) w fun t7 =>
  RunQ prog (binS .and T.t_uint64 false false x t7) w fun t8 =>
  RunQ prog (binS .mul T.t_uint64 false true t8 (.int .u64 285870213051353865)) w fun t9 =>
  RunQ prog (binS .shr T.t_uint64 false true t9 (.int .u64 58)) w fun t10 =>
  RunQ prog (Instr.indexAt T.t_arr64_uint8 (.pointer (some ⟨0, 0, none⟩)) t10) w fun t11 =>
  RunQ prog (Instr.loadAt T.t_uint8 t11) w fun t12 =>
  RunQ prog (convert T.t_uint8 T.t_int t12) w fun t13 =>
  Q t13 w)

theorem math_bits_TrailingZeros64.enter {x : Value} {w : World} {Q : Value → World → Prop} (h : math_bits_TrailingZeros64.body x w Q) : Cal prog F.math_bits_TrailingZeros64 [x] w Q :=
  Cal.enter' (P := prog) mixed (show prog.funcs[F.math_bits_TrailingZeros64]? = some Tryd.f92 from Tryd.func92) rfl (by kernel_rfl) (by kernel_rfl) (by kernel_rfl) (by kernel_rfl) (Eq.mp (by kernel_rfl) h)

/-- slices.rotateLeft[int] -/
def slices_rotateLeft_int.body (s r : Value) (w : World) (Q : Value → World → Prop) : Prop :=
  RunQ prog (Instr.sliceAt T.t_sl_int s none (some r) none) w fun t6 =>
  Cal prog F.slices_Reverse_int_int [t6] w fun t7 w1 =>
  RunQ prog (Instr.sliceAt T.t_sl_int s (some r) none none) w1 fun t10 =>
  Cal prog F.slices_Reverse_int_int [t10] w1 fun t11 w2 =>
  Cal prog F.slices_Reverse_int_int [s] w2 fun t13 w3 =>
  Q (.tuple #[]) w3

theorem slices_rotateLeft_int.enter {s r : Value} {w : World} {Q : Value → World → Prop} (h : slices_rotateLeft_int.body s r w Q) : Cal prog F.slices_rotateLeft_int [s, r] w Q :=
  Cal.enter' (P := prog) mixed (show prog.funcs[F.slices_rotateLeft_int]? = some Tryd.f93 from Tryd.func93) rfl (by kernel_rfl) (by kernel_rfl) (by kernel_rfl) (by kernel_rfl) (Eq.mp (by kernel_rfl) h)

/-- slices.AppendSeq[[]int,int] -/
def slices_AppendSeq_int_int.body (s seq : Value) (w : World) (Q : Value → World → Prop) : Prop :=
  RunC prog (Instr.box T.t_sl_int s) w fun s_1 w1 =>
  Range1 prog seq w1 (fun t7 w2 k =>
    Again w2 fun w3 =>
    RunQ prog (Instr.loadAt T.t_sl_int s_1) w3 fun t8 =>
    RunC prog (Instr.buildSlice T.t_sl_int 1 #[(0, t7)]) w3 fun t10 w4 =>
    RunC prog (Builtin.append_ #[T.t_sl_int, T.t_sl_int] T.t_sl_int #[t8, t10]) w4 fun t11 w5 =>
    RunC prog (Instr.storeAt T.t_sl_int s_1 t11) w5 fun (_ : Unit) w6 =>
    k .normal w6)
   (fun w7 =>
    RunQ prog (Instr.loadAt T.t_sl_int s_1) w7 fun t12 =>
  Again w7 fun w8 => Q t12 w8)
   (fun _ => False)
   []

theorem slices_AppendSeq_int_int.enter {s seq : Value} {w : World} {Q : Value → World → Prop} (h : slices_AppendSeq_int_int.body s seq w Q) : Cal prog F.slices_AppendSeq_int_int [s, seq] w Q :=
  Cal.enter (P := prog) mixed (show prog.funcs[F.slices_AppendSeq_int_int]? = some Tryd.f94 from Tryd.func94) rfl (by kernel_rfl) (by kernel_rfl) (by kernel_rfl) (Eq.mp (by kernel_rfl) h)

/-- slices.pdqsortOrdered[int] -/
def slices_pdqsortOrdered_int.body (data a b limit : Value) (w : World) (Q : Value → World → Prop) : Prop :=
  Loop5 a b limit (.bool true) (.bool true) w fun a_1 b_1 limit_1 wasBalanced wasPartitioned w1 k =>
    RunQ prog (binS .sub T.t_int false false b_1 a_1) w1 fun t21 =>
    RunQ prog (binS .leq T.t_int false true t21 (.int .i64 12)) w1 fun t23 =>
    Split t23 (Cal prog F.slices_insertionSortOrdered_int [data, a_1, b_1] w1 fun t27 w2 =>
     Q (.tuple #[]) w2)
     (RunQ prog (binS .eql T.t_int false true limit_1 (.int .i64 0)) w1 fun t29 =>
    Split t29 (Cal prog F.slices_heapSortOrdered_int [data, a_1, b_1] w1 fun t33 w3 =>
     Q (.tuple #[]) w3)
     (JoinC (α := Value → World → Prop) (fun (limit_2 : Value) (w4 : World) =>
      Cal prog F.slices_choosePivotOrdered_int [data, a_1, b_1] w4 fun t46 w5 =>
      RunQ prog (Instr.extract t46 0) w5 fun t47 =>
      RunQ prog (Instr.extract t46 1) w5 fun t48 =>
      JoinC (α := Value → Value → World → Prop) (fun (pivot hint : Value) (w6 : World) =>
        JoinC (α := World → Prop) (fun (w7 : World) =>
          JoinC (α := Value → World → Prop) (fun (t87 : Value) (w8 : World) =>
            Split t87 (Cal prog F.slices_partitionEqualOrdered_int [data, a_1, b_1, pivot] w8 fun t92 w9 =>
             k t92 b_1 limit_2 wasBalanced wasPartitioned w9)
             (Cal prog F.slices_partitionOrdered_int [data, a_1, b_1, pivot] w8 fun t99 w10 =>
          RunQ prog (Instr.extract t99 0) w10 fun t100 =>
          RunQ prog (Instr.extract t99 1) w10 fun t101 =>
          RunQ prog (binS .sub T.t_int false false t100 a_1) w10 fun t105 =>
          RunQ prog (binS .sub T.t_int false false b_1 t100) w10 fun t108 =>
          RunQ prog (binS .quo T.t_int false true t21 (.int .i64 8)) w10 fun t110 =>
          RunQ prog (binS .lss T.t_int false false t105 t108) w10 fun t113 =>
          Split t113 (RunQ prog (binS .geq T.t_int false false t105 t110) w10 fun t116 =>
           Cal prog F.slices_pdqsortOrdered_int [data, a_1, t100, limit_2] w10 fun t121 w11 =>
           RunQ prog (binS .add T.t_int false true t100 (.int .i64 1)) w11 fun t123 =>
           k t123 b_1 limit_2 t116 t101 w11)
           (RunQ prog (binS .geq T.t_int false false t108 t110) w10 fun t126 =>
           RunQ prog (binS .add T.t_int false true t100 (.int .i64 1)) w10 fun t129 =>
           Cal prog F.slices_pdqsortOrdered_int [data, t129, b_1, limit_2] w10 fun t132 w12 =>
           k a_1 t100 limit_2 t126 t101 w12))) fun J_3 =>
          Drew w7 fun w13 =>
          RunQ prog (binS .gtr T.t_int false true a_1 (.int .i64 0)) w13 fun t74 =>
          Split t74 (RunQ prog (binS .sub T.t_int false true a_1 (.int .i64 1)) w13 fun t78 =>
          RunQ prog (Instr.indexAt T.t_sl_int data t78) w13 fun t79 =>
          RunQ prog (Instr.loadAt T.t_int t79) w13 fun t80 =>
          RunQ prog (Instr.indexAt T.t_sl_int data pivot) w13 fun t83 =>
          RunQ prog (Instr.loadAt T.t_int t83) w13 fun t84 =>
          Cal prog F.cmp_Less_int [t80, t84] w13 fun t85 w14 =>
           RunQ prog (Op.unary .not t85) w14 fun t86 =>
           J_3 t86 w14)
           (J_3 (.bool false) w13)) fun J_2 =>
        JoinC (α := Value → World → Prop) (fun (t68 : Value) (w15 : World) =>
          Split t68 (Cal prog F.slices_partialInsertionSortOrdered_int [data, a_1, b_1] w15 fun t72 w16 =>
           Split t72 (Q (.tuple #[]) w16)
            (J_2 w16))
           (J_2 w15)) fun J_4 =>
        Split wasBalanced (Split wasPartitioned (RunQ prog (binS .eql T.t_slices_sortedHint false true hint (.int .i64 1)) w6 fun t67 =>
        J_4 t67 w6)
         (J_4 (.bool false) w6))
         (J_4 (.bool false) w6)) fun J_1 =>
      RunQ prog (binS .eql T.t_slices_sortedHint false true t48 (.int .i64 2)) w5 fun t50 =>
      Split t50 (Cal prog F.slices_reverseRangeOrdered_int [data, a_1, b_1] w5 fun t54 w17 =>
       RunQ prog (binS .sub T.t_int false true b_1 (.int .i64 1)) w17 fun t56 =>
       RunQ prog (binS .sub T.t_int false false t47 a_1) w17 fun t59 =>
       RunQ prog (binS .sub T.t_int false false t56 t59) w17 fun t60 =>
       J_1 t60 (.int .i64 1) w17)
       (J_1 t47 t48 w5)) fun J =>
    RunQ prog (Op.unary .not wasBalanced) w1 fun t35 =>
    Split t35 (Cal prog F.slices_breakPatternsOrdered_int [data, a_1, b_1] w1 fun t39 w18 =>
     RunQ prog (binS .sub T.t_int false true limit_1 (.int .i64 1)) w18 fun t41 =>
     J t41 w18)
     (J limit_1 w1)))

theorem slices_pdqsortOrdered_int.enter {data a b limit : Value} {w : World} {Q : Value → World → Prop} (h : slices_pdqsortOrdered_int.body data a b limit w Q) : Cal prog F.slices_pdqsortOrdered_int [data, a, b, limit] w Q :=
  Cal.enter' (P := prog) mixed (show prog.funcs[F.slices_pdqsortOrdered_int]? = some Tryd.f95 from Tryd.func95) rfl (by kernel_rfl) (by kernel_rfl) (by kernel_rfl) (by kernel_rfl) (Eq.mp (by kernel_rfl) h)

/-- math/bits.Len -/
def math_bits_Len.body (x : Value) (w : World) (Q : Value → World → Prop) : Prop :=
  Cal prog F.math_bits_Len64 [x] w fun t7 w1 =>
  Q t7 w1

theorem math_bits_Len.enter {x : Value} {w : World} {Q : Value → World → Prop} (h : math_bits_Len.body x w Q) : Cal prog F.math_bits_Len [x] w Q :=
  Cal.enter' (P := prog) mixed (show prog.funcs[F.math_bits_Len]? = some Tryd.f96 from Tryd.func96) rfl (by kernel_rfl) (by kernel_rfl) (by kernel_rfl) (by kernel_rfl) (Eq.mp (by kernel_rfl) h)

/-- slices.IndexFunc[[]int,int] -/
def slices_IndexFunc_int_int.body (s f : Value) (w : World) (Q : Value → World → Prop) : Prop :=
  RunQ prog (Builtin.len_ #[T.t_sl_int] T.t_int #[s]) w fun t7 =>
  Loop2 (.int .i64 0) (.int .i64 0) w fun t4 t8 w1 k =>
    RunQ prog (binS .lss T.t_int false false t8 t7) w1 fun t9 =>
    Split t9 (RunQ prog (Instr.indexAt T.t_sl_int s t8) w1 fun t14 =>
    RunQ prog (Instr.loadAt T.t_int t14) w1 fun t15 =>
    CalV prog false f [t15] w1 fun t16 w2 =>
    Split t16 (Q t8 w2)
     (RunQ prog (binS .add T.t_int false true t8 (.int .i64 1)) w2 fun t18 =>
    k t4 t18 w2))
     (Q (.int .i64 (-1)) w1)

theorem slices_IndexFunc_int_int.enter {s f : Value} {w : World} {Q : Value → World → Prop} (h : slices_IndexFunc_int_int.body s f w Q) : Cal prog F.slices_IndexFunc_int_int [s, f] w Q :=
  Cal.enter' (P := prog) mixed (show prog.funcs[F.slices_IndexFunc_int_int]? = some Tryd.f97 from Tryd.func97) rfl (by kernel_rfl) (by kernel_rfl) (by kernel_rfl) (by kernel_rfl) (Eq.mp (by kernel_rfl) h)

/-- slices.Reverse[[]int,int] -/
def slices_Reverse_int_int.body (s : Value) (w : World) (Q : Value → World → Prop) : Prop :=
  RunQ prog (Builtin.len_ #[T.t_sl_int] T.t_int #[s]) w fun t5 =>
  RunQ prog (binS .sub T.t_int false true t5 (.int .i64 1)) w fun t6 =>
  Loop2 (.int .i64 0) t6 w fun i j w1 k =>
    RunQ prog (binS .lss T.t_int false false i j) w1 fun t9 =>
    Split t9 (Drew w1 fun w2 =>
    RunQ prog (Instr.indexAt T.t_sl_int s j) w2 fun t20 =>
    RunQ prog (Instr.loadAt T.t_int t20) w2 fun t21 =>
    RunQ prog (Instr.indexAt T.t_sl_int s i) w2 fun t24 =>
    RunQ prog (Instr.loadAt T.t_int t24) w2 fun t25 =>
    RunQ prog (Instr.indexAt T.t_sl_int s i) w2 fun t26 =>
    RunC prog (Instr.storeAt T.t_int t26 t21) w2 fun (_ : Unit) w3 =>
     RunQ prog (Instr.indexAt T.t_sl_int s j) w3 fun t27 =>
     RunC prog (Instr.storeAt T.t_int t27 t25) w3 fun (_ : Unit) w4 =>
      RunQ prog (binS .add T.t_int false true i (.int .i64 1)) w4 fun t11 =>
    RunQ prog (binS .sub T.t_int false true j (.int .i64 1)) w4 fun t13 =>
    k t11 t13 w4)
     (Q (.tuple #[]) w1)

theorem slices_Reverse_int_int.enter {s : Value} {w : World} {Q : Value → World → Prop} (h : slices_Reverse_int_int.body s w Q) : Cal prog F.slices_Reverse_int_int [s] w Q :=
  Cal.enter' (P := prog) mixed (show prog.funcs[F.slices_Reverse_int_int]? = some Tryd.f98 from Tryd.func98) rfl (by kernel_rfl) (by kernel_rfl) (by kernel_rfl) (by kernel_rfl) (Eq.mp (by kernel_rfl) h)

/-- slices.insertionSortOrdered[int] -/
def slices_insertionSortOrdered_int.body (data a b : Value) (w : World) (Q : Value → World → Prop) : Prop :=
  RunQ prog (binS .add T.t_int false true a (.int .i64 1)) w fun t9 =>
  Loop1 t9 w fun i w1 k =>
    RunQ prog (binS .lss T.t_int false false i b) w1 fun t12 =>
    Split t12 (Loop1 i w1 fun j w2 k_1 =>
      JoinC (α := Value → World → Prop) (fun (t30 : Value) (w3 : World) =>
        Split t30 (Drew w3 fun w4 =>
      RunQ prog (binS .sub T.t_int false true j (.int .i64 1)) w4 fun t37 =>
      RunQ prog (binS .sub T.t_int false true j (.int .i64 1)) w4 fun t40 =>
      RunQ prog (Instr.indexAt T.t_sl_int data t40) w4 fun t41 =>
      RunQ prog (Instr.loadAt T.t_int t41) w4 fun t42 =>
      RunQ prog (Instr.indexAt T.t_sl_int data j) w4 fun t45 =>
      RunQ prog (Instr.loadAt T.t_int t45) w4 fun t46 =>
      RunQ prog (Instr.indexAt T.t_sl_int data j) w4 fun t47 =>
      RunC prog (Instr.storeAt T.t_int t47 t42) w4 fun (_ : Unit) w5 =>
       (Ext w4 w5 ∨ Stays prog (binS .sub T.t_int false true j (.int .i64 1)) t37 w5 ∧ True) ∧
      RunQ prog (Instr.indexAt T.t_sl_int data t37) w5 fun t48 =>
       RunC prog (Instr.storeAt T.t_int t48 t46) w5 fun (_ : Unit) w6 =>
        RunQ prog (binS .sub T.t_int false true j (.int .i64 1)) w6 fun t32 =>
      k_1 t32 w6)
         (RunQ prog (binS .add T.t_int false true i (.int .i64 1)) w3 fun t14 =>
    k t14 w3)) fun J =>
      Drew w2 fun w7 =>
      RunQ prog (binS .gtr T.t_int false false j a) w7 fun t18 =>
      Split t18 (RunQ prog (Instr.indexAt T.t_sl_int data j) w7 fun t22 =>
      RunQ prog (Instr.loadAt T.t_int t22) w7 fun t23 =>
      RunQ prog (binS .sub T.t_int false true j (.int .i64 1)) w7 fun t26 =>
      RunQ prog (Instr.indexAt T.t_sl_int data t26) w7 fun t27 =>
      RunQ prog (Instr.loadAt T.t_int t27) w7 fun t28 =>
      Cal prog F.cmp_Less_int [t23, t28] w7 fun t29 w8 =>
       J t29 w8)
       (J (.bool false) w7))
     (Q (.tuple #[]) w1)

theorem slices_insertionSortOrdered_int.enter {data a b : Value} {w : World} {Q : Value → World → Prop} (h : slices_insertionSortOrdered_int.body data a b w Q) : Cal prog F.slices_insertionSortOrdered_int [data, a, b] w Q :=
  Cal.enter' (P := prog) mixed (show prog.funcs[F.slices_insertionSortOrdered_int]? = some Tryd.f99 from Tryd.func99) rfl (by kernel_rfl) (by kernel_rfl) (by kernel_rfl) (by kernel_rfl) (Eq.mp (by kernel_rfl) h)

/-- slices.heapSortOrdered[int] -/
def slices_heapSortOrdered_int.body (data a b : Value) (w : World) (Q : Value → World → Prop) : Prop :=
  RunQ prog (binS .sub T.t_int false false b a) w fun t14 =>
  RunQ prog (binS .sub T.t_int false true t14 (.int .i64 1)) w fun t16 =>
  RunQ prog (binS .quo T.t_int false true t16 (.int .i64 2)) w fun t17 =>
  Loop1 t17 w fun i w1 k =>
    RunQ prog (binS .geq T.t_int false true i (.int .i64 0)) w1 fun t19 =>
    Split t19 (Cal prog F.slices_siftDownOrdered_int [data, i, t14, a] w1 fun t26 w2 =>
    RunQ prog (binS .sub T.t_int false true i (.int .i64 1)) w2 fun t21 =>
    k t21 w2)
     (RunQ prog (binS .sub T.t_int false true t14 (.int .i64 1)) w1 fun t28 =>
  Loop1 t28 w1 fun i_1 w3 k_1 =>
    RunQ prog (binS .geq T.t_int false true i_1 (.int .i64 0)) w3 fun t30 =>
    Split t30 (Drew w3 fun w4 =>
    RunQ prog (binS .add T.t_int false false a i_1) w4 fun t38 =>
    RunQ prog (binS .add T.t_int false false a i_1) w4 fun t42 =>
    RunQ prog (Instr.indexAt T.t_sl_int data t42) w4 fun t43 =>
    RunQ prog (Instr.loadAt T.t_int t43) w4 fun t44 =>
    RunQ prog (Instr.indexAt T.t_sl_int data a) w4 fun t47 =>
    RunQ prog (Instr.loadAt T.t_int t47) w4 fun t48 =>
    RunQ prog (Instr.indexAt T.t_sl_int data a) w4 fun t49 =>
    RunC prog (Instr.storeAt T.t_int t49 t44) w4 fun (_ : Unit) w5 =>
     (Ext w4 w5 ∨ Stays prog (binS .add T.t_int false false a i_1) t38 w5 ∧ True) ∧
    RunQ prog (Instr.indexAt T.t_sl_int data t38) w5 fun t50 =>
     RunC prog (Instr.storeAt T.t_int t50 t48) w5 fun (_ : Unit) w6 =>
      Cal prog F.slices_siftDownOrdered_int [data, (.int .i64 0), i_1, a] w6 fun t55 w7 =>
    RunQ prog (binS .sub T.t_int false true i_1 (.int .i64 1)) w7 fun t32 =>
    k_1 t32 w7)
     (Q (.tuple #[]) w3))

theorem slices_heapSortOrdered_int.enter {data a b : Value} {w : World} {Q : Value → World → Prop} (h : slices_heapSortOrdered_int.body data a b w Q) : Cal prog F.slices_heapSortOrdered_int [data, a, b] w Q :=
  Cal.enter' (P := prog) mixed (show prog.funcs[F.slices_heapSortOrdered_int]? = some Tryd.f100 from Tryd.func100) rfl (by kernel_rfl) (by kernel_rfl) (by kernel_rfl) (by kernel_rfl) (Eq.mp (by kernel_rfl) h)

/-- slices.breakPatternsOrdered[int] -/
def slices_breakPatternsOrdered_int.body (data a b : Value) (w : World) (Q : Value → World → Prop) : Prop :=
  RunQ prog (binS .sub T.t_int false false b a) w fun t13 =>
  RunQ prog (binS .geq T.t_int false true t13 (.int .i64 8)) w fun t15 =>
  Split t15 (RunQ prog (convert T.t_int T.t_slices_xorshift t13) w fun t17 =>
   RunC prog (Instr.alloc T.t_slices_xorshift true (.tuple #[])) w fun random w1 =>
   RunC prog (Instr.storeAt T.t_slices_xorshift random t17) w1 fun (_ : Unit) w2 =>
   Cal prog F.slices_nextPowerOfTwo [t13] w2 fun t19 w3 =>
   RunQ prog (binS .quo T.t_int false true t13 (.int .i64 4)) w3 fun t22 =>
   RunQ prog (binS .mul T.t_int false true t22 (.int .i64 2)) w3 fun t23 =>
   RunQ prog (binS .add T.t_int false false a t23) w3 fun t24 =>
   RunQ prog (binS .sub T.t_int false true t24 (.int .i64 1)) w3 fun t25 =>
   Loop1 t25 w3 fun idx w4 k =>
     RunQ prog (binS .quo T.t_int false true t13 (.int .i64 4)) w4 fun t29 =>
     RunQ prog (binS .mul T.t_int false true t29 (.int .i64 2)) w4 fun t30 =>
     RunQ prog (binS .add T.t_int false false a t30) w4 fun t31 =>
     RunQ prog (binS .add T.t_int false true t31 (.int .i64 1)) w4 fun t32 =>
     RunQ prog (binS .leq T.t_int false false idx t32) w4 fun t33 =>
     Split t33 (Cal prog F.P_slices_xorshift_Next [random] w4 fun t36 w5 =>
     RunQ prog (binS .sub T.t_uint false true t19 (.int .u64 1)) w5 fun t38 =>
     RunQ prog (binS .and T.t_uint false false t36 t38) w5 fun t39 =>
     RunQ prog (convert T.t_uint T.t_int t39) w5 fun t40 =>
     JoinC (α := Value → World → Prop) (fun (other : Value) (w6 : World) =>
       Drew w6 fun w7 =>
       RunQ prog (binS .add T.t_int false false a other) w7 fun t52 =>
       RunQ prog (binS .add T.t_int false false a other) w7 fun t56 =>
       RunQ prog (Instr.indexAt T.t_sl_int data t56) w7 fun t57 =>
       RunQ prog (Instr.loadAt T.t_int t57) w7 fun t58 =>
       RunQ prog (Instr.indexAt T.t_sl_int data idx) w7 fun t61 =>
       RunQ prog (Instr.loadAt T.t_int t61) w7 fun t62 =>
       RunQ prog (Instr.indexAt T.t_sl_int data idx) w7 fun t63 =>
       RunC prog (Instr.storeAt T.t_int t63 t58) w7 fun (_ : Unit) w8 =>
        (Ext w7 w8 ∨ Stays prog (binS .add T.t_int false false a other) t52 w8 ∧ True) ∧
       RunQ prog (Instr.indexAt T.t_sl_int data t52) w8 fun t64 =>
        RunC prog (Instr.storeAt T.t_int t64 t62) w8 fun (_ : Unit) w9 =>
         RunQ prog (binS .add T.t_int false true idx (.int .i64 1)) w9 fun t35 =>
     k t35 w9) fun J =>
     RunQ prog (binS .geq T.t_int false false t40 t13) w5 fun t43 =>
     Split t43 (RunQ prog (binS .sub T.t_int false false t40 t13) w5 fun t46 =>
      J t46 w5)
      (J t40 w5))
      (Q (.tuple #[]) w4))
   (Q (.tuple #[]) w)

theorem slices_breakPatternsOrdered_int.enter {data a b : Value} {w : World} {Q : Value → World → Prop} (h : slices_breakPatternsOrdered_int.body data a b w Q) : Cal prog F.slices_breakPatternsOrdered_int [data, a, b] w Q :=
  Cal.enter' (P := prog) mixed (show prog.funcs[F.slices_breakPatternsOrdered_int]? = some Tryd.f101 from Tryd.func101) rfl (by kernel_rfl) (by kernel_rfl) (by kernel_rfl) (by kernel_rfl) (Eq.mp (by kernel_rfl) h)

/-- slices.choosePivotOrdered[int] -/
def slices_choosePivotOrdered_int.body (data a b : Value) (w : World) (Q : Value → World → Prop) : Prop :=
  RunQ prog (binS .sub T.t_int false false b a) w fun t15 =>
  RunC prog (Instr.alloc T.t_int true (.tuple #[])) w fun swaps w1 =>
  RunQ prog (binS .quo T.t_int false true t15 (.int .i64 4)) w1 fun t18 =>
  RunQ prog (binS .mul T.t_int false true t18 (.int .i64 1)) w1 fun t19 =>
  RunQ prog (binS .add T.t_int false false a t19) w1 fun t20 =>
  RunQ prog (binS .quo T.t_int false true t15 (.int .i64 4)) w1 fun t23 =>
  RunQ prog (binS .mul T.t_int false true t23 (.int .i64 2)) w1 fun t24 =>
  RunQ prog (binS .add T.t_int false false a t24) w1 fun t25 =>
  RunQ prog (binS .quo T.t_int false true t15 (.int .i64 4)) w1 fun t28 =>
  RunQ prog (binS .mul T.t_int false true t28 (.int .i64 3)) w1 fun t29 =>
  RunQ prog (binS .add T.t_int false false a t29) w1 fun t30 =>
  JoinC (α := Value → World → Prop) (fun (j : Value) (w2 : World) =>
    RunQ prog (Instr.loadAt T.t_int swaps) w2 fun t49 =>
    RunQ prog (binS .eql T.t_int false true t49 (.int .i64 0)) w2 fun t52 =>
    Split t52 (Q (.tuple #[j, (.int .i64 1)]) w2)
     (RunQ prog (binS .eql T.t_int false true t49 (.int .i64 12)) w2 fun t55 =>
     Split t55 (Q (.tuple #[j, (.int .i64 2)]) w2)
      (Q (.tuple #[j, (.int .i64 0)]) w2))) fun J =>
  RunQ prog (binS .geq T.t_int false true t15 (.int .i64 8)) w1 fun t32 =>
  Split t32 (JoinC (α := Value → Value → Value → World → Prop) (fun (i j_1 k : Value) (w3 : World) =>
     Cal prog F.slices_medianOrdered_int [data, i, j_1, k, swaps] w3 fun t48 w4 =>
     J t48 w4) fun J_1 =>
   RunQ prog (binS .geq T.t_int false true t15 (.int .i64 50)) w1 fun t34 =>
   Split t34 (Cal prog F.slices_medianAdjacentOrdered_int [data, t20, swaps] w1 fun t37 w5 =>
    Cal prog F.slices_medianAdjacentOrdered_int [data, t25, swaps] w5 fun t40 w6 =>
    Cal prog F.slices_medianAdjacentOrdered_int [data, t30, swaps] w6 fun t43 w7 =>
    J_1 t37 t40 t43 w7)
    (J_1 t20 t25 t30 w1))
   (J t25 w1)

theorem slices_choosePivotOrdered_int.enter {data a b : Value} {w : World} {Q : Value → World → Prop} (h : slices_choosePivotOrdered_int.body data a b w Q) : Cal prog F.slices_choosePivotOrdered_int [data, a, b] w Q :=
  Cal.enter' (P := prog) mixed (show prog.funcs[F.slices_choosePivotOrdered_int]? = some Tryd.f102 from Tryd.func102) rfl (by kernel_rfl) (by kernel_rfl) (by kernel_rfl) (by kernel_rfl) (Eq.mp (by kernel_rfl) h)

/-- slices.reverseRangeOrdered[int] -/
def slices_reverseRangeOrdered_int.body (data a b : Value) (w : World) (Q : Value → World → Prop) : Prop :=
  RunQ prog (binS .sub T.t_int false true b (.int .i64 1)) w fun t10 =>
  Loop2 a t10 w fun i j w1 k =>
    RunQ prog (binS .lss T.t_int false false i j) w1 fun t13 =>
    Split t13 (Drew w1 fun w2 =>
    RunQ prog (Instr.indexAt T.t_sl_int data j) w2 fun t20 =>
    RunQ prog (Instr.loadAt T.t_int t20) w2 fun t21 =>
    RunQ prog (Instr.indexAt T.t_sl_int data i) w2 fun t24 =>
    RunQ prog (Instr.loadAt T.t_int t24) w2 fun t25 =>
    RunQ prog (Instr.indexAt T.t_sl_int data i) w2 fun t26 =>
    RunC prog (Instr.storeAt T.t_int t26 t21) w2 fun (_ : Unit) w3 =>
     RunQ prog (Instr.indexAt T.t_sl_int data j) w3 fun t27 =>
     RunC prog (Instr.storeAt T.t_int t27 t25) w3 fun (_ : Unit) w4 =>
      RunQ prog (binS .add T.t_int false true i (.int .i64 1)) w4 fun t29 =>
    RunQ prog (binS .sub T.t_int false true j (.int .i64 1)) w4 fun t31 =>
    k t29 t31 w4)
     (Q (.tuple #[]) w1)

theorem slices_reverseRangeOrdered_int.enter {data a b : Value} {w : World} {Q : Value → World → Prop} (h : slices_reverseRangeOrdered_int.body data a b w Q) : Cal prog F.slices_reverseRangeOrdered_int [data, a, b] w Q :=
  Cal.enter' (P := prog) mixed (show prog.funcs[F.slices_reverseRangeOrdered_int]? = some Tryd.f103 from Tryd.func103) rfl (by kernel_rfl) (by kernel_rfl) (by kernel_rfl) (by kernel_rfl) (Eq.mp (by kernel_rfl) h)

/-- slices.partialInsertionSortOrdered[int] -/
def slices_partialInsertionSortOrdered_int.body (data a b : Value) (w : World) (Q : Value → World → Prop) : Prop :=
  RunQ prog (binS .add T.t_int false true a (.int .i64 1)) w fun t12 =>
  Loop3 (.bool false) t12 (.int .i64 0) w fun t6 i j w1 k =>
    RunQ prog (binS .lss T.t_int false true j (.int .i64 5)) w1 fun t14 =>
    Split t14 (JoinC (α := Value → Value → World → Prop) (fun (t6_1 i_1 : Value) (w2 : World) =>
      RunQ prog (binS .add T.t_int false true j (.int .i64 1)) w2 fun t16 =>
      k t6_1 i_1 t16 w2) fun J =>
    Loop1 i w1 fun i_2 w3 k_1 =>
      JoinC (α := Value → World → Prop) (fun (t32 : Value) (w4 : World) =>
        Split t32 (RunQ prog (binS .add T.t_int false true i_2 (.int .i64 1)) w4 fun t34 =>
      k_1 t34 w4)
         (RunQ prog (binS .eql T.t_int false false i_2 b) w4 fun t37 =>
    Split t37 (Q (.bool true) w4)
     (RunQ prog (binS .sub T.t_int false false b a) w4 fun t40 =>
    RunQ prog (binS .lss T.t_int false true t40 (.int .i64 50)) w4 fun t41 =>
    Split t41 (Q (.bool false) w4)
     (Drew w4 fun w5 =>
    RunQ prog (binS .sub T.t_int false true i_2 (.int .i64 1)) w5 fun t46 =>
    RunQ prog (binS .sub T.t_int false true i_2 (.int .i64 1)) w5 fun t49 =>
    RunQ prog (Instr.indexAt T.t_sl_int data t49) w5 fun t50 =>
    RunQ prog (Instr.loadAt T.t_int t50) w5 fun t51 =>
    RunQ prog (Instr.indexAt T.t_sl_int data i_2) w5 fun t54 =>
    RunQ prog (Instr.loadAt T.t_int t54) w5 fun t55 =>
    RunQ prog (Instr.indexAt T.t_sl_int data i_2) w5 fun t56 =>
    RunC prog (Instr.storeAt T.t_int t56 t51) w5 fun (_ : Unit) w6 =>
     (Ext w5 w6 ∨ Stays prog (binS .sub T.t_int false true i_2 (.int .i64 1)) t46 w6 ∧ True) ∧
    RunQ prog (Instr.indexAt T.t_sl_int data t46) w6 fun t57 =>
     RunC prog (Instr.storeAt T.t_int t57 t55) w6 fun (_ : Unit) w7 =>
      JoinC (α := World → Prop) (fun (w8 : World) =>
      RunQ prog (binS .sub T.t_int false false b i_2) w8 fun t97 =>
      RunQ prog (binS .geq T.t_int false true t97 (.int .i64 2)) w8 fun t98 =>
      Split t98 (RunQ prog (binS .add T.t_int false true i_2 (.int .i64 1)) w8 fun t100 =>
       Loop1 t100 w8 fun j_1 w9 k_2 =>
         RunQ prog (binS .lss T.t_int false false j_1 b) w9 fun t103 =>
         Split t103 (Drew w9 fun w10 =>
         RunQ prog (Instr.indexAt T.t_sl_int data j_1) w10 fun t108 =>
         RunQ prog (Instr.loadAt T.t_int t108) w10 fun t109 =>
         RunQ prog (binS .sub T.t_int false true j_1 (.int .i64 1)) w10 fun t112 =>
         RunQ prog (Instr.indexAt T.t_sl_int data t112) w10 fun t113 =>
         RunQ prog (Instr.loadAt T.t_int t113) w10 fun t114 =>
         Cal prog F.cmp_Less_int [t109, t114] w10 fun t115 w11 =>
          RunQ prog (Op.unary .not t115) w11 fun t116 =>
          Split t116 (J t6 i_2 w11)
          (Drew w11 fun w12 =>
         RunQ prog (binS .sub T.t_int false true j_1 (.int .i64 1)) w12 fun t121 =>
         RunQ prog (binS .sub T.t_int false true j_1 (.int .i64 1)) w12 fun t124 =>
         RunQ prog (Instr.indexAt T.t_sl_int data t124) w12 fun t125 =>
         RunQ prog (Instr.loadAt T.t_int t125) w12 fun t126 =>
         RunQ prog (Instr.indexAt T.t_sl_int data j_1) w12 fun t129 =>
         RunQ prog (Instr.loadAt T.t_int t129) w12 fun t130 =>
         RunQ prog (Instr.indexAt T.t_sl_int data j_1) w12 fun t131 =>
         RunC prog (Instr.storeAt T.t_int t131 t126) w12 fun (_ : Unit) w13 =>
          (Ext w12 w13 ∨ Stays prog (binS .sub T.t_int false true j_1 (.int .i64 1)) t121 w13 ∧ True) ∧
         RunQ prog (Instr.indexAt T.t_sl_int data t121) w13 fun t132 =>
          RunC prog (Instr.storeAt T.t_int t132 t130) w13 fun (_ : Unit) w14 =>
           RunQ prog (binS .add T.t_int false true j_1 (.int .i64 1)) w14 fun t105 =>
         k_2 t105 w14))
          (J t6 i_2 w9))
       (J t6 i_2 w8)) fun J_2 =>
    RunQ prog (binS .sub T.t_int false false i_2 a) w7 fun t60 =>
    RunQ prog (binS .geq T.t_int false true t60 (.int .i64 2)) w7 fun t61 =>
    Split t61 (RunQ prog (binS .sub T.t_int false true i_2 (.int .i64 1)) w7 fun t63 =>
     Loop1 t63 w7 fun j_2 w15 k_3 =>
       RunQ prog (binS .geq T.t_int false true j_2 (.int .i64 1)) w15 fun t65 =>
       Split t65 (Drew w15 fun w16 =>
       RunQ prog (Instr.indexAt T.t_sl_int data j_2) w16 fun t70 =>
       RunQ prog (Instr.loadAt T.t_int t70) w16 fun t71 =>
       RunQ prog (binS .sub T.t_int false true j_2 (.int .i64 1)) w16 fun t74 =>
       RunQ prog (Instr.indexAt T.t_sl_int data t74) w16 fun t75 =>
       RunQ prog (Instr.loadAt T.t_int t75) w16 fun t76 =>
       Cal prog F.cmp_Less_int [t71, t76] w16 fun t77 w17 =>
        RunQ prog (Op.unary .not t77) w17 fun t78 =>
        Split t78 (J_2 w17)
        (Drew w17 fun w18 =>
       RunQ prog (binS .sub T.t_int false true j_2 (.int .i64 1)) w18 fun t83 =>
       RunQ prog (binS .sub T.t_int false true j_2 (.int .i64 1)) w18 fun t86 =>
       RunQ prog (Instr.indexAt T.t_sl_int data t86) w18 fun t87 =>
       RunQ prog (Instr.loadAt T.t_int t87) w18 fun t88 =>
       RunQ prog (Instr.indexAt T.t_sl_int data j_2) w18 fun t91 =>
       RunQ prog (Instr.loadAt T.t_int t91) w18 fun t92 =>
       RunQ prog (Instr.indexAt T.t_sl_int data j_2) w18 fun t93 =>
       RunC prog (Instr.storeAt T.t_int t93 t88) w18 fun (_ : Unit) w19 =>
        (Ext w18 w19 ∨ Stays prog (binS .sub T.t_int false true j_2 (.int .i64 1)) t83 w19 ∧ True) ∧
       RunQ prog (Instr.indexAt T.t_sl_int data t83) w19 fun t94 =>
        RunC prog (Instr.storeAt T.t_int t94 t92) w19 fun (_ : Unit) w20 =>
         RunQ prog (binS .sub T.t_int false true j_2 (.int .i64 1)) w20 fun t67 =>
       k_3 t67 w20))
        (J_2 w15))
     (J_2 w7))))) fun J_1 =>
      Drew w3 fun w21 =>
      RunQ prog (binS .lss T.t_int false false i_2 b) w21 fun t19 =>
      Split t19 (RunQ prog (Instr.indexAt T.t_sl_int data i_2) w21 fun t23 =>
      RunQ prog (Instr.loadAt T.t_int t23) w21 fun t24 =>
      RunQ prog (binS .sub T.t_int false true i_2 (.int .i64 1)) w21 fun t27 =>
      RunQ prog (Instr.indexAt T.t_sl_int data t27) w21 fun t28 =>
      RunQ prog (Instr.loadAt T.t_int t28) w21 fun t29 =>
      Cal prog F.cmp_Less_int [t24, t29] w21 fun t30 w22 =>
       RunQ prog (Op.unary .not t30) w22 fun t31 =>
       J_1 t31 w22)
       (J_1 (.bool false) w21))
     (Q (.bool false) w1)

theorem slices_partialInsertionSortOrdered_int.enter {data a b : Value} {w : World} {Q : Value → World → Prop} (h : slices_partialInsertionSortOrdered_int.body data a b w Q) : Cal prog F.slices_partialInsertionSortOrdered_int [data, a, b] w Q :=
  Cal.enter' (P := prog) mixed (show prog.funcs[F.slices_partialInsertionSortOrdered_int]? = some Tryd.f104 from Tryd.func104) rfl (by kernel_rfl) (by kernel_rfl) (by kernel_rfl) (by kernel_rfl) (Eq.mp (by kernel_rfl) h)

/-- cmp.Less[int] -/
def cmp_Less_int.body (x y : Value) (w : World) (Q : Value → World → Prop) : Prop :=
  JoinC (α := Value → World → Prop) (fun (t4 : Value) (w1 : World) =>
    Q t4 w1) fun J =>
  Cal prog F.cmp_isNaN_int [x] w fun t6 w2 =>
  Split t6 (Cal prog F.cmp_isNaN_int [y] w2 fun t9 w3 =>
  RunQ prog (Op.unary .not t9) w3 fun t10 =>
  Split t10 (J (.bool true) w3)
   (RunQ prog (binS .lss T.t_int false false x y) w3 fun t15 =>
  J t15 w3))
   (RunQ prog (binS .lss T.t_int false false x y) w2 fun t15_1 =>
  J t15_1 w2)

theorem cmp_Less_int.enter {x y : Value} {w : World} {Q : Value → World → Prop} (h : cmp_Less_int.body x y w Q) : Cal prog F.cmp_Less_int [x, y] w Q :=
  Cal.enter' (P := prog) mixed (show prog.funcs[F.cmp_Less_int]? = some Tryd.f105 from Tryd.func105) rfl (by kernel_rfl) (by kernel_rfl) (by kernel_rfl) (by kernel_rfl) (Eq.mp (by kernel_rfl) h)

end Go.Proofs.YtahhkeljejfgfaaDoor
