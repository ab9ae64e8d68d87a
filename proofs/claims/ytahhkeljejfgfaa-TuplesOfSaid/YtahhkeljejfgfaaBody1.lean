/- the functions as conditions (by program) -/
import Derived.Test.YtahhkeljejfgfaaNames
namespace Go.Proofs.Ytahhkeljejfgfaa
open Go Go.Vc Go.Proofs Go.Proofs.Try
set_option maxRecDepth 100000
set_option linter.unusedVariables false

/-- pennyweight/shape.New -/
def shape_New.body (sizes : Value) (w : World) (Q : Value → World → Prop) : Prop :=
  RunC prog (Instr.alloc T.t_shape_Shape true (.tuple #[])) w fun t2 w1 =>
  JoinC (α := Value → World → Prop) (fun (t13 : Value) (w2 : World) =>
    Split t13 (RunQ prog (Instr.build T.t_shape_Shape #[]) w2 fun t14 =>
     RunC prog (Instr.storeAt T.t_shape_Shape t2 t14) w2 fun (_ : Unit) w3 =>
     RunQ prog (do loadVar T.t_shape_Shape (← asAddr t2)) w3 fun r =>
  Q (.tuple #[r, (.int .i64 1)]) w3)
     (Cal prog F.slices_Clone_int_int [sizes] w2 fun t16 w4 =>
  RunQ prog (Instr.build T.t_shape_Shape #[(0, t16)]) w4 fun t17 =>
  RunC prog (Instr.alloc T.t_shape_Shape true (.tuple #[])) w4 fun s w5 =>
  RunC prog (Instr.storeAt T.t_shape_Shape s t17) w5 fun (_ : Unit) w6 =>
  RunQ prog (Instr.loadAt T.t_shape_Shape s) w6 fun t18 =>
  Cal prog F.shape_Shape_Count [t18] w6 fun t19 w7 =>
  RunQ prog (binS .gtr T.t_int false true t19 (.int .i64 4096)) w7 fun t20 =>
  Split t20 (RunQ prog (Instr.build T.t_shape_Shape #[]) w7 fun t21 =>
   RunC prog (Instr.storeAt T.t_shape_Shape t2 t21) w7 fun (_ : Unit) w8 =>
   RunQ prog (do loadVar T.t_shape_Shape (← asAddr t2)) w8 fun r_1 =>
  Q (.tuple #[r_1, (.int .i64 5)]) w8)
   (RunQ prog (Instr.loadAt T.t_shape_Shape s) w7 fun t22 =>
  RunC prog (Instr.storeAt T.t_shape_Shape t2 t22) w7 fun (_ : Unit) w9 =>
  RunQ prog (do loadVar T.t_shape_Shape (← asAddr t2)) w9 fun r_2 =>
  Q (.tuple #[r_2, (.int .i64 0)]) w9))) fun J =>
  RunQ prog (Builtin.len_ #[T.t_sl_int] T.t_int #[sizes]) w1 fun t7 =>
  RunQ prog (binS .gtr T.t_int false true t7 (.int .i64 6)) w1 fun t8 =>
  Split t8 (J (.bool true) w1)
   (Cal prog F.slices_ContainsFunc_int_int [sizes, (.func (.func F.shape_New_c1) #[] #[])] w1 fun t12 w10 =>
  J t12 w10)

theorem shape_New.enter {sizes : Value} {w : World} {Q : Value → World → Prop} (h : shape_New.body sizes w Q) : Cal prog F.shape_New [sizes] w Q :=
  Cal.enter' (P := prog) mixed (show prog.funcs[F.shape_New]? = some Try.f52 from Try.func52) rfl (by kernel_rfl) (by kernel_rfl) (by kernel_rfl) (by kernel_rfl) (Eq.mp (by kernel_rfl) h)

/-- slices.Repeat[[]int64,int64] -/
def slices_Repeat_int64_int64.body (x count : Value) (w : World) (Q : Value → World → Prop) : Prop :=
  JoinC (α := World → Prop) (fun (w1 : World) =>
    RunQ prog (Builtin.len_ #[T.t_sl_int64] T.t_int #[x]) w1 fun t14 =>
    RunQ prog (convert T.t_int T.t_uint t14) w1 fun t15 =>
    RunQ prog (convert T.t_int T.t_uint count) w1 fun t17 =>
    Cal prog F.math_bits_Mul [t15, t17] w1 fun t18 w2 =>
    RunQ prog (Instr.extract t18 0) w2 fun t19 =>
    RunQ prog (Instr.extract t18 1) w2 fun t20 =>
    JoinC (α := World → Prop) (fun (w3 : World) =>
      RunQ prog (convert T.t_uint T.t_int t20) w3 fun t29 =>
      RunC prog (Instr.makeSlice T.t_sl_int64 t29 t29) w3 fun t30 w4 =>
      RunC prog (Builtin.copy_ #[T.t_sl_int64, T.t_sl_int64] T.t_int #[t30, x]) w4 fun t33 w5 =>
      Loop1 t33 w5 fun n w6 k =>
        RunQ prog (Builtin.len_ #[T.t_sl_int64] T.t_int #[t30]) w6 fun t36 =>
        RunQ prog (binS .lss T.t_int false false n t36) w6 fun t37 =>
        Split t37 (Drew w6 fun w7 =>
        RunQ prog (Instr.sliceAt T.t_sl_int64 t30 (some n) none none) w7 fun t41 =>
        RunQ prog (Instr.sliceAt T.t_sl_int64 t30 none (some n) none) w7 fun t44 =>
        RunC prog (Builtin.copy_ #[T.t_sl_int64, T.t_sl_int64] T.t_int #[t41, t44]) w7 fun t45 w8 =>
         RunQ prog (binS .add T.t_int false false n t45) w8 fun t46 =>
         k t46 w8)
         (Q t30 w6)) fun J_1 =>
    JoinC (α := Value → World → Prop) (fun (t26 : Value) (w9 : World) =>
      Split t26 (RunQ prog (Instr.makeInterface T.t_string (.string ⟨#[116, 104, 101, 32, 114, 101, 115, 117, 108, 116, 32, 111, 102, 32, 40, 108, 101, 110, 40, 120, 41, 32, 42, 32, 99, 111, 117, 110, 116, 41, 32, 111, 118, 101, 114, 102, 108, 111, 119, 115]⟩)) w9 fun t27 =>
       False)
       (J_1 w9)) fun J_2 =>
    RunQ prog (binS .gtr T.t_uint false true t19 (.int .u64 0)) w2 fun t22 =>
    Split t22 (J_2 (.bool true) w2)
     (RunQ prog (binS .gtr T.t_uint false true t20 (.int .u64 9223372036854775807)) w2 fun t25 =>
    J_2 t25 w2)) fun J =>
  RunQ prog (binS .lss T.t_int false true count (.int .i64 0)) w fun t10 =>
  Split t10 (RunQ prog (Instr.makeInterface T.t_string (.string ⟨#[99, 97, 110, 110, 111, 116, 32, 98, 101, 32, 110, 101, 103, 97, 116, 105, 118, 101]⟩)) w fun t11 =>
   False)
   (J w)

theorem slices_Repeat_int64_int64.enter {x count : Value} {w : World} {Q : Value → World → Prop} (h : slices_Repeat_int64_int64.body x count w Q) : Cal prog F.slices_Repeat_int64_int64 [x, count] w Q :=
  Cal.enter' (P := prog) mixed (show prog.funcs[F.slices_Repeat_int64_int64]? = some Try.f53 from Try.func53) rfl (by kernel_rfl) (by kernel_rfl) (by kernel_rfl) (by kernel_rfl) (Eq.mp (by kernel_rfl) h)

/-- (pennyweight/shape.Shape).Count -/
def shape_Shape_Count.body (s : Value) (w : World) (Q : Value → World → Prop) : Prop :=
  RunC prog (Instr.box T.t_shape_Shape s) w fun s_1 w1 =>
  RunQ prog (Instr.fieldAt T.t_shape_Shape s_1 0) w1 fun t6 =>
  RunQ prog (Instr.loadAt T.t_sl_int t6) w1 fun t7 =>
  RunQ prog (Builtin.len_ #[T.t_sl_int] T.t_int #[t7]) w1 fun t8 =>
  Loop2 (.int .i64 1) (.int .i64 0) w1 fun n t9 w2 k =>
    RunQ prog (binS .lss T.t_int false false t9 t8) w2 fun t10 =>
    Split t10 (RunQ prog (Instr.indexAt T.t_sl_int t7 t9) w2 fun t11 =>
    RunQ prog (Instr.loadAt T.t_int t11) w2 fun t12 =>
    RunQ prog (binS .mul T.t_int false false n t12) w2 fun t15 =>
    RunQ prog (binS .add T.t_int false true t9 (.int .i64 1)) w2 fun t16 =>
    k t15 t16 w2)
     (Q n w2)

theorem shape_Shape_Count.enter {s : Value} {w : World} {Q : Value → World → Prop} (h : shape_Shape_Count.body s w Q) : Cal prog F.shape_Shape_Count [s] w Q :=
  Cal.enter' (P := prog) mixed (show prog.funcs[F.shape_Shape_Count]? = some Try.f54 from Try.func54) rfl (by kernel_rfl) (by kernel_rfl) (by kernel_rfl) (by kernel_rfl) (Eq.mp (by kernel_rfl) h)

/-- (*pennyweight/table.Table).at -/
def P_table_Table_at.body (t tuple : Value) (w : World) (Q : Value → World → Prop) : Prop :=
  RunQ prog (binS .eql T.t_p_table_Table false true t (.pointer none)) w fun t7 =>
  Split t7 (Q (.tuple #[(.int .i64 0), (.int .i64 2)]) w)
   (RunQ prog (nilS t) w fun t9 =>
  RunQ prog (Instr.fieldAt T.t_table_Table t9 0) w fun t10 =>
  RunQ prog (Instr.loadAt T.t_shape_Shape t10) w fun t11 =>
  Cal prog F.shape_Shape_Index [t11, tuple] w fun t13 w1 =>
  RunQ prog (Instr.extract t13 0) w1 fun t14 =>
  RunQ prog (Instr.extract t13 1) w1 fun t15 =>
  Q (.tuple #[t14, t15]) w1)

theorem P_table_Table_at.enter {t tuple : Value} {w : World} {Q : Value → World → Prop} (h : P_table_Table_at.body t tuple w Q) : Cal prog F.P_table_Table_at [t, tuple] w Q :=
  Cal.enter' (P := prog) mixed (show prog.funcs[F.P_table_Table_at]? = some Try.f55 from Try.func55) rfl (by kernel_rfl) (by kernel_rfl) (by kernel_rfl) (by kernel_rfl) (Eq.mp (by kernel_rfl) h)

/-- (*pennyweight/table.Table).Shape -/
def P_table_Table_Shape.body (t : Value) (w : World) (Q : Value → World → Prop) : Prop :=
  RunC prog (Instr.alloc T.t_shape_Shape true (.tuple #[])) w fun t2 w1 =>
  RunQ prog (binS .eql T.t_p_table_Table false true t (.pointer none)) w1 fun t4 =>
  Split t4 (RunQ prog (Instr.build T.t_shape_Shape #[]) w1 fun t5 =>
   RunC prog (Instr.storeAt T.t_shape_Shape t2 t5) w1 fun (_ : Unit) w2 =>
   RunQ prog (do loadVar T.t_shape_Shape (← asAddr t2)) w2 fun r =>
  Q r w2)
   (RunQ prog (nilS t) w1 fun t7 =>
  RunQ prog (Instr.fieldAt T.t_table_Table t7 0) w1 fun t8 =>
  RunQ prog (Instr.loadAt T.t_shape_Shape t8) w1 fun t9 =>
  RunC prog (Instr.storeAt T.t_shape_Shape t2 t9) w1 fun (_ : Unit) w3 =>
  RunQ prog (do loadVar T.t_shape_Shape (← asAddr t2)) w3 fun r_1 =>
  Q r_1 w3)

theorem P_table_Table_Shape.enter {t : Value} {w : World} {Q : Value → World → Prop} (h : P_table_Table_Shape.body t w Q) : Cal prog F.P_table_Table_Shape [t] w Q :=
  Cal.enter' (P := prog) mixed (show prog.funcs[F.P_table_Table_Shape]? = some Try.f56 from Try.func56) rfl (by kernel_rfl) (by kernel_rfl) (by kernel_rfl) (by kernel_rfl) (Eq.mp (by kernel_rfl) h)

/-- (pennyweight/shape.Shape).Sizes -/
def shape_Shape_Sizes.body (s : Value) (w : World) (Q : Value → World → Prop) : Prop :=
  RunC prog (Instr.box T.t_shape_Shape s) w fun s_1 w1 =>
  RunQ prog (Instr.fieldAt T.t_shape_Shape s_1 0) w1 fun t3 =>
  RunQ prog (Instr.loadAt T.t_sl_int t3) w1 fun t4 =>
  Cal prog F.slices_Clone_int_int [t4] w1 fun t5 w2 =>
  Q t5 w2

theorem shape_Shape_Sizes.enter {s : Value} {w : World} {Q : Value → World → Prop} (h : shape_Shape_Sizes.body s w Q) : Cal prog F.shape_Shape_Sizes [s] w Q :=
  Cal.enter' (P := prog) mixed (show prog.funcs[F.shape_Shape_Sizes]? = some Try.f57 from Try.func57) rfl (by kernel_rfl) (by kernel_rfl) (by kernel_rfl) (by kernel_rfl) (Eq.mp (by kernel_rfl) h)

/-- (*pennyweight/table.Table).K -/
def P_table_Table_K.body (t : Value) (w : World) (Q : Value → World → Prop) : Prop :=
  RunQ prog (binS .eql T.t_p_table_Table false true t (.pointer none)) w fun t4 =>
  Split t4 (Q (.int .i64 0) w)
   (RunQ prog (nilS t) w fun t6 =>
  RunQ prog (Instr.fieldAt T.t_table_Table t6 1) w fun t7 =>
  RunQ prog (Instr.loadAt T.t_int64 t7) w fun t8 =>
  Q t8 w)

theorem P_table_Table_K.enter {t : Value} {w : World} {Q : Value → World → Prop} (h : P_table_Table_K.body t w Q) : Cal prog F.P_table_Table_K [t] w Q :=
  Cal.enter' (P := prog) mixed (show prog.funcs[F.P_table_Table_K]? = some Try.f58 from Try.func58) rfl (by kernel_rfl) (by kernel_rfl) (by kernel_rfl) (by kernel_rfl) (Eq.mp (by kernel_rfl) h)

/-- pennyweight/tuples.most -/
def tuples_most.body (l : Value) (w : World) (Q : Value → World → Prop) : Prop :=
  RunC prog (Instr.makeMap T.t_map_int64_int none) w fun t9 w1 =>
  RunQ prog (Builtin.len_ #[T.t_sl_int64] T.t_int #[l]) w1 fun t11 =>
  Loop1 (.int .i64 0) w1 fun t12 w2 k =>
    RunQ prog (binS .lss T.t_int false false t12 t11) w2 fun t13 =>
    Split t13 (RunQ prog (Instr.indexAt T.t_sl_int64 l t12) w2 fun t14 =>
    RunQ prog (Instr.loadAt T.t_int64 t14) w2 fun t15 =>
    RunQ prog (Instr.lookup T.t_map_int64_int t9 t15 false) w2 fun t18 =>
    RunQ prog (binS .add T.t_int false true t18 (.int .i64 1)) w2 fun t19 =>
    RunC prog (Instr.mapUpdate T.t_map_int64_int t9 t15 t19) w2 fun (_ : Unit) w3 =>
    RunQ prog (binS .add T.t_int false true t12 (.int .i64 1)) w3 fun t20 =>
    k t20 w3)
     (Cal prog F.slices_Min_int64_int64 [l] w2 fun t22 w4 =>
  RunC prog (Instr.range T.t_map_int64_int t9) w4 fun t24 w5 =>
  Loop1 t22 w5 fun best w6 k_1 =>
    RunN prog (false, w.heap.size) (Instr.next t24 false 0) w6 fun t25 w7 =>
    RunQ prog (Instr.extract t25 0) w7 fun t26 =>
    Split t26 (RunC prog (Instr.entry t24) w7 fun t27 w8 =>
    RunQ prog (Instr.extract t27 0) w8 fun t28 =>
    RunQ prog (Instr.extract t27 1) w8 fun t29 =>
    JoinC (α := Value → World → Prop) (fun (t46 : Value) (w9 : World) =>
      Split t46 (k_1 t28 w9)
       (k_1 best w9)) fun J =>
    RunQ prog (Instr.lookup T.t_map_int64_int t9 best false) w8 fun t33 =>
    RunQ prog (binS .gtr T.t_int false false t29 t33) w8 fun t34 =>
    Split t34 (J (.bool true) w8)
     (RunQ prog (Instr.lookup T.t_map_int64_int t9 best false) w8 fun t39 =>
    RunQ prog (binS .eql T.t_int false false t29 t39) w8 fun t40 =>
    Split t40 (RunQ prog (binS .lss T.t_int64 false false t28 best) w8 fun t44 =>
    J t44 w8)
     (J (.bool false) w8)))
     (Q best w7))

theorem tuples_most.enter {l : Value} {w : World} {Q : Value → World → Prop} (h : tuples_most.body l w Q) : Cal prog F.tuples_most [l] w Q :=
  Cal.enter' (P := prog) mixed (show prog.funcs[F.tuples_most]? = some Try.f59 from Try.func59) rfl (by kernel_rfl) (by kernel_rfl) (by kernel_rfl) (by kernel_rfl) (Eq.mp (by kernel_rfl) h)

/-- (pennyweight/shape.Shape).All -/
def shape_Shape_All.body (s : Value) (w : World) (Q : Value → World → Prop) : Prop :=
  RunC prog (Instr.box T.t_shape_Shape s) w fun s_1 w1 =>
  RunQ prog (Instr.makeFunc (.func F.shape_Shape_All_c1) #[] #[s_1]) w1 fun t3 =>
  Q t3 w1

theorem shape_Shape_All.enter {s : Value} {w : World} {Q : Value → World → Prop} (h : shape_Shape_All.body s w Q) : Cal prog F.shape_Shape_All [s] w Q :=
  Cal.enter' (P := prog) mixed (show prog.funcs[F.shape_Shape_All]? = some Try.f60 from Try.func60) rfl (by kernel_rfl) (by kernel_rfl) (by kernel_rfl) (by kernel_rfl) (Eq.mp (by kernel_rfl) h)

/-- pennyweight/shape.Same -/
def shape_Same.body (a b : Value) (w : World) (Q : Value → World → Prop) : Prop :=
  RunC prog (Instr.box T.t_shape_Shape a) w fun a_1 w1 =>
  RunC prog (Instr.box T.t_shape_Shape b) w1 fun b_1 w2 =>
  RunQ prog (Instr.fieldAt T.t_shape_Shape a_1 0) w2 fun t5 =>
  RunQ prog (Instr.loadAt T.t_sl_int t5) w2 fun t6 =>
  RunQ prog (Instr.fieldAt T.t_shape_Shape b_1 0) w2 fun t7 =>
  RunQ prog (Instr.loadAt T.t_sl_int t7) w2 fun t8 =>
  Cal prog F.slices_Equal_int_int [t6, t8] w2 fun t9 w3 =>
  Q t9 w3

theorem shape_Same.enter {a b : Value} {w : World} {Q : Value → World → Prop} (h : shape_Same.body a b w Q) : Cal prog F.shape_Same [a, b] w Q :=
  Cal.enter' (P := prog) mixed (show prog.funcs[F.shape_Same]? = some Try.f61 from Try.func61) rfl (by kernel_rfl) (by kernel_rfl) (by kernel_rfl) (by kernel_rfl) (Eq.mp (by kernel_rfl) h)

/-- (*pennyweight/tuples.Tuples).Lines$1 -/
def P_tuples_Tuples_Lines_c1.body (a b : Value) (w : World) (Q : Value → World → Prop) : Prop :=
  RunC prog (Instr.box T.t_tuples_key a) w fun a_1 w1 =>
  RunC prog (Instr.box T.t_tuples_key b) w1 fun b_1 w2 =>
  Drew w2 fun w3 =>
  RunQ prog (Instr.sliceAt T.t_tuples_key a_1 none none none) w3 fun t5 =>
  RunQ prog (Instr.sliceAt T.t_tuples_key b_1 none none none) w3 fun t6 =>
  Cal prog F.slices_Compare_int8_int8 [t5, t6] w3 fun t7 w4 =>
   Q t7 w4

theorem P_tuples_Tuples_Lines_c1.enter {a b : Value} {w : World} {Q : Value → World → Prop} (h : P_tuples_Tuples_Lines_c1.body a b w Q) : Cal prog F.P_tuples_Tuples_Lines_c1 [a, b] w Q :=
  Cal.enter' (P := prog) mixed (show prog.funcs[F.P_tuples_Tuples_Lines_c1]? = some Try.f62 from Try.func62) rfl (by kernel_rfl) (by kernel_rfl) (by kernel_rfl) (by kernel_rfl) (Eq.mp (by kernel_rfl) h)

/-- slices.Compare[[]int8,int8] -/
def slices_Compare_int8_int8.body (s1 s2 : Value) (w : World) (Q : Value → World → Prop) : Prop :=
  RunQ prog (Builtin.len_ #[T.t_sl_int8] T.t_int #[s1]) w fun t10 =>
  Loop2 (.int .i64 0) (.int .i64 0) w fun t4 t11 w1 k =>
    RunQ prog (binS .lss T.t_int false false t11 t10) w1 fun t12 =>
    Split t12 (RunQ prog (Instr.indexAt T.t_sl_int8 s1 t11) w1 fun t14 =>
    RunQ prog (Instr.loadAt T.t_int8 t14) w1 fun t15 =>
    RunQ prog (Builtin.len_ #[T.t_sl_int8] T.t_int #[s2]) w1 fun t18 =>
    RunQ prog (binS .geq T.t_int false false t11 t18) w1 fun t19 =>
    Split t19 (Q (.int .i64 1) w1)
     (RunQ prog (Instr.indexAt T.t_sl_int8 s2 t11) w1 fun t22 =>
    RunQ prog (Instr.loadAt T.t_int8 t22) w1 fun t23 =>
    Cal prog F.cmp_Compare_int8 [t15, t23] w1 fun t26 w2 =>
    RunQ prog (binS .neq T.t_int false true t26 (.int .i64 0)) w2 fun t28 =>
    Split t28 (Q t26 w2)
     (RunQ prog (binS .add T.t_int false true t11 (.int .i64 1)) w2 fun t30 =>
    k t4 t30 w2)))
     (RunQ prog (Builtin.len_ #[T.t_sl_int8] T.t_int #[s1]) w1 fun t32 =>
  RunQ prog (Builtin.len_ #[T.t_sl_int8] T.t_int #[s2]) w1 fun t34 =>
  RunQ prog (binS .lss T.t_int false false t32 t34) w1 fun t35 =>
  Split t35 (Q (.int .i64 (-1)) w1)
   (Q (.int .i64 0) w1))

theorem slices_Compare_int8_int8.enter {s1 s2 : Value} {w : World} {Q : Value → World → Prop} (h : slices_Compare_int8_int8.body s1 s2 w Q) : Cal prog F.slices_Compare_int8_int8 [s1, s2] w Q :=
  Cal.enter' (P := prog) mixed (show prog.funcs[F.slices_Compare_int8_int8]? = some Try.f63 from Try.func63) rfl (by kernel_rfl) (by kernel_rfl) (by kernel_rfl) (by kernel_rfl) (Eq.mp (by kernel_rfl) h)

/-- slices.SortedFunc[pennyweight/tuples.key] -/
def slices_SortedFunc_pennyweight_tuples_key.body (seq cmp : Value) (w : World) (Q : Value → World → Prop) : Prop :=
  Cal prog F.slices_Collect_pennyweight_tuples_key [seq] w fun t7 w1 =>
  Cal prog F.slices_SortFunc_pennyweight_tuples_key_pennyweight_tuples_key [t7, cmp] w1 fun t10 w2 =>
  Q t7 w2

theorem slices_SortedFunc_pennyweight_tuples_key.enter {seq cmp : Value} {w : World} {Q : Value → World → Prop} (h : slices_SortedFunc_pennyweight_tuples_key.body seq cmp w Q) : Cal prog F.slices_SortedFunc_pennyweight_tuples_key [seq, cmp] w Q :=
  Cal.enter' (P := prog) mixed (show prog.funcs[F.slices_SortedFunc_pennyweight_tuples_key]? = some Try.f64 from Try.func64) rfl (by kernel_rfl) (by kernel_rfl) (by kernel_rfl) (by kernel_rfl) (Eq.mp (by kernel_rfl) h)

/-- maps.Keys[map[pennyweight/tuples.key]int64,pennyweight/tuples.key,int64] -/
def maps_Keys_map_pennyweight_tuples_key_int64_pennyweight_tuples_key_int64.body (m : Value) (w : World) (Q : Value → World → Prop) : Prop :=
  RunC prog (Instr.box T.t_map_tuples_key_int64 m) w fun m_1 w1 =>
  RunQ prog (Instr.makeFunc (.func F.maps_Keys_map_tuples_key_int64_tuples_key_int64__c1) #[] #[m_1]) w1 fun t3 =>
  Q t3 w1

theorem maps_Keys_map_pennyweight_tuples_key_int64_pennyweight_tuples_key_int64.enter {m : Value} {w : World} {Q : Value → World → Prop} (h : maps_Keys_map_pennyweight_tuples_key_int64_pennyweight_tuples_key_int64.body m w Q) : Cal prog F.maps_Keys_map_pennyweight_tuples_key_int64_pennyweight_tuples_key_int64 [m] w Q :=
  Cal.enter' (P := prog) mixed (show prog.funcs[F.maps_Keys_map_pennyweight_tuples_key_int64_pennyweight_tuples_key_int64]? = some Try.f65 from Try.func65) rfl (by kernel_rfl) (by kernel_rfl) (by kernel_rfl) (by kernel_rfl) (Eq.mp (by kernel_rfl) h)

/-- slices.Chunk[[]byte,byte]$1 -/
def slices_Chunk_byte_byte__c1.body (yield t1 t2 : Value) (w : World) (Q : Value → World → Prop) : Prop :=
  Loop1 (.int .i64 0) w fun i w1 k =>
    RunQ prog (Instr.loadAt T.t_sl_uint8 t1) w1 fun t7 =>
    RunQ prog (Builtin.len_ #[T.t_sl_uint8] T.t_int #[t7]) w1 fun t8 =>
    RunQ prog (binS .lss T.t_int false false i t8) w1 fun t9 =>
    Split t9 (Drew w1 fun w2 =>
    RunQ prog (Instr.loadAt T.t_int t2) w2 fun t13 =>
    RunQ prog (Instr.loadAt T.t_sl_uint8 t1) w2 fun t14 =>
    RunQ prog (Instr.sliceAt T.t_sl_uint8 t14 (some i) none none) w2 fun t16 =>
    RunQ prog (Builtin.len_ #[T.t_sl_uint8] T.t_int #[t16]) w2 fun t17 =>
    RunQ prog (Builtin.min_ #[T.t_int, T.t_int] T.t_int #[t13, t17]) w2 fun t18 =>
    RunQ prog (Instr.loadAt T.t_sl_uint8 t1) w2 fun t20 =>
    RunQ prog (binS .add T.t_int false false i t18) w2 fun t24 =>
    RunQ prog (binS .add T.t_int false false i t18) w2 fun t27 =>
    RunQ prog (Instr.sliceAt T.t_sl_uint8 t20 (some i) (some t24) (some t27)) w2 fun t28 =>
    CalV prog true yield [t28] w2 fun t29 w3 =>
    RunQ prog (Op.unary .not t29) w3 fun t30 =>
    Split t30 (Q (.tuple #[]) w3)
     (RunQ prog (Instr.loadAt T.t_int t2) w3 fun t11 =>
    RunQ prog (binS .add T.t_int false false i t11) w3 fun t12 =>
    k t12 w3))
     (Q (.tuple #[]) w1)

theorem slices_Chunk_byte_byte__c1.enter {yield t1 t2 : Value} {w : World} {Q : Value → World → Prop} (h : slices_Chunk_byte_byte__c1.body yield t1 t2 w Q) : CalF prog F.slices_Chunk_byte_byte__c1 [yield, t1, t2] w Q :=
  CalF.enter (P := prog) mixed (show prog.funcs[F.slices_Chunk_byte_byte__c1]? = some Try.f66 from Try.func66) rfl (by kernel_rfl) (by kernel_rfl) (by kernel_rfl) (Eq.mp (by kernel_rfl) h)

theorem slices_Chunk_byte_byte__c1.enters : Enters prog F.slices_Chunk_byte_byte__c1 :=
  Enters.of prog (show prog.funcs[F.slices_Chunk_byte_byte__c1]? = some Try.f66 from Try.func66) rfl (by kernel_rfl)

/-- slices.IndexFunc[[]int,int] -/
def slices_IndexFunc_int_int.body (s f : Value) (w : World) (Q : Value → World → Prop) : Prop :=
  RunQ prog (Builtin.len_ #[T.t_sl_int] T.t_int #[s]) w fun t7 =>
  Loop2 (.int .i64 0) (.int .i64 0) w fun t4 t8 w1 k =>
    RunQ prog (binS .lss T.t_int false false t8 t7) w1 fun t9 =>
    Split t9 (RunQ prog (Instr.indexAt T.t_sl_int s t8) w1 fun t14 =>
    RunQ prog (Instr.loadAt T.t_int t14) w1 fun t15 =>
    CalV prog false f [t15] w1 fun t16 w2 =>
    Split t16 (Q t8 w2)
     (RunQ prog (binS .add T.t_int false true t8 (.int .i64 1)) w2 fun t18 =>
    k t4 t18 w2))
     (Q (.int .i64 (-1)) w1)

theorem slices_IndexFunc_int_int.enter {s f : Value} {w : World} {Q : Value → World → Prop} (h : slices_IndexFunc_int_int.body s f w Q) : Cal prog F.slices_IndexFunc_int_int [s, f] w Q :=
  Cal.enter' (P := prog) mixed (show prog.funcs[F.slices_IndexFunc_int_int]? = some Try.f67 from Try.func67) rfl (by kernel_rfl) (by kernel_rfl) (by kernel_rfl) (by kernel_rfl) (Eq.mp (by kernel_rfl) h)

/-- pennyweight/cost.Right -/
def cost_Right.body (k : Value) (w : World) (Q : Value → World → Prop) : Prop :=
  JoinC (α := Value → World → Prop) (fun (t2 : Value) (w1 : World) =>
    Q t2 w1) fun J =>
  RunQ prog (binS .geq T.t_int64 false true k (.int .i64 1)) w fun t4 =>
  Split t4 (RunQ prog (binS .leq T.t_int64 false true k (.int .i64 2147483648)) w fun t7 =>
  J t7 w)
   (J (.bool false) w)

theorem cost_Right.enter {k : Value} {w : World} {Q : Value → World → Prop} (h : cost_Right.body k w Q) : Cal prog F.cost_Right [k] w Q :=
  Cal.enter' (P := prog) mixed (show prog.funcs[F.cost_Right]? = some Try.f68 from Try.func68) rfl (by kernel_rfl) (by kernel_rfl) (by kernel_rfl) (by kernel_rfl) (Eq.mp (by kernel_rfl) h)

/-- slices.Clone[[]int64,int64] -/
def slices_Clone_int64_int64.body (s : Value) (w : World) (Q : Value → World → Prop) : Prop :=
  RunQ prog (binS .eql T.t_sl_int64 false true s (.slice none 0 0)) w fun t4 =>
  Split t4 (Q (.slice none 0 0) w)
   (RunC prog (Instr.buildSlice T.t_sl_int64 0 #[]) w fun t5 w1 =>
  RunC prog (Builtin.append_ #[T.t_sl_int64, T.t_sl_int64] T.t_sl_int64 #[t5, s]) w1 fun t7 w2 =>
  Q t7 w2)

theorem slices_Clone_int64_int64.enter {s : Value} {w : World} {Q : Value → World → Prop} (h : slices_Clone_int64_int64.body s w Q) : Cal prog F.slices_Clone_int64_int64 [s] w Q :=
  Cal.enter' (P := prog) mixed (show prog.funcs[F.slices_Clone_int64_int64]? = some Try.f69 from Try.func69) rfl (by kernel_rfl) (by kernel_rfl) (by kernel_rfl) (by kernel_rfl) (Eq.mp (by kernel_rfl) h)

/-- pennyweight/shape.New$1 -/
def shape_New_c1.body (n : Value) (w : World) (Q : Value → World → Prop) : Prop :=
  JoinC (α := Value → World → Prop) (fun (t2 : Value) (w1 : World) =>
    Q t2 w1) fun J =>
  RunQ prog (binS .lss T.t_int false true n (.int .i64 1)) w fun t4 =>
  Split t4 (J (.bool true) w)
   (RunQ prog (binS .gtr T.t_int false true n (.int .i64 32)) w fun t7 =>
  J t7 w)

theorem shape_New_c1.enter {n : Value} {w : World} {Q : Value → World → Prop} (h : shape_New_c1.body n w Q) : Cal prog F.shape_New_c1 [n] w Q :=
  Cal.enter' (P := prog) mixed (show prog.funcs[F.shape_New_c1]? = some Try.f70 from Try.func70) rfl (by kernel_rfl) (by kernel_rfl) (by kernel_rfl) (by kernel_rfl) (Eq.mp (by kernel_rfl) h)

/-- math/bits.Mul -/
def math_bits_Mul.body (x y : Value) (w : World) (Q : Value → World → Prop) : Prop :=
  Cal prog F.math_bits_Mul64 [x, y] w fun t25 w1 =>
  RunQ prog (Instr.extract t25 0) w1 fun t26 =>
  RunQ prog (Instr.extract t25 1) w1 fun t27 =>
  Q (.tuple #[t26, t27]) w1

theorem math_bits_Mul.enter {x y : Value} {w : World} {Q : Value → World → Prop} (h : math_bits_Mul.body x y w Q) : Cal prog F.math_bits_Mul [x, y] w Q :=
  Cal.enter' (P := prog) mixed (show prog.funcs[F.math_bits_Mul]? = some Try.f71 from Try.func71) rfl (by kernel_rfl) (by kernel_rfl) (by kernel_rfl) (by kernel_rfl) (Eq.mp (by kernel_rfl) h)

/-- (pennyweight/shape.Shape).Index -/
def shape_Shape_Index.body (s t : Value) (w : World) (Q : Value → World → Prop) : Prop :=
  RunC prog (Instr.box T.t_shape_Shape s) w fun s_1 w1 =>
  RunQ prog (Builtin.len_ #[T.t_sl_int] T.t_int #[t]) w1 fun t10 =>
  RunQ prog (Instr.fieldAt T.t_shape_Shape s_1 0) w1 fun t11 =>
  RunQ prog (Instr.loadAt T.t_sl_int t11) w1 fun t12 =>
  RunQ prog (Builtin.len_ #[T.t_sl_int] T.t_int #[t12]) w1 fun t13 =>
  RunQ prog (binS .neq T.t_int false false t10 t13) w1 fun t14 =>
  Split t14 (Q (.tuple #[(.int .i64 0), (.int .i64 3)]) w1)
   (RunQ prog (Builtin.len_ #[T.t_sl_int] T.t_int #[t]) w1 fun t16 =>
  Loop4 (.int .i64 0) (.int .i64 0) (.int .i64 0) (.int .i64 0) w1 fun t4 t5 n t17 w2 k =>
    RunQ prog (binS .lss T.t_int false false t17 t16) w2 fun t18 =>
    Split t18 (RunQ prog (Instr.indexAt T.t_sl_int t t17) w2 fun t20 =>
    RunQ prog (Instr.loadAt T.t_int t20) w2 fun t21 =>
    JoinC (α := Value → World → Prop) (fun (t32 : Value) (w3 : World) =>
      Split t32 (Q (.tuple #[(.int .i64 0), (.int .i64 3)]) w3)
       (RunQ prog (Instr.fieldAt T.t_shape_Shape s_1 0) w3 fun t34 =>
    RunQ prog (Instr.loadAt T.t_sl_int t34) w3 fun t35 =>
    RunQ prog (Instr.indexAt T.t_sl_int t35 t17) w3 fun t37 =>
    RunQ prog (Instr.loadAt T.t_int t37) w3 fun t38 =>
    RunQ prog (binS .mul T.t_int false false n t38) w3 fun t39 =>
    RunQ prog (binS .add T.t_int false false t39 t21) w3 fun t41 =>
    RunQ prog (binS .add T.t_int false true t17 (.int .i64 1)) w3 fun t42 =>
    k t4 t5 t41 t42 w3)) fun J =>
    RunQ prog (binS .lss T.t_int false true t21 (.int .i64 0)) w2 fun t23 =>
    Split t23 (J (.bool true) w2)
     (RunQ prog (Instr.fieldAt T.t_shape_Shape s_1 0) w2 fun t26 =>
    RunQ prog (Instr.loadAt T.t_sl_int t26) w2 fun t27 =>
    RunQ prog (Instr.indexAt T.t_sl_int t27 t17) w2 fun t29 =>
    RunQ prog (Instr.loadAt T.t_int t29) w2 fun t30 =>
    RunQ prog (binS .geq T.t_int false false t21 t30) w2 fun t31 =>
    J t31 w2))
     (Q (.tuple #[n, (.int .i64 0)]) w2))

theorem shape_Shape_Index.enter {s t : Value} {w : World} {Q : Value → World → Prop} (h : shape_Shape_Index.body s t w Q) : Cal prog F.shape_Shape_Index [s, t] w Q :=
  Cal.enter' (P := prog) mixed (show prog.funcs[F.shape_Shape_Index]? = some Try.f72 from Try.func72) rfl (by kernel_rfl) (by kernel_rfl) (by kernel_rfl) (by kernel_rfl) (Eq.mp (by kernel_rfl) h)

/-- slices.Min[[]int64,int64] -/
def slices_Min_int64_int64.body (x : Value) (w : World) (Q : Value → World → Prop) : Prop :=
  JoinC (α := World → Prop) (fun (w1 : World) =>
    RunQ prog (Instr.indexAt T.t_sl_int64 x (.int .i64 0)) w1 fun t10 =>
    RunQ prog (Instr.loadAt T.t_int64 t10) w1 fun t11 =>
    Loop2 t11 (.int .i64 1) w1 fun m i w2 k =>
      RunQ prog (Builtin.len_ #[T.t_sl_int64] T.t_int #[x]) w2 fun t14 =>
      RunQ prog (binS .lss T.t_int false false i t14) w2 fun t15 =>
      Split t15 (RunQ prog (Instr.indexAt T.t_sl_int64 x i) w2 fun t21 =>
      RunQ prog (Instr.loadAt T.t_int64 t21) w2 fun t22 =>
      RunQ prog (Builtin.min_ #[T.t_int64, T.t_int64] T.t_int64 #[m, t22]) w2 fun t23 =>
      RunQ prog (binS .add T.t_int false true i (.int .i64 1)) w2 fun t17 =>
      k t23 t17 w2)
       (Q m w2)) fun J =>
  RunQ prog (Builtin.len_ #[T.t_sl_int64] T.t_int #[x]) w fun t6 =>
  RunQ prog (binS .lss T.t_int false true t6 (.int .i64 1)) w fun t7 =>
  Split t7 (RunQ prog (Instr.makeInterface T.t_string (.string ⟨#[115, 108, 105, 99, 101, 115, 46, 77, 105, 110, 58, 32, 101, 109, 112, 116, 121, 32, 108, 105, 115, 116]⟩)) w fun t8 =>
   False)
   (J w)

theorem slices_Min_int64_int64.enter {x : Value} {w : World} {Q : Value → World → Prop} (h : slices_Min_int64_int64.body x w Q) : Cal prog F.slices_Min_int64_int64 [x] w Q :=
  Cal.enter' (P := prog) mixed (show prog.funcs[F.slices_Min_int64_int64]? = some Try.f73 from Try.func73) rfl (by kernel_rfl) (by kernel_rfl) (by kernel_rfl) (by kernel_rfl) (Eq.mp (by kernel_rfl) h)

/-- (pennyweight/shape.Shape).All$1 -/
def shape_Shape_All_c1.body (yield t1 : Value) (w : World) (Q : Value → World → Prop) : Prop :=
  RunQ prog (Instr.loadAt T.t_shape_Shape t1) w fun t6 =>
  CalF prog F.shape_Shape_Count [t6] w fun t7 w1 =>
  Loop1 (.int .i64 0) w1 fun t8 w2 k =>
    RunQ prog (binS .lss T.t_int false false t8 t7) w2 fun t9 =>
    Split t9 (RunQ prog (Instr.loadAt T.t_shape_Shape t1) w2 fun t12 =>
    CalF prog F.shape_Shape_Tuple [t12, t8] w2 fun t14 w3 =>
    RunQ prog (Instr.extract t14 0) w3 fun t15 =>
    RunQ prog (Instr.extract t14 1) w3 fun t16 =>
    CalV prog true yield [t8, t15] w3 fun t20 w4 =>
    RunQ prog (Op.unary .not t20) w4 fun t21 =>
    Split t21 (Q (.tuple #[]) w4)
     (RunQ prog (binS .add T.t_int false true t8 (.int .i64 1)) w4 fun t22 =>
    k t22 w4))
     (Q (.tuple #[]) w2)

theorem shape_Shape_All_c1.enter {yield t1 : Value} {w : World} {Q : Value → World → Prop} (h : shape_Shape_All_c1.body yield t1 w Q) : CalF prog F.shape_Shape_All_c1 [yield, t1] w Q :=
  CalF.enter (P := prog) mixed (show prog.funcs[F.shape_Shape_All_c1]? = some Try.f74 from Try.func74) rfl (by kernel_rfl) (by kernel_rfl) (by kernel_rfl) (Eq.mp (by kernel_rfl) h)

theorem shape_Shape_All_c1.enters : Enters prog F.shape_Shape_All_c1 :=
  Enters.of prog (show prog.funcs[F.shape_Shape_All_c1]? = some Try.f74 from Try.func74) rfl (by kernel_rfl)

/-- (pennyweight/shape.Shape).Tuple -/
def shape_Shape_Tuple.body (s i : Value) (w : World) (Q : Value → World → Prop) : Prop :=
  RunC prog (Instr.box T.t_shape_Shape s) w fun s_1 w1 =>
  JoinC (α := Value → World → Prop) (fun (t16 : Value) (w2 : World) =>
    Split t16 (Q (.tuple #[(.slice none 0 0), (.int .i64 3)]) w2)
     (RunQ prog (Instr.fieldAt T.t_shape_Shape s_1 0) w2 fun t17 =>
  RunQ prog (Instr.loadAt T.t_sl_int t17) w2 fun t18 =>
  RunQ prog (Builtin.len_ #[T.t_sl_int] T.t_int #[t18]) w2 fun t19 =>
  RunC prog (Instr.makeSlice T.t_sl_int t19 t19) w2 fun t20 w3 =>
  RunQ prog (Builtin.len_ #[T.t_sl_int] T.t_int #[t20]) w3 fun t22 =>
  Loop1 (.int .i64 0) w3 fun t23 w4 k =>
    RunQ prog (binS .lss T.t_int false false t23 t22) w4 fun t24 =>
    Split t24 (RunQ prog (Instr.loadAt T.t_shape_Shape s_1) w4 fun t26 =>
    Cal prog F.shape_Shape_Step [t26, t23] w4 fun t28 w5 =>
    Drew w5 fun w6 =>
    RunQ prog (binS .quo T.t_int false false i t28) w6 fun t33 =>
    RunQ prog (Instr.fieldAt T.t_shape_Shape s_1 0) w6 fun t34 =>
    RunQ prog (Instr.loadAt T.t_sl_int t34) w6 fun t35 =>
    RunQ prog (Instr.indexAt T.t_sl_int t35 t23) w6 fun t37 =>
    RunQ prog (Instr.loadAt T.t_int t37) w6 fun t38 =>
    RunQ prog (binS .rem T.t_int false false t33 t38) w6 fun t39 =>
    RunQ prog (Instr.indexAt T.t_sl_int t20 t23) w6 fun t40 =>
    RunC prog (Instr.storeAt T.t_int t40 t39) w6 fun (_ : Unit) w7 =>
     RunQ prog (binS .add T.t_int false true t23 (.int .i64 1)) w7 fun t41 =>
    k t41 w7)
     (Q (.tuple #[t20, (.int .i64 0)]) w4))) fun J =>
  RunQ prog (binS .lss T.t_int false true i (.int .i64 0)) w1 fun t10 =>
  Split t10 (J (.bool true) w1)
   (RunQ prog (Instr.loadAt T.t_shape_Shape s_1) w1 fun t13 =>
  Cal prog F.shape_Shape_Count [t13] w1 fun t14 w8 =>
  RunQ prog (binS .geq T.t_int false false i t14) w8 fun t15 =>
  J t15 w8)

theorem shape_Shape_Tuple.enter {s i : Value} {w : World} {Q : Value → World → Prop} (h : shape_Shape_Tuple.body s i w Q) : Cal prog F.shape_Shape_Tuple [s, i] w Q :=
  Cal.enter' (P := prog) mixed (show prog.funcs[F.shape_Shape_Tuple]? = some Try.f75 from Try.func75) rfl (by kernel_rfl) (by kernel_rfl) (by kernel_rfl) (by kernel_rfl) (Eq.mp (by kernel_rfl) h)

/-- cmp.Compare[int8] -/
def cmp_Compare_int8.body (x y : Value) (w : World) (Q : Value → World → Prop) : Prop :=
  Cal prog F.cmp_isNaN_int8 [x] w fun t8 w1 =>
  Cal prog F.cmp_isNaN_int8 [y] w1 fun t10 w2 =>
  Split t8 (Split t10 (Q (.int .i64 0) w2)
    (Q (.int .i64 (-1)) w2))
   (Split t10 (Q (.int .i64 1) w2)
   (RunQ prog (binS .lss T.t_int8 false false x y) w2 fun t16 =>
  Split t16 (Q (.int .i64 (-1)) w2)
   (RunQ prog (binS .gtr T.t_int8 false false x y) w2 fun t19 =>
  Split t19 (Q (.int .i64 1) w2)
   (Q (.int .i64 0) w2))))

theorem cmp_Compare_int8.enter {x y : Value} {w : World} {Q : Value → World → Prop} (h : cmp_Compare_int8.body x y w Q) : Cal prog F.cmp_Compare_int8 [x, y] w Q :=
  Cal.enter' (P := prog) mixed (show prog.funcs[F.cmp_Compare_int8]? = some Try.f76 from Try.func76) rfl (by kernel_rfl) (by kernel_rfl) (by kernel_rfl) (by kernel_rfl) (Eq.mp (by kernel_rfl) h)

/-- slices.Collect[pennyweight/tuples.key] -/
def slices_Collect_pennyweight_tuples_key.body (seq : Value) (w : World) (Q : Value → World → Prop) : Prop :=
  Cal prog F.slices_AppendSeq_pennyweight_tuples_key_pennyweight_tuples_key [(.slice none 0 0), seq] w fun t4 w1 =>
  Q t4 w1

theorem slices_Collect_pennyweight_tuples_key.enter {seq : Value} {w : World} {Q : Value → World → Prop} (h : slices_Collect_pennyweight_tuples_key.body seq w Q) : Cal prog F.slices_Collect_pennyweight_tuples_key [seq] w Q :=
  Cal.enter' (P := prog) mixed (show prog.funcs[F.slices_Collect_pennyweight_tuples_key]? = some Try.f77 from Try.func77) rfl (by kernel_rfl) (by kernel_rfl) (by kernel_rfl) (by kernel_rfl) (Eq.mp (by kernel_rfl) h)

/-- slices.SortFunc[[]pennyweight/tuples.key,pennyweight/tuples.key] -/
def slices_SortFunc_pennyweight_tuples_key_pennyweight_tuples_key.body (x cmp : Value) (w : World) (Q : Value → World → Prop) : Prop :=
  RunQ prog (Builtin.len_ #[T.t_sl_tuples_key] T.t_int #[x]) w fun t6 =>
  RunQ prog (convert T.t_int T.t_uint t6) w fun t10 =>
  Cal prog F.math_bits_Len [t10] w fun t11 w1 =>
  Cal prog F.slices_pdqsortCmpFunc_pennyweight_tuples_key [x, (.int .i64 0), t6, t11, cmp] w1 fun t13 w2 =>
  Q (.tuple #[]) w2

theorem slices_SortFunc_pennyweight_tuples_key_pennyweight_tuples_key.enter {x cmp : Value} {w : World} {Q : Value → World → Prop} (h : slices_SortFunc_pennyweight_tuples_key_pennyweight_tuples_key.body x cmp w Q) : Cal prog F.slices_SortFunc_pennyweight_tuples_key_pennyweight_tuples_key [x, cmp] w Q :=
  Cal.enter' (P := prog) mixed (show prog.funcs[F.slices_SortFunc_pennyweight_tuples_key_pennyweight_tuples_key]? = some Try.f78 from Try.func78) rfl (by kernel_rfl) (by kernel_rfl) (by kernel_rfl) (by kernel_rfl) (Eq.mp (by kernel_rfl) h)

/-- maps.Keys[map[pennyweight/tuples.key]int64,pennyweight/tuples.key,int64]$1 -/
def maps_Keys_map_tuples_key_int64_tuples_key_int64__c1.body (yield t1 : Value) (w : World) (Q : Value → World → Prop) : Prop :=
  RunQ prog (Instr.loadAt T.t_map_tuples_key_int64 t1) w fun t4 =>
  RunC prog (Instr.range T.t_map_tuples_key_int64 t4) w fun t5 w1 =>
  Loop0 w1 fun w2 k =>
    RunN prog (true, 0) (Instr.next t5 false 0) w2 fun t6 w3 =>
    RunQ prog (Instr.extract t6 0) w3 fun t7 =>
    Split t7 (RunC prog (Instr.entry t5) w3 fun t8 w4 =>
    RunQ prog (Instr.extract t8 0) w4 fun t9 =>
    RunC prog (Instr.alloc T.t_tuples_key true (.tuple #[])) w4 fun k_1 w5 =>
    RunC prog (Instr.storeAt T.t_tuples_key k_1 t9) w5 fun (_ : Unit) w6 =>
    RunQ prog (Instr.loadAt T.t_tuples_key k_1) w6 fun t11 =>
    CalV prog true yield [t11] w6 fun t12 w7 =>
    RunQ prog (Op.unary .not t12) w7 fun t13 =>
    Split t13 (Q (.tuple #[]) w7)
     (k w7))
     (Q (.tuple #[]) w3)

theorem maps_Keys_map_tuples_key_int64_tuples_key_int64__c1.enter {yield t1 : Value} {w : World} {Q : Value → World → Prop} (h : maps_Keys_map_tuples_key_int64_tuples_key_int64__c1.body yield t1 w Q) : CalF prog F.maps_Keys_map_tuples_key_int64_tuples_key_int64__c1 [yield, t1] w Q :=
  CalF.enter (P := prog) mixed (show prog.funcs[F.maps_Keys_map_tuples_key_int64_tuples_key_int64__c1]? = some Try.f79 from Try.func79) rfl (by kernel_rfl) (by kernel_rfl) (by kernel_rfl) (Eq.mp (by kernel_rfl) h)

theorem maps_Keys_map_tuples_key_int64_tuples_key_int64__c1.enters : Enters prog F.maps_Keys_map_tuples_key_int64_tuples_key_int64__c1 :=
  Enters.of prog (show prog.funcs[F.maps_Keys_map_tuples_key_int64_tuples_key_int64__c1]? = some Try.f79 from Try.func79) rfl (by kernel_rfl)

/-- math/bits.Mul32 -/
def math_bits_Mul32.body (x y : Value) (w : World) (Q : Value → World → Prop) : Prop :=
  RunQ prog (convert T.t_uint32 T.t_uint64 x) w fun t8 =>
  RunQ prog (convert T.t_uint32 T.t_uint64 y) w fun t10 =>
  RunQ prog (binS .mul T.t_uint64 false false t8 t10) w fun t11 =>
  RunQ prog (binS .shr T.t_uint64 false true t11 (.int .u64 32)) w fun t13 =>
  RunQ prog (convert T.t_uint64 T.t_uint32 t13) w fun t14 =>
  RunQ prog (convert T.t_uint64 T.t_uint32 t11) w fun t16 =>
  Q (.tuple #[t14, t16]) w

theorem math_bits_Mul32.enter {x y : Value} {w : World} {Q : Value → World → Prop} (h : math_bits_Mul32.body x y w Q) : Cal prog F.math_bits_Mul32 [x, y] w Q :=
  Cal.enter' (P := prog) mixed (show prog.funcs[F.math_bits_Mul32]? = some Try.f80 from Try.func80) rfl (by kernel_rfl) (by kernel_rfl) (by kernel_rfl) (by kernel_rfl) (Eq.mp (by kernel_rfl) h)

/-- math/bits.Mul64 -/
def math_bits_Mul64.body (x y : Value) (w : World) (Q : Value → World → Prop) : Prop :=
  RunQ prog (binS .and T.t_uint64 false true x (.int .u64 4294967295)) w fun t15 =>
  RunQ prog (binS .shr T.t_uint64 false true x (.int .u64 32)) w fun t17 =>
  RunQ prog (binS .and T.t_uint64 false true y (.int .u64 4294967295)) w fun t19 =>
  RunQ prog (binS .shr T.t_uint64 false true y (.int .u64 32)) w fun t21 =>
  RunQ prog (binS .mul T.t_uint64 false false t15 t19) w fun t24 =>
  RunQ prog (binS .mul T.t_uint64 false false t17 t19) w fun t27 =>
  RunQ prog (binS .shr T.t_uint64 false true t24 (.int .u64 32)) w fun t29 =>
  RunQ prog (binS .add T.t_uint64 false false t27 t29) w fun t30 =>
  RunQ prog (binS .and T.t_uint64 false true t30 (.int .u64 4294967295)) w fun t32 =>
  RunQ prog (binS .shr T.t_uint64 false true t30 (.int .u64 32)) w fun t34 =>
  RunQ prog (binS .mul T.t_uint64 false false t15 t21) w fun t38 =>
  RunQ prog (binS .add T.t_uint64 false false t32 t38) w fun t39 =>
  RunQ prog (binS .mul T.t_uint64 false false t17 t21) w fun t42 =>
  RunQ prog (binS .add T.t_uint64 false false t42 t34) w fun t44 =>
  RunQ prog (binS .shr T.t_uint64 false true t39 (.int .u64 32)) w fun t46 =>
  RunQ prog (binS .add T.t_uint64 false false t44 t46) w fun t47 =>
  RunQ prog (binS .mul T.t_uint64 false false x y) w fun t50 =>
  Q (.tuple #[t47, t50]) w

theorem math_bits_Mul64.enter {x y : Value} {w : World} {Q : Value → World → Prop} (h : math_bits_Mul64.body x y w Q) : Cal prog F.math_bits_Mul64 [x, y] w Q :=
  Cal.enter' (P := prog) mixed (show prog.funcs[F.math_bits_Mul64]? = some Try.f81 from Try.func81) rfl (by kernel_rfl) (by kernel_rfl) (by kernel_rfl) (by kernel_rfl) (Eq.mp (by kernel_rfl) h)

/-- (pennyweight/shape.Shape).Step -/
def shape_Shape_Step.body (s i : Value) (w : World) (Q : Value → World → Prop) : Prop :=
  RunC prog (Instr.box T.t_shape_Shape s) w fun s_1 w1 =>
  JoinC (α := Value → World → Prop) (fun (t13 : Value) (w2 : World) =>
    Split t13 (Q (.int .i64 0) w2)
     (RunQ prog (Instr.fieldAt T.t_shape_Shape s_1 0) w2 fun t14 =>
  RunQ prog (Instr.loadAt T.t_sl_int t14) w2 fun t15 =>
  RunQ prog (binS .add T.t_int false true i (.int .i64 1)) w2 fun t17 =>
  RunQ prog (Instr.sliceAt T.t_sl_int t15 (some t17) none none) w2 fun t18 =>
  RunQ prog (Instr.build T.t_shape_Shape #[(0, t18)]) w2 fun t19 =>
  Cal prog F.shape_Shape_Count [t19] w2 fun t20 w3 =>
  Q t20 w3)) fun J =>
  RunQ prog (binS .lss T.t_int false true i (.int .i64 0)) w1 fun t6 =>
  Split t6 (J (.bool true) w1)
   (RunQ prog (Instr.fieldAt T.t_shape_Shape s_1 0) w1 fun t9 =>
  RunQ prog (Instr.loadAt T.t_sl_int t9) w1 fun t10 =>
  RunQ prog (Builtin.len_ #[T.t_sl_int] T.t_int #[t10]) w1 fun t11 =>
  RunQ prog (binS .geq T.t_int false false i t11) w1 fun t12 =>
  J t12 w1)

theorem shape_Shape_Step.enter {s i : Value} {w : World} {Q : Value → World → Prop} (h : shape_Shape_Step.body s i w Q) : Cal prog F.shape_Shape_Step [s, i] w Q :=
  Cal.enter' (P := prog) mixed (show prog.funcs[F.shape_Shape_Step]? = some Try.f82 from Try.func82) rfl (by kernel_rfl) (by kernel_rfl) (by kernel_rfl) (by kernel_rfl) (Eq.mp (by kernel_rfl) h)

/-- cmp.isNaN[int8] -/
def cmp_isNaN_int8.body (x : Value) (w : World) (Q : Value → World → Prop) : Prop :=
  RunQ prog (binS .neq T.t_int8 false false x x) w fun t5 =>
  Q t5 w

theorem cmp_isNaN_int8.enter {x : Value} {w : World} {Q : Value → World → Prop} (h : cmp_isNaN_int8.body x w Q) : Cal prog F.cmp_isNaN_int8 [x] w Q :=
  Cal.enter' (P := prog) mixed (show prog.funcs[F.cmp_isNaN_int8]? = some Try.f83 from Try.func83) rfl (by kernel_rfl) (by kernel_rfl) (by kernel_rfl) (by kernel_rfl) (Eq.mp (by kernel_rfl) h)

/-- slices.AppendSeq[[]pennyweight/tuples.key,pennyweight/tuples.key] -/
def slices_AppendSeq_pennyweight_tuples_key_pennyweight_tuples_key.body (s seq : Value) (w : World) (Q : Value → World → Prop) : Prop :=
  RunC prog (Instr.box T.t_sl_tuples_key s) w fun s_1 w1 =>
  Range1 prog seq w1 (fun t7 w2 k =>
    RunC prog (Instr.alloc T.t_tuples_key true (.tuple #[])) w2 fun v w3 =>
    RunC prog (Instr.storeAt T.t_tuples_key v t7) w3 fun (_ : Unit) w4 =>
    Over w4 fun w5 =>
    RunQ prog (Instr.loadAt T.t_sl_tuples_key s_1) w5 fun t8 =>
    RunQ prog (Instr.loadAt T.t_tuples_key v) w5 fun t9 =>
    RunC prog (Instr.buildSlice T.t_sl_tuples_key 1 #[(0, t9)]) w5 fun t10 w6 =>
    RunC prog (Builtin.append_ #[T.t_sl_tuples_key, T.t_sl_tuples_key] T.t_sl_tuples_key #[t8, t10]) w6 fun t11 w7 =>
    RunC prog (Instr.storeAt T.t_sl_tuples_key s_1 t11) w7 fun (_ : Unit) w8 =>
    k .normal w8)
   (fun w9 =>
    RunQ prog (Instr.loadAt T.t_sl_tuples_key s_1) w9 fun t12 =>
  Again w9 fun w10 => Q t12 w10)
   (fun _ => False)
   []

theorem slices_AppendSeq_pennyweight_tuples_key_pennyweight_tuples_key.enter {s seq : Value} {w : World} {Q : Value → World → Prop} (h : slices_AppendSeq_pennyweight_tuples_key_pennyweight_tuples_key.body s seq w Q) : Cal prog F.slices_AppendSeq_pennyweight_tuples_key_pennyweight_tuples_key [s, seq] w Q :=
  Cal.enter (P := prog) mixed (show prog.funcs[F.slices_AppendSeq_pennyweight_tuples_key_pennyweight_tuples_key]? = some Try.f84 from Try.func84) rfl (by kernel_rfl) (by kernel_rfl) (by kernel_rfl) (Eq.mp (by kernel_rfl) h)

/-- slices.pdqsortCmpFunc[pennyweight/tuples.key] -/
def slices_pdqsortCmpFunc_pennyweight_tuples_key.body (data a b limit cmp : Value) (w : World) (Q : Value → World → Prop) : Prop :=
  Loop5 a b limit (.bool true) (.bool true) w fun a_1 b_1 limit_1 wasBalanced wasPartitioned w1 k =>
    RunQ prog (binS .sub T.t_int false false b_1 a_1) w1 fun t23 =>
    RunQ prog (binS .leq T.t_int false true t23 (.int .i64 12)) w1 fun t25 =>
    Split t25 (Cal prog F.slices_insertionSortCmpFunc_pennyweight_tuples_key [data, a_1, b_1, cmp] w1 fun t30 w2 =>
     Q (.tuple #[]) w2)
     (RunQ prog (binS .eql T.t_int false true limit_1 (.int .i64 0)) w1 fun t32 =>
    Split t32 (Cal prog F.slices_heapSortCmpFunc_pennyweight_tuples_key [data, a_1, b_1, cmp] w1 fun t37 w3 =>
     Q (.tuple #[]) w3)
     (JoinC (α := Value → World → Prop) (fun (limit_2 : Value) (w4 : World) =>
      Cal prog F.slices_choosePivotCmpFunc_pennyweight_tuples_key [data, a_1, b_1, cmp] w4 fun t52 w5 =>
      RunQ prog (Instr.extract t52 0) w5 fun t53 =>
      RunQ prog (Instr.extract t52 1) w5 fun t54 =>
      JoinC (α := Value → Value → World → Prop) (fun (pivot hint : Value) (w6 : World) =>
        JoinC (α := World → Prop) (fun (w7 : World) =>
          JoinC (α := Value → World → Prop) (fun (t97 : Value) (w8 : World) =>
            Split t97 (Cal prog F.slices_partitionEqualCmpFunc_pennyweight_tuples_key [data, a_1, b_1, pivot, cmp] w8 fun t103 w9 =>
             k t103 b_1 limit_2 wasBalanced wasPartitioned w9)
             (Cal prog F.slices_partitionCmpFunc_pennyweight_tuples_key [data, a_1, b_1, pivot, cmp] w8 fun t111 w10 =>
          RunQ prog (Instr.extract t111 0) w10 fun t112 =>
          RunQ prog (Instr.extract t111 1) w10 fun t113 =>
          RunQ prog (binS .sub T.t_int false false t112 a_1) w10 fun t117 =>
          RunQ prog (binS .sub T.t_int false false b_1 t112) w10 fun t120 =>
          RunQ prog (binS .quo T.t_int false true t23 (.int .i64 8)) w10 fun t122 =>
          RunQ prog (binS .lss T.t_int false false t117 t120) w10 fun t125 =>
          Split t125 (RunQ prog (binS .geq T.t_int false false t117 t122) w10 fun t128 =>
           Cal prog F.slices_pdqsortCmpFunc_pennyweight_tuples_key [data, a_1, t112, limit_2, cmp] w10 fun t134 w11 =>
           RunQ prog (binS .add T.t_int false true t112 (.int .i64 1)) w11 fun t136 =>
           k t136 b_1 limit_2 t128 t113 w11)
           (RunQ prog (binS .geq T.t_int false false t120 t122) w10 fun t139 =>
           RunQ prog (binS .add T.t_int false true t112 (.int .i64 1)) w10 fun t142 =>
           Cal prog F.slices_pdqsortCmpFunc_pennyweight_tuples_key [data, t142, b_1, limit_2, cmp] w10 fun t146 w12 =>
           k a_1 t112 limit_2 t139 t113 w12))) fun J_3 =>
          Drew w7 fun w13 =>
          RunQ prog (binS .gtr T.t_int false true a_1 (.int .i64 0)) w13 fun t82 =>
          Split t82 (RunQ prog (binS .sub T.t_int false true a_1 (.int .i64 1)) w13 fun t87 =>
          RunQ prog (Instr.indexAt T.t_sl_tuples_key data t87) w13 fun t88 =>
          RunQ prog (Instr.loadAt T.t_tuples_key t88) w13 fun t89 =>
          RunQ prog (Instr.indexAt T.t_sl_tuples_key data pivot) w13 fun t92 =>
          RunQ prog (Instr.loadAt T.t_tuples_key t92) w13 fun t93 =>
          CalV prog false cmp [t89, t93] w13 fun t94 w14 =>
           RunQ prog (binS .lss T.t_int false true t94 (.int .i64 0)) w14 fun t95 =>
           RunQ prog (Op.unary .not t95) w14 fun t96 =>
           J_3 t96 w14)
           (J_3 (.bool false) w13)) fun J_2 =>
        JoinC (α := Value → World → Prop) (fun (t75 : Value) (w15 : World) =>
          Split t75 (Cal prog F.slices_partialInsertionSortCmpFunc_pennyweight_tuples_key [data, a_1, b_1, cmp] w15 fun t80 w16 =>
           Split t80 (Q (.tuple #[]) w16)
            (J_2 w16))
           (J_2 w15)) fun J_4 =>
        Split wasBalanced (Split wasPartitioned (RunQ prog (binS .eql T.t_slices_sortedHint false true hint (.int .i64 1)) w6 fun t74 =>
        J_4 t74 w6)
         (J_4 (.bool false) w6))
         (J_4 (.bool false) w6)) fun J_1 =>
      RunQ prog (binS .eql T.t_slices_sortedHint false true t54 (.int .i64 2)) w5 fun t56 =>
      Split t56 (Cal prog F.slices_reverseRangeCmpFunc_pennyweight_tuples_key [data, a_1, b_1, cmp] w5 fun t61 w17 =>
       RunQ prog (binS .sub T.t_int false true b_1 (.int .i64 1)) w17 fun t63 =>
       RunQ prog (binS .sub T.t_int false false t53 a_1) w17 fun t66 =>
       RunQ prog (binS .sub T.t_int false false t63 t66) w17 fun t67 =>
       J_1 t67 (.int .i64 1) w17)
       (J_1 t53 t54 w5)) fun J =>
    RunQ prog (Op.unary .not wasBalanced) w1 fun t39 =>
    Split t39 (Cal prog F.slices_breakPatternsCmpFunc_pennyweight_tuples_key [data, a_1, b_1, cmp] w1 fun t44 w18 =>
     RunQ prog (binS .sub T.t_int false true limit_1 (.int .i64 1)) w18 fun t46 =>
     J t46 w18)
     (J limit_1 w1)))

theorem slices_pdqsortCmpFunc_pennyweight_tuples_key.enter {data a b limit cmp : Value} {w : World} {Q : Value → World → Prop} (h : slices_pdqsortCmpFunc_pennyweight_tuples_key.body data a b limit cmp w Q) : Cal prog F.slices_pdqsortCmpFunc_pennyweight_tuples_key [data, a, b, limit, cmp] w Q :=
  Cal.enter' (P := prog) mixed (show prog.funcs[F.slices_pdqsortCmpFunc_pennyweight_tuples_key]? = some Try.f85 from Try.func85) rfl (by kernel_rfl) (by kernel_rfl) (by kernel_rfl) (by kernel_rfl) (Eq.mp (by kernel_rfl) h)

/-- math/bits.Len -/
def math_bits_Len.body (x : Value) (w : World) (Q : Value → World → Prop) : Prop :=
  Cal prog F.math_bits_Len64 [x] w fun t7 w1 =>
  Q t7 w1

theorem math_bits_Len.enter {x : Value} {w : World} {Q : Value → World → Prop} (h : math_bits_Len.body x w Q) : Cal prog F.math_bits_Len [x] w Q :=
  Cal.enter' (P := prog) mixed (show prog.funcs[F.math_bits_Len]? = some Try.f86 from Try.func86) rfl (by kernel_rfl) (by kernel_rfl) (by kernel_rfl) (by kernel_rfl) (Eq.mp (by kernel_rfl) h)

/-- slices.insertionSortCmpFunc[pennyweight/tuples.key] -/
def slices_insertionSortCmpFunc_pennyweight_tuples_key.body (data a b cmp : Value) (w : World) (Q : Value → World → Prop) : Prop :=
  RunQ prog (binS .add T.t_int false true a (.int .i64 1)) w fun t11 =>
  Loop1 t11 w fun i w1 k =>
    RunQ prog (binS .lss T.t_int false false i b) w1 fun t14 =>
    Split t14 (Loop1 i w1 fun j w2 k_1 =>
      JoinC (α := Value → World → Prop) (fun (t34 : Value) (w3 : World) =>
        Split t34 (Drew w3 fun w4 =>
      RunQ prog (binS .sub T.t_int false true j (.int .i64 1)) w4 fun t41 =>
      RunQ prog (binS .sub T.t_int false true j (.int .i64 1)) w4 fun t44 =>
      RunQ prog (Instr.indexAt T.t_sl_tuples_key data t44) w4 fun t45 =>
      RunQ prog (Instr.loadAt T.t_tuples_key t45) w4 fun t46 =>
      RunQ prog (Instr.indexAt T.t_sl_tuples_key data j) w4 fun t49 =>
      RunQ prog (Instr.loadAt T.t_tuples_key t49) w4 fun t50 =>
      RunQ prog (Instr.indexAt T.t_sl_tuples_key data j) w4 fun t51 =>
      RunC prog (Instr.storeAt T.t_tuples_key t51 t46) w4 fun (_ : Unit) w5 =>
       (Ext w4 w5 ∨ Stays prog (binS .sub T.t_int false true j (.int .i64 1)) t41 w5 ∧ True) ∧
      RunQ prog (Instr.indexAt T.t_sl_tuples_key data t41) w5 fun t52 =>
       RunC prog (Instr.storeAt T.t_tuples_key t52 t50) w5 fun (_ : Unit) w6 =>
        RunQ prog (binS .sub T.t_int false true j (.int .i64 1)) w6 fun t36 =>
      k_1 t36 w6)
         (RunQ prog (binS .add T.t_int false true i (.int .i64 1)) w3 fun t16 =>
    k t16 w3)) fun J =>
      Drew w2 fun w7 =>
      RunQ prog (binS .gtr T.t_int false false j a) w7 fun t20 =>
      Split t20 (RunQ prog (Instr.indexAt T.t_sl_tuples_key data j) w7 fun t25 =>
      RunQ prog (Instr.loadAt T.t_tuples_key t25) w7 fun t26 =>
      RunQ prog (binS .sub T.t_int false true j (.int .i64 1)) w7 fun t29 =>
      RunQ prog (Instr.indexAt T.t_sl_tuples_key data t29) w7 fun t30 =>
      RunQ prog (Instr.loadAt T.t_tuples_key t30) w7 fun t31 =>
      CalV prog false cmp [t26, t31] w7 fun t32 w8 =>
       RunQ prog (binS .lss T.t_int false true t32 (.int .i64 0)) w8 fun t33 =>
       J t33 w8)
       (J (.bool false) w7))
     (Q (.tuple #[]) w1)

theorem slices_insertionSortCmpFunc_pennyweight_tuples_key.enter {data a b cmp : Value} {w : World} {Q : Value → World → Prop} (h : slices_insertionSortCmpFunc_pennyweight_tuples_key.body data a b cmp w Q) : Cal prog F.slices_insertionSortCmpFunc_pennyweight_tuples_key [data, a, b, cmp] w Q :=
  Cal.enter' (P := prog) mixed (show prog.funcs[F.slices_insertionSortCmpFunc_pennyweight_tuples_key]? = some Try.f87 from Try.func87) rfl (by kernel_rfl) (by kernel_rfl) (by kernel_rfl) (by kernel_rfl) (Eq.mp (by kernel_rfl) h)

/-- slices.heapSortCmpFunc[pennyweight/tuples.key] -/
def slices_heapSortCmpFunc_pennyweight_tuples_key.body (data a b cmp : Value) (w : World) (Q : Value → World → Prop) : Prop :=
  RunQ prog (binS .sub T.t_int false false b a) w fun t16 =>
  RunQ prog (binS .sub T.t_int false true t16 (.int .i64 1)) w fun t18 =>
  RunQ prog (binS .quo T.t_int false true t18 (.int .i64 2)) w fun t19 =>
  Loop1 t19 w fun i w1 k =>
    RunQ prog (binS .geq T.t_int false true i (.int .i64 0)) w1 fun t21 =>
    Split t21 (Cal prog F.slices_siftDownCmpFunc_pennyweight_tuples_key [data, i, t16, a, cmp] w1 fun t29 w2 =>
    RunQ prog (binS .sub T.t_int false true i (.int .i64 1)) w2 fun t23 =>
    k t23 w2)
     (RunQ prog (binS .sub T.t_int false true t16 (.int .i64 1)) w1 fun t31 =>
  Loop1 t31 w1 fun i_1 w3 k_1 =>
    RunQ prog (binS .geq T.t_int false true i_1 (.int .i64 0)) w3 fun t33 =>
    Split t33 (Drew w3 fun w4 =>
    RunQ prog (binS .add T.t_int false false a i_1) w4 fun t41 =>
    RunQ prog (binS .add T.t_int false false a i_1) w4 fun t45 =>
    RunQ prog (Instr.indexAt T.t_sl_tuples_key data t45) w4 fun t46 =>
    RunQ prog (Instr.loadAt T.t_tuples_key t46) w4 fun t47 =>
    RunQ prog (Instr.indexAt T.t_sl_tuples_key data a) w4 fun t50 =>
    RunQ prog (Instr.loadAt T.t_tuples_key t50) w4 fun t51 =>
    RunQ prog (Instr.indexAt T.t_sl_tuples_key data a) w4 fun t52 =>
    RunC prog (Instr.storeAt T.t_tuples_key t52 t47) w4 fun (_ : Unit) w5 =>
     (Ext w4 w5 ∨ Stays prog (binS .add T.t_int false false a i_1) t41 w5 ∧ True) ∧
    RunQ prog (Instr.indexAt T.t_sl_tuples_key data t41) w5 fun t53 =>
     RunC prog (Instr.storeAt T.t_tuples_key t53 t51) w5 fun (_ : Unit) w6 =>
      Cal prog F.slices_siftDownCmpFunc_pennyweight_tuples_key [data, (.int .i64 0), i_1, a, cmp] w6 fun t59 w7 =>
    RunQ prog (binS .sub T.t_int false true i_1 (.int .i64 1)) w7 fun t35 =>
    k_1 t35 w7)
     (Q (.tuple #[]) w3))

theorem slices_heapSortCmpFunc_pennyweight_tuples_key.enter {data a b cmp : Value} {w : World} {Q : Value → World → Prop} (h : slices_heapSortCmpFunc_pennyweight_tuples_key.body data a b cmp w Q) : Cal prog F.slices_heapSortCmpFunc_pennyweight_tuples_key [data, a, b, cmp] w Q :=
  Cal.enter' (P := prog) mixed (show prog.funcs[F.slices_heapSortCmpFunc_pennyweight_tuples_key]? = some Try.f88 from Try.func88) rfl (by kernel_rfl) (by kernel_rfl) (by kernel_rfl) (by kernel_rfl) (Eq.mp (by kernel_rfl) h)

/-- slices.breakPatternsCmpFunc[pennyweight/tuples.key] -/
def slices_breakPatternsCmpFunc_pennyweight_tuples_key.body (data a b cmp : Value) (w : World) (Q : Value → World → Prop) : Prop :=
  RunQ prog (binS .sub T.t_int false false b a) w fun t15 =>
  RunQ prog (binS .geq T.t_int false true t15 (.int .i64 8)) w fun t17 =>
  Split t17 (RunQ prog (convert T.t_int T.t_slices_xorshift t15) w fun t19 =>
   RunC prog (Instr.alloc T.t_slices_xorshift true (.tuple #[])) w fun random w1 =>
   RunC prog (Instr.storeAt T.t_slices_xorshift random t19) w1 fun (_ : Unit) w2 =>
   Cal prog F.slices_nextPowerOfTwo [t15] w2 fun t21 w3 =>
   RunQ prog (binS .quo T.t_int false true t15 (.int .i64 4)) w3 fun t24 =>
   RunQ prog (binS .mul T.t_int false true t24 (.int .i64 2)) w3 fun t25 =>
   RunQ prog (binS .add T.t_int false false a t25) w3 fun t26 =>
   RunQ prog (binS .sub T.t_int false true t26 (.int .i64 1)) w3 fun t27 =>
   Loop1 t27 w3 fun idx w4 k =>
     RunQ prog (binS .quo T.t_int false true t15 (.int .i64 4)) w4 fun t31 =>
     RunQ prog (binS .mul T.t_int false true t31 (.int .i64 2)) w4 fun t32 =>
     RunQ prog (binS .add T.t_int false false a t32) w4 fun t33 =>
     RunQ prog (binS .add T.t_int false true t33 (.int .i64 1)) w4 fun t34 =>
     RunQ prog (binS .leq T.t_int false false idx t34) w4 fun t35 =>
     Split t35 (Cal prog F.P_slices_xorshift_Next [random] w4 fun t38 w5 =>
     RunQ prog (binS .sub T.t_uint false true t21 (.int .u64 1)) w5 fun t40 =>
     RunQ prog (binS .and T.t_uint false false t38 t40) w5 fun t41 =>
     RunQ prog (convert T.t_uint T.t_int t41) w5 fun t42 =>
     JoinC (α := Value → World → Prop) (fun (other : Value) (w6 : World) =>
       Drew w6 fun w7 =>
       RunQ prog (binS .add T.t_int false false a other) w7 fun t54 =>
       RunQ prog (binS .add T.t_int false false a other) w7 fun t58 =>
       RunQ prog (Instr.indexAt T.t_sl_tuples_key data t58) w7 fun t59 =>
       RunQ prog (Instr.loadAt T.t_tuples_key t59) w7 fun t60 =>
       RunQ prog (Instr.indexAt T.t_sl_tuples_key data idx) w7 fun t63 =>
       RunQ prog (Instr.loadAt T.t_tuples_key t63) w7 fun t64 =>
       RunQ prog (Instr.indexAt T.t_sl_tuples_key data idx) w7 fun t65 =>
       RunC prog (Instr.storeAt T.t_tuples_key t65 t60) w7 fun (_ : Unit) w8 =>
        (Ext w7 w8 ∨ Stays prog (binS .add T.t_int false false a other) t54 w8 ∧ True) ∧
       RunQ prog (Instr.indexAt T.t_sl_tuples_key data t54) w8 fun t66 =>
        RunC prog (Instr.storeAt T.t_tuples_key t66 t64) w8 fun (_ : Unit) w9 =>
         RunQ prog (binS .add T.t_int false true idx (.int .i64 1)) w9 fun t37 =>
     k t37 w9) fun J =>
     RunQ prog (binS .geq T.t_int false false t42 t15) w5 fun t45 =>
     Split t45 (RunQ prog (binS .sub T.t_int false false t42 t15) w5 fun t48 =>
      J t48 w5)
      (J t42 w5))
      (Q (.tuple #[]) w4))
   (Q (.tuple #[]) w)

theorem slices_breakPatternsCmpFunc_pennyweight_tuples_key.enter {data a b cmp : Value} {w : World} {Q : Value → World → Prop} (h : slices_breakPatternsCmpFunc_pennyweight_tuples_key.body data a b cmp w Q) : Cal prog F.slices_breakPatternsCmpFunc_pennyweight_tuples_key [data, a, b, cmp] w Q :=
  Cal.enter' (P := prog) mixed (show prog.funcs[F.slices_breakPatternsCmpFunc_pennyweight_tuples_key]? = some Try.f89 from Try.func89) rfl (by kernel_rfl) (by kernel_rfl) (by kernel_rfl) (by kernel_rfl) (Eq.mp (by kernel_rfl) h)

/-- slices.choosePivotCmpFunc[pennyweight/tuples.key] -/
def slices_choosePivotCmpFunc_pennyweight_tuples_key.body (data a b cmp : Value) (w : World) (Q : Value → World → Prop) : Prop :=
  RunQ prog (binS .sub T.t_int false false b a) w fun t17 =>
  RunC prog (Instr.alloc T.t_int true (.tuple #[])) w fun swaps w1 =>
  RunQ prog (binS .quo T.t_int false true t17 (.int .i64 4)) w1 fun t20 =>
  RunQ prog (binS .mul T.t_int false true t20 (.int .i64 1)) w1 fun t21 =>
  RunQ prog (binS .add T.t_int false false a t21) w1 fun t22 =>
  RunQ prog (binS .quo T.t_int false true t17 (.int .i64 4)) w1 fun t25 =>
  RunQ prog (binS .mul T.t_int false true t25 (.int .i64 2)) w1 fun t26 =>
  RunQ prog (binS .add T.t_int false false a t26) w1 fun t27 =>
  RunQ prog (binS .quo T.t_int false true t17 (.int .i64 4)) w1 fun t30 =>
  RunQ prog (binS .mul T.t_int false true t30 (.int .i64 3)) w1 fun t31 =>
  RunQ prog (binS .add T.t_int false false a t31) w1 fun t32 =>
  JoinC (α := Value → World → Prop) (fun (j : Value) (w2 : World) =>
    RunQ prog (Instr.loadAt T.t_int swaps) w2 fun t55 =>
    RunQ prog (binS .eql T.t_int false true t55 (.int .i64 0)) w2 fun t58 =>
    Split t58 (Q (.tuple #[j, (.int .i64 1)]) w2)
     (RunQ prog (binS .eql T.t_int false true t55 (.int .i64 12)) w2 fun t61 =>
     Split t61 (Q (.tuple #[j, (.int .i64 2)]) w2)
      (Q (.tuple #[j, (.int .i64 0)]) w2))) fun J =>
  RunQ prog (binS .geq T.t_int false true t17 (.int .i64 8)) w1 fun t34 =>
  Split t34 (JoinC (α := Value → Value → Value → World → Prop) (fun (i j_1 k : Value) (w3 : World) =>
     Cal prog F.slices_medianCmpFunc_pennyweight_tuples_key [data, i, j_1, k, swaps, cmp] w3 fun t54 w4 =>
     J t54 w4) fun J_1 =>
   RunQ prog (binS .geq T.t_int false true t17 (.int .i64 50)) w1 fun t36 =>
   Split t36 (Cal prog F.slices_medianAdjacentCmpFunc_pennyweight_tuples_key [data, t22, swaps, cmp] w1 fun t40 w5 =>
    Cal prog F.slices_medianAdjacentCmpFunc_pennyweight_tuples_key [data, t27, swaps, cmp] w5 fun t44 w6 =>
    Cal prog F.slices_medianAdjacentCmpFunc_pennyweight_tuples_key [data, t32, swaps, cmp] w6 fun t48 w7 =>
    J_1 t40 t44 t48 w7)
    (J_1 t22 t27 t32 w1))
   (J t27 w1)

theorem slices_choosePivotCmpFunc_pennyweight_tuples_key.enter {data a b cmp : Value} {w : World} {Q : Value → World → Prop} (h : slices_choosePivotCmpFunc_pennyweight_tuples_key.body data a b cmp w Q) : Cal prog F.slices_choosePivotCmpFunc_pennyweight_tuples_key [data, a, b, cmp] w Q :=
  Cal.enter' (P := prog) mixed (show prog.funcs[F.slices_choosePivotCmpFunc_pennyweight_tuples_key]? = some Try.f90 from Try.func90) rfl (by kernel_rfl) (by kernel_rfl) (by kernel_rfl) (by kernel_rfl) (Eq.mp (by kernel_rfl) h)

/-- slices.reverseRangeCmpFunc[pennyweight/tuples.key] -/
def slices_reverseRangeCmpFunc_pennyweight_tuples_key.body (data a b cmp : Value) (w : World) (Q : Value → World → Prop) : Prop :=
  RunQ prog (binS .sub T.t_int false true b (.int .i64 1)) w fun t12 =>
  Loop2 a t12 w fun i j w1 k =>
    RunQ prog (binS .lss T.t_int false false i j) w1 fun t15 =>
    Split t15 (Drew w1 fun w2 =>
    RunQ prog (Instr.indexAt T.t_sl_tuples_key data j) w2 fun t22 =>
    RunQ prog (Instr.loadAt T.t_tuples_key t22) w2 fun t23 =>
    RunQ prog (Instr.indexAt T.t_sl_tuples_key data i) w2 fun t26 =>
    RunQ prog (Instr.loadAt T.t_tuples_key t26) w2 fun t27 =>
    RunQ prog (Instr.indexAt T.t_sl_tuples_key data i) w2 fun t28 =>
    RunC prog (Instr.storeAt T.t_tuples_key t28 t23) w2 fun (_ : Unit) w3 =>
     RunQ prog (Instr.indexAt T.t_sl_tuples_key data j) w3 fun t29 =>
     RunC prog (Instr.storeAt T.t_tuples_key t29 t27) w3 fun (_ : Unit) w4 =>
      RunQ prog (binS .add T.t_int false true i (.int .i64 1)) w4 fun t31 =>
    RunQ prog (binS .sub T.t_int false true j (.int .i64 1)) w4 fun t33 =>
    k t31 t33 w4)
     (Q (.tuple #[]) w1)

theorem slices_reverseRangeCmpFunc_pennyweight_tuples_key.enter {data a b cmp : Value} {w : World} {Q : Value → World → Prop} (h : slices_reverseRangeCmpFunc_pennyweight_tuples_key.body data a b cmp w Q) : Cal prog F.slices_reverseRangeCmpFunc_pennyweight_tuples_key [data, a, b, cmp] w Q :=
  Cal.enter' (P := prog) mixed (show prog.funcs[F.slices_reverseRangeCmpFunc_pennyweight_tuples_key]? = some Try.f91 from Try.func91) rfl (by kernel_rfl) (by kernel_rfl) (by kernel_rfl) (by kernel_rfl) (Eq.mp (by kernel_rfl) h)

/-- slices.partialInsertionSortCmpFunc[pennyweight/tuples.key] -/
def slices_partialInsertionSortCmpFunc_pennyweight_tuples_key.body (data a b cmp : Value) (w : World) (Q : Value → World → Prop) : Prop :=
  RunQ prog (binS .add T.t_int false true a (.int .i64 1)) w fun t14 =>
  Loop3 (.bool false) t14 (.int .i64 0) w fun t8 i j w1 k =>
    RunQ prog (binS .lss T.t_int false true j (.int .i64 5)) w1 fun t16 =>
    Split t16 (JoinC (α := Value → Value → World → Prop) (fun (t8_1 i_1 : Value) (w2 : World) =>
      RunQ prog (binS .add T.t_int false true j (.int .i64 1)) w2 fun t18 =>
      k t8_1 i_1 t18 w2) fun J =>
    Loop1 i w1 fun i_2 w3 k_1 =>
      JoinC (α := Value → World → Prop) (fun (t36 : Value) (w4 : World) =>
        Split t36 (RunQ prog (binS .add T.t_int false true i_2 (.int .i64 1)) w4 fun t38 =>
      k_1 t38 w4)
         (RunQ prog (binS .eql T.t_int false false i_2 b) w4 fun t41 =>
    Split t41 (Q (.bool true) w4)
     (RunQ prog (binS .sub T.t_int false false b a) w4 fun t44 =>
    RunQ prog (binS .lss T.t_int false true t44 (.int .i64 50)) w4 fun t45 =>
    Split t45 (Q (.bool false) w4)
     (Drew w4 fun w5 =>
    RunQ prog (binS .sub T.t_int false true i_2 (.int .i64 1)) w5 fun t50 =>
    RunQ prog (binS .sub T.t_int false true i_2 (.int .i64 1)) w5 fun t53 =>
    RunQ prog (Instr.indexAt T.t_sl_tuples_key data t53) w5 fun t54 =>
    RunQ prog (Instr.loadAt T.t_tuples_key t54) w5 fun t55 =>
    RunQ prog (Instr.indexAt T.t_sl_tuples_key data i_2) w5 fun t58 =>
    RunQ prog (Instr.loadAt T.t_tuples_key t58) w5 fun t59 =>
    RunQ prog (Instr.indexAt T.t_sl_tuples_key data i_2) w5 fun t60 =>
    RunC prog (Instr.storeAt T.t_tuples_key t60 t55) w5 fun (_ : Unit) w6 =>
     (Ext w5 w6 ∨ Stays prog (binS .sub T.t_int false true i_2 (.int .i64 1)) t50 w6 ∧ True) ∧
    RunQ prog (Instr.indexAt T.t_sl_tuples_key data t50) w6 fun t61 =>
     RunC prog (Instr.storeAt T.t_tuples_key t61 t59) w6 fun (_ : Unit) w7 =>
      JoinC (α := World → Prop) (fun (w8 : World) =>
      RunQ prog (binS .sub T.t_int false false b i_2) w8 fun t103 =>
      RunQ prog (binS .geq T.t_int false true t103 (.int .i64 2)) w8 fun t104 =>
      Split t104 (RunQ prog (binS .add T.t_int false true i_2 (.int .i64 1)) w8 fun t106 =>
       Loop1 t106 w8 fun j_1 w9 k_2 =>
         RunQ prog (binS .lss T.t_int false false j_1 b) w9 fun t109 =>
         Split t109 (Drew w9 fun w10 =>
         RunQ prog (Instr.indexAt T.t_sl_tuples_key data j_1) w10 fun t115 =>
         RunQ prog (Instr.loadAt T.t_tuples_key t115) w10 fun t116 =>
         RunQ prog (binS .sub T.t_int false true j_1 (.int .i64 1)) w10 fun t119 =>
         RunQ prog (Instr.indexAt T.t_sl_tuples_key data t119) w10 fun t120 =>
         RunQ prog (Instr.loadAt T.t_tuples_key t120) w10 fun t121 =>
         CalV prog false cmp [t116, t121] w10 fun t122 w11 =>
          RunQ prog (binS .lss T.t_int false true t122 (.int .i64 0)) w11 fun t123 =>
          RunQ prog (Op.unary .not t123) w11 fun t124 =>
          Split t124 (J t8 i_2 w11)
          (Drew w11 fun w12 =>
         RunQ prog (binS .sub T.t_int false true j_1 (.int .i64 1)) w12 fun t129 =>
         RunQ prog (binS .sub T.t_int false true j_1 (.int .i64 1)) w12 fun t132 =>
         RunQ prog (Instr.indexAt T.t_sl_tuples_key data t132) w12 fun t133 =>
         RunQ prog (Instr.loadAt T.t_tuples_key t133) w12 fun t134 =>
         RunQ prog (Instr.indexAt T.t_sl_tuples_key data j_1) w12 fun t137 =>
         RunQ prog (Instr.loadAt T.t_tuples_key t137) w12 fun t138 =>
         RunQ prog (Instr.indexAt T.t_sl_tuples_key data j_1) w12 fun t139 =>
         RunC prog (Instr.storeAt T.t_tuples_key t139 t134) w12 fun (_ : Unit) w13 =>
          (Ext w12 w13 ∨ Stays prog (binS .sub T.t_int false true j_1 (.int .i64 1)) t129 w13 ∧ True) ∧
         RunQ prog (Instr.indexAt T.t_sl_tuples_key data t129) w13 fun t140 =>
          RunC prog (Instr.storeAt T.t_tuples_key t140 t138) w13 fun (_ : Unit) w14 =>
           RunQ prog (binS .add T.t_int false true j_1 (.int .i64 1)) w14 fun t111 =>
         k_2 t111 w14))
          (J t8 i_2 w9))
       (J t8 i_2 w8)) fun J_2 =>
    RunQ prog (binS .sub T.t_int false false i_2 a) w7 fun t64 =>
    RunQ prog (binS .geq T.t_int false true t64 (.int .i64 2)) w7 fun t65 =>
    Split t65 (RunQ prog (binS .sub T.t_int false true i_2 (.int .i64 1)) w7 fun t67 =>
     Loop1 t67 w7 fun j_2 w15 k_3 =>
       RunQ prog (binS .geq T.t_int false true j_2 (.int .i64 1)) w15 fun t69 =>
       Split t69 (Drew w15 fun w16 =>
       RunQ prog (Instr.indexAt T.t_sl_tuples_key data j_2) w16 fun t75 =>
       RunQ prog (Instr.loadAt T.t_tuples_key t75) w16 fun t76 =>
       RunQ prog (binS .sub T.t_int false true j_2 (.int .i64 1)) w16 fun t79 =>
       RunQ prog (Instr.indexAt T.t_sl_tuples_key data t79) w16 fun t80 =>
       RunQ prog (Instr.loadAt T.t_tuples_key t80) w16 fun t81 =>
       CalV prog false cmp [t76, t81] w16 fun t82 w17 =>
        RunQ prog (binS .lss T.t_int false true t82 (.int .i64 0)) w17 fun t83 =>
        RunQ prog (Op.unary .not t83) w17 fun t84 =>
        Split t84 (J_2 w17)
        (Drew w17 fun w18 =>
       RunQ prog (binS .sub T.t_int false true j_2 (.int .i64 1)) w18 fun t89 =>
       RunQ prog (binS .sub T.t_int false true j_2 (.int .i64 1)) w18 fun t92 =>
       RunQ prog (Instr.indexAt T.t_sl_tuples_key data t92) w18 fun t93 =>
       RunQ prog (Instr.loadAt T.t_tuples_key t93) w18 fun t94 =>
       RunQ prog (Instr.indexAt T.t_sl_tuples_key data j_2) w18 fun t97 =>
       RunQ prog (Instr.loadAt T.t_tuples_key t97) w18 fun t98 =>
       RunQ prog (Instr.indexAt T.t_sl_tuples_key data j_2) w18 fun t99 =>
       RunC prog (Instr.storeAt T.t_tuples_key t99 t94) w18 fun (_ : Unit) w19 =>
        (Ext w18 w19 ∨ Stays prog (binS .sub T.t_int false true j_2 (.int .i64 1)) t89 w19 ∧ True) ∧
       RunQ prog (Instr.indexAt T.t_sl_tuples_key data t89) w19 fun t100 =>
        RunC prog (Instr.storeAt T.t_tuples_key t100 t98) w19 fun (_ : Unit) w20 =>
         RunQ prog (binS .sub T.t_int false true j_2 (.int .i64 1)) w20 fun t71 =>
       k_3 t71 w20))
        (J_2 w15))
     (J_2 w7))))) fun J_1 =>
      Drew w3 fun w21 =>
      RunQ prog (binS .lss T.t_int false false i_2 b) w21 fun t21 =>
      Split t21 (RunQ prog (Instr.indexAt T.t_sl_tuples_key data i_2) w21 fun t26 =>
      RunQ prog (Instr.loadAt T.t_tuples_key t26) w21 fun t27 =>
      RunQ prog (binS .sub T.t_int false true i_2 (.int .i64 1)) w21 fun t30 =>
      RunQ prog (Instr.indexAt T.t_sl_tuples_key data t30) w21 fun t31 =>
      RunQ prog (Instr.loadAt T.t_tuples_key t31) w21 fun t32 =>
      CalV prog false cmp [t27, t32] w21 fun t33 w22 =>
       RunQ prog (binS .lss T.t_int false true t33 (.int .i64 0)) w22 fun t34 =>
       RunQ prog (Op.unary .not t34) w22 fun t35 =>
       J_1 t35 w22)
       (J_1 (.bool false) w21))
     (Q (.bool false) w1)

theorem slices_partialInsertionSortCmpFunc_pennyweight_tuples_key.enter {data a b cmp : Value} {w : World} {Q : Value → World → Prop} (h : slices_partialInsertionSortCmpFunc_pennyweight_tuples_key.body data a b cmp w Q) : Cal prog F.slices_partialInsertionSortCmpFunc_pennyweight_tuples_key [data, a, b, cmp] w Q :=
  Cal.enter' (P := prog) mixed (show prog.funcs[F.slices_partialInsertionSortCmpFunc_pennyweight_tuples_key]? = some Try.f92 from Try.func92) rfl (by kernel_rfl) (by kernel_rfl) (by kernel_rfl) (by kernel_rfl) (Eq.mp (by kernel_rfl) h)

/-- slices.partitionEqualCmpFunc[pennyweight/tuples.key] -/
def slices_partitionEqualCmpFunc_pennyweight_tuples_key.body (data a b pivot cmp : Value) (w : World) (Q : Value → World → Prop) : Prop :=
  Drew w fun w1 =>
  RunQ prog (Instr.indexAt T.t_sl_tuples_key data pivot) w1 fun t19 =>
  RunQ prog (Instr.loadAt T.t_tuples_key t19) w1 fun t20 =>
  RunQ prog (Instr.indexAt T.t_sl_tuples_key data a) w1 fun t23 =>
  RunQ prog (Instr.loadAt T.t_tuples_key t23) w1 fun t24 =>
  RunQ prog (Instr.indexAt T.t_sl_tuples_key data a) w1 fun t25 =>
  RunC prog (Instr.storeAt T.t_tuples_key t25 t20) w1 fun (_ : Unit) w2 =>
   RunQ prog (Instr.indexAt T.t_sl_tuples_key data pivot) w2 fun t26 =>
   RunC prog (Instr.storeAt T.t_tuples_key t26 t24) w2 fun (_ : Unit) w3 =>
    RunQ prog (binS .add T.t_int false true a (.int .i64 1)) w3 fun t28 =>
  RunQ prog (binS .sub T.t_int false true b (.int .i64 1)) w3 fun t30 =>
  Loop2 t28 t30 w3 fun i j w4 k =>
    Loop1 i w4 fun i_1 w5 k_1 =>
      JoinC (α := Value → World → Prop) (fun (t47 : Value) (w6 : World) =>
        Split t47 (RunQ prog (binS .add T.t_int false true i_1 (.int .i64 1)) w6 fun t49 =>
      k_1 t49 w6)
         (Loop1 j w6 fun j_1 w7 k_2 =>
      JoinC (α := Value → World → Prop) (fun (t65 : Value) (w8 : World) =>
        Split t65 (RunQ prog (binS .sub T.t_int false true j_1 (.int .i64 1)) w8 fun t67 =>
      k_2 t67 w8)
         (RunQ prog (binS .gtr T.t_int false false i_1 j_1) w8 fun t70 =>
    Split t70 (Q i_1 w8)
     (Drew w8 fun w9 =>
    RunQ prog (Instr.indexAt T.t_sl_tuples_key data j_1) w9 fun t77 =>
    RunQ prog (Instr.loadAt T.t_tuples_key t77) w9 fun t78 =>
    RunQ prog (Instr.indexAt T.t_sl_tuples_key data i_1) w9 fun t81 =>
    RunQ prog (Instr.loadAt T.t_tuples_key t81) w9 fun t82 =>
    RunQ prog (Instr.indexAt T.t_sl_tuples_key data i_1) w9 fun t83 =>
    RunC prog (Instr.storeAt T.t_tuples_key t83 t78) w9 fun (_ : Unit) w10 =>
     RunQ prog (Instr.indexAt T.t_sl_tuples_key data j_1) w10 fun t84 =>
     RunC prog (Instr.storeAt T.t_tuples_key t84 t82) w10 fun (_ : Unit) w11 =>
      RunQ prog (binS .add T.t_int false true i_1 (.int .i64 1)) w11 fun t86 =>
    RunQ prog (binS .sub T.t_int false true j_1 (.int .i64 1)) w11 fun t88 =>
    k t86 t88 w11))) fun J_1 =>
      Drew w7 fun w12 =>
      RunQ prog (binS .leq T.t_int false false i_1 j_1) w12 fun t52 =>
      Split t52 (RunQ prog (Instr.indexAt T.t_sl_tuples_key data a) w12 fun t57 =>
      RunQ prog (Instr.loadAt T.t_tuples_key t57) w12 fun t58 =>
      RunQ prog (Instr.indexAt T.t_sl_tuples_key data j_1) w12 fun t61 =>
      RunQ prog (Instr.loadAt T.t_tuples_key t61) w12 fun t62 =>
      CalV prog false cmp [t58, t62] w12 fun t63 w13 =>
       RunQ prog (binS .lss T.t_int false true t63 (.int .i64 0)) w13 fun t64 =>
       J_1 t64 w13)
       (J_1 (.bool false) w12))) fun J =>
      Drew w5 fun w14 =>
      RunQ prog (binS .leq T.t_int false false i_1 j) w14 fun t33 =>
      Split t33 (RunQ prog (Instr.indexAt T.t_sl_tuples_key data a) w14 fun t38 =>
      RunQ prog (Instr.loadAt T.t_tuples_key t38) w14 fun t39 =>
      RunQ prog (Instr.indexAt T.t_sl_tuples_key data i_1) w14 fun t42 =>
      RunQ prog (Instr.loadAt T.t_tuples_key t42) w14 fun t43 =>
      CalV prog false cmp [t39, t43] w14 fun t44 w15 =>
       RunQ prog (binS .lss T.t_int false true t44 (.int .i64 0)) w15 fun t45 =>
       RunQ prog (Op.unary .not t45) w15 fun t46 =>
       J t46 w15)
       (J (.bool false) w14)

theorem slices_partitionEqualCmpFunc_pennyweight_tuples_key.enter {data a b pivot cmp : Value} {w : World} {Q : Value → World → Prop} (h : slices_partitionEqualCmpFunc_pennyweight_tuples_key.body data a b pivot cmp w Q) : Cal prog F.slices_partitionEqualCmpFunc_pennyweight_tuples_key [data, a, b, pivot, cmp] w Q :=
  Cal.enter' (P := prog) mixed (show prog.funcs[F.slices_partitionEqualCmpFunc_pennyweight_tuples_key]? = some Try.f93 from Try.func93) rfl (by kernel_rfl) (by kernel_rfl) (by kernel_rfl) (by kernel_rfl) (Eq.mp (by kernel_rfl) h)

/-- slices.partitionCmpFunc[pennyweight/tuples.key] -/
def slices_partitionCmpFunc_pennyweight_tuples_key.body (data a b pivot cmp : Value) (w : World) (Q : Value → World → Prop) : Prop :=
  Drew w fun w1 =>
  RunQ prog (Instr.indexAt T.t_sl_tuples_key data pivot) w1 fun t20 =>
  RunQ prog (Instr.loadAt T.t_tuples_key t20) w1 fun t21 =>
  RunQ prog (Instr.indexAt T.t_sl_tuples_key data a) w1 fun t24 =>
  RunQ prog (Instr.loadAt T.t_tuples_key t24) w1 fun t25 =>
  RunQ prog (Instr.indexAt T.t_sl_tuples_key data a) w1 fun t26 =>
  RunC prog (Instr.storeAt T.t_tuples_key t26 t21) w1 fun (_ : Unit) w2 =>
   RunQ prog (Instr.indexAt T.t_sl_tuples_key data pivot) w2 fun t27 =>
   RunC prog (Instr.storeAt T.t_tuples_key t27 t25) w2 fun (_ : Unit) w3 =>
    RunQ prog (binS .add T.t_int false true a (.int .i64 1)) w3 fun t29 =>
  RunQ prog (binS .sub T.t_int false true b (.int .i64 1)) w3 fun t31 =>
  Loop1 t29 w3 fun i w4 k =>
    JoinC (α := Value → World → Prop) (fun (t47 : Value) (w5 : World) =>
      Split t47 (RunQ prog (binS .add T.t_int false true i (.int .i64 1)) w5 fun t49 =>
    k t49 w5)
       (Loop1 t31 w5 fun j w6 k_1 =>
    JoinC (α := Value → World → Prop) (fun (t66 : Value) (w7 : World) =>
      Split t66 (RunQ prog (binS .sub T.t_int false true j (.int .i64 1)) w7 fun t68 =>
    k_1 t68 w7)
       (RunQ prog (binS .gtr T.t_int false false i j) w7 fun t71 =>
  Split t71 (Drew w7 fun w8 =>
   RunQ prog (Instr.indexAt T.t_sl_tuples_key data a) w8 fun t78 =>
   RunQ prog (Instr.loadAt T.t_tuples_key t78) w8 fun t79 =>
   RunQ prog (Instr.indexAt T.t_sl_tuples_key data j) w8 fun t82 =>
   RunQ prog (Instr.loadAt T.t_tuples_key t82) w8 fun t83 =>
   RunQ prog (Instr.indexAt T.t_sl_tuples_key data j) w8 fun t84 =>
   RunC prog (Instr.storeAt T.t_tuples_key t84 t79) w8 fun (_ : Unit) w9 =>
    RunQ prog (Instr.indexAt T.t_sl_tuples_key data a) w9 fun t85 =>
    RunC prog (Instr.storeAt T.t_tuples_key t85 t83) w9 fun (_ : Unit) w10 =>
     Q (.tuple #[j, (.bool true)]) w10)
   (Drew w7 fun w11 =>
  RunQ prog (Instr.indexAt T.t_sl_tuples_key data j) w11 fun t93 =>
  RunQ prog (Instr.loadAt T.t_tuples_key t93) w11 fun t94 =>
  RunQ prog (Instr.indexAt T.t_sl_tuples_key data i) w11 fun t97 =>
  RunQ prog (Instr.loadAt T.t_tuples_key t97) w11 fun t98 =>
  RunQ prog (Instr.indexAt T.t_sl_tuples_key data i) w11 fun t99 =>
  RunC prog (Instr.storeAt T.t_tuples_key t99 t94) w11 fun (_ : Unit) w12 =>
   RunQ prog (Instr.indexAt T.t_sl_tuples_key data j) w12 fun t100 =>
   RunC prog (Instr.storeAt T.t_tuples_key t100 t98) w12 fun (_ : Unit) w13 =>
    RunQ prog (binS .add T.t_int false true i (.int .i64 1)) w13 fun t102 =>
  RunQ prog (binS .sub T.t_int false true j (.int .i64 1)) w13 fun t104 =>
  Loop2 t102 t104 w13 fun i_1 j_1 w14 k_2 =>
    Loop1 i_1 w14 fun i_2 w15 k_3 =>
      JoinC (α := Value → World → Prop) (fun (t120 : Value) (w16 : World) =>
        Split t120 (RunQ prog (binS .add T.t_int false true i_2 (.int .i64 1)) w16 fun t122 =>
      k_3 t122 w16)
         (Loop1 j_1 w16 fun j_2 w17 k_4 =>
      JoinC (α := Value → World → Prop) (fun (t139 : Value) (w18 : World) =>
        Split t139 (RunQ prog (binS .sub T.t_int false true j_2 (.int .i64 1)) w18 fun t141 =>
      k_4 t141 w18)
         (RunQ prog (binS .gtr T.t_int false false i_2 j_2) w18 fun t144 =>
    Split t144 (Drew w18 fun w19 =>
  RunQ prog (Instr.indexAt T.t_sl_tuples_key data a) w19 fun t169 =>
  RunQ prog (Instr.loadAt T.t_tuples_key t169) w19 fun t170 =>
  RunQ prog (Instr.indexAt T.t_sl_tuples_key data j_2) w19 fun t173 =>
  RunQ prog (Instr.loadAt T.t_tuples_key t173) w19 fun t174 =>
  RunQ prog (Instr.indexAt T.t_sl_tuples_key data j_2) w19 fun t175 =>
  RunC prog (Instr.storeAt T.t_tuples_key t175 t170) w19 fun (_ : Unit) w20 =>
   RunQ prog (Instr.indexAt T.t_sl_tuples_key data a) w20 fun t176 =>
   RunC prog (Instr.storeAt T.t_tuples_key t176 t174) w20 fun (_ : Unit) w21 =>
    Q (.tuple #[j_2, (.bool false)]) w21)
     (Drew w18 fun w22 =>
    RunQ prog (Instr.indexAt T.t_sl_tuples_key data j_2) w22 fun t151 =>
    RunQ prog (Instr.loadAt T.t_tuples_key t151) w22 fun t152 =>
    RunQ prog (Instr.indexAt T.t_sl_tuples_key data i_2) w22 fun t155 =>
    RunQ prog (Instr.loadAt T.t_tuples_key t155) w22 fun t156 =>
    RunQ prog (Instr.indexAt T.t_sl_tuples_key data i_2) w22 fun t157 =>
    RunC prog (Instr.storeAt T.t_tuples_key t157 t152) w22 fun (_ : Unit) w23 =>
     RunQ prog (Instr.indexAt T.t_sl_tuples_key data j_2) w23 fun t158 =>
     RunC prog (Instr.storeAt T.t_tuples_key t158 t156) w23 fun (_ : Unit) w24 =>
      RunQ prog (binS .add T.t_int false true i_2 (.int .i64 1)) w24 fun t160 =>
    RunQ prog (binS .sub T.t_int false true j_2 (.int .i64 1)) w24 fun t162 =>
    k_2 t160 t162 w24))) fun J_3 =>
      Drew w17 fun w25 =>
      RunQ prog (binS .leq T.t_int false false i_2 j_2) w25 fun t125 =>
      Split t125 (RunQ prog (Instr.indexAt T.t_sl_tuples_key data j_2) w25 fun t130 =>
      RunQ prog (Instr.loadAt T.t_tuples_key t130) w25 fun t131 =>
      RunQ prog (Instr.indexAt T.t_sl_tuples_key data a) w25 fun t134 =>
      RunQ prog (Instr.loadAt T.t_tuples_key t134) w25 fun t135 =>
      CalV prog false cmp [t131, t135] w25 fun t136 w26 =>
       RunQ prog (binS .lss T.t_int false true t136 (.int .i64 0)) w26 fun t137 =>
       RunQ prog (Op.unary .not t137) w26 fun t138 =>
       J_3 t138 w26)
       (J_3 (.bool false) w25))) fun J_2 =>
      Drew w15 fun w27 =>
      RunQ prog (binS .leq T.t_int false false i_2 j_1) w27 fun t107 =>
      Split t107 (RunQ prog (Instr.indexAt T.t_sl_tuples_key data i_2) w27 fun t112 =>
      RunQ prog (Instr.loadAt T.t_tuples_key t112) w27 fun t113 =>
      RunQ prog (Instr.indexAt T.t_sl_tuples_key data a) w27 fun t116 =>
      RunQ prog (Instr.loadAt T.t_tuples_key t116) w27 fun t117 =>
      CalV prog false cmp [t113, t117] w27 fun t118 w28 =>
       RunQ prog (binS .lss T.t_int false true t118 (.int .i64 0)) w28 fun t119 =>
       J_2 t119 w28)
       (J_2 (.bool false) w27)))) fun J_1 =>
    Drew w6 fun w29 =>
    RunQ prog (binS .leq T.t_int false false i j) w29 fun t52 =>
    Split t52 (RunQ prog (Instr.indexAt T.t_sl_tuples_key data j) w29 fun t57 =>
    RunQ prog (Instr.loadAt T.t_tuples_key t57) w29 fun t58 =>
    RunQ prog (Instr.indexAt T.t_sl_tuples_key data a) w29 fun t61 =>
    RunQ prog (Instr.loadAt T.t_tuples_key t61) w29 fun t62 =>
    CalV prog false cmp [t58, t62] w29 fun t63 w30 =>
     RunQ prog (binS .lss T.t_int false true t63 (.int .i64 0)) w30 fun t64 =>
     RunQ prog (Op.unary .not t64) w30 fun t65 =>
     J_1 t65 w30)
     (J_1 (.bool false) w29))) fun J =>
    Drew w4 fun w31 =>
    RunQ prog (binS .leq T.t_int false false i t31) w31 fun t34 =>
    Split t34 (RunQ prog (Instr.indexAt T.t_sl_tuples_key data i) w31 fun t39 =>
    RunQ prog (Instr.loadAt T.t_tuples_key t39) w31 fun t40 =>
    RunQ prog (Instr.indexAt T.t_sl_tuples_key data a) w31 fun t43 =>
    RunQ prog (Instr.loadAt T.t_tuples_key t43) w31 fun t44 =>
    CalV prog false cmp [t40, t44] w31 fun t45 w32 =>
     RunQ prog (binS .lss T.t_int false true t45 (.int .i64 0)) w32 fun t46 =>
     J t46 w32)
     (J (.bool false) w31)

theorem slices_partitionCmpFunc_pennyweight_tuples_key.enter {data a b pivot cmp : Value} {w : World} {Q : Value → World → Prop} (h : slices_partitionCmpFunc_pennyweight_tuples_key.body data a b pivot cmp w Q) : Cal prog F.slices_partitionCmpFunc_pennyweight_tuples_key [data, a, b, pivot, cmp] w Q :=
  Cal.enter' (P := prog) mixed (show prog.funcs[F.slices_partitionCmpFunc_pennyweight_tuples_key]? = some Try.f94 from Try.func94) rfl (by kernel_rfl) (by kernel_rfl) (by kernel_rfl) (by kernel_rfl) (Eq.mp (by kernel_rfl) h)

/-- math/bits.Len32 -/
def math_bits_Len32.body (x : Value) (w : World) (Q : Value → World → Prop) : Prop :=
  JoinC (α := Value → Value → World → Prop) (fun (x_1 n : Value) (w1 : World) =>
    JoinC (α := Value → Value → World → Prop) (fun (x_2 n_1 : Value) (w2 : World) =>
      RunQ prog (convert T.t_uint32 T.t_uint8 x_2) w2 fun t15 =>
      RunQ prog (Instr.index T.t_string (.string ⟨#[0, 1, 2, 2, 3, 3, 3, 3, 4, 4, 4, 4, 4, 4, 4, 4, 5, 5, 5, 5, 5, 5, 5, 5, 5, 5, 5, 5, 5, 5, 5, 5, 6, 6, 6, 6, 6, 6, 6, 6, 6, 6, 6, 6, 6, 6, 6, 6, 6, 6, 6, 6, 6, 6, 6, 6, 6, 6, 6, 6, 6, 6, 6, 6, 7, 7, 7, 7, 7, 7, 7, 7, 7, 7, 7, 7, 7, 7, 7, 7, 7, 7, 7, 7, 7, 7, 7, 7, 7, 7, 7, 7, 7, 7, 7, 7, 7, 7, 7, 7, 7, 7, 7, 7, 7, 7, 7, 7, 7, 7, 7, 7, 7, 7, 7, 7, 7, 7, 7, 7, 7, 7, 7, 7, 7, 7, 7, 7, 8, 8, 8, 8, 8, 8, 8, 8, 8, 8, 8, 8, 8, 8, 8, 8, 8, 8, 8, 8, 8, 8, 8, 8, 8, 8, 8, 8, 8, 8, 8, 8, 8, 8, 8, 8, 8, 8, 8, 8, 8, 8, 8, 8, 8, 8, 8, 8, 8, 8, 8, 8, 8, 8, 8, 8, 8, 8, 8, 8, 8, 8, 8, 8, 8, 8, 8, 8, 8, 8, 8, 8, 8, 8, 8, 8, 8, 8, 8, 8, 8, 8, 8, 8, 8, 8, 8, 8, 8, 8, 8, 8, 8, 8, 8, 8, 8, 8, 8, 8, 8, 8, 8, 8, 8, 8, 8, 8, 8, 8, 8, 8, 8, 8, 8, 8, 8, 8, 8, 8, 8, 8, 8, 8, 8, 8, 8, 8]⟩) t15) w2 fun t16 =>
      RunQ prog (convert T.t_uint8 T.t_int t16) w2 fun t17 =>
      RunQ prog (binS .add T.t_int false false n_1 t17) w2 fun t18 =>
      Q t18 w2) fun J_1 =>
    RunQ prog (binS .geq T.t_uint32 false true x_1 (.int .u32 256)) w1 fun t8 =>
    Split t8 (RunQ prog (binS .shr T.t_uint32 false true x_1 (.int .u64 8)) w1 fun t10 =>
     RunQ prog (binS .add T.t_int false true n (.int .i64 8)) w1 fun t12 =>
     J_1 t10 t12 w1)
     (J_1 x_1 n w1)) fun J =>
  RunQ prog (binS .geq T.t_uint32 false true x (.int .u32 65536)) w fun t4 =>
  Split t4 (RunQ prog (binS .shr T.t_uint32 false true x (.int .u64 16)) w fun t6 =>
   J t6 (.int .i64 16) w)
   (J x (.int .i64 0) w)

theorem math_bits_Len32.enter {x : Value} {w : World} {Q : Value → World → Prop} (h : math_bits_Len32.body x w Q) : Cal prog F.math_bits_Len32 [x] w Q :=
  Cal.enter' (P := prog) mixed (show prog.funcs[F.math_bits_Len32]? = some Try.f95 from Try.func95) rfl (by kernel_rfl) (by kernel_rfl) (by kernel_rfl) (by kernel_rfl) (Eq.mp (by kernel_rfl) h)

/-- math/bits.Len64 -/
def math_bits_Len64.body (x : Value) (w : World) (Q : Value → World → Prop) : Prop :=
  JoinC (α := Value → Value → World → Prop) (fun (x_1 n : Value) (w1 : World) =>
    JoinC (α := Value → Value → World → Prop) (fun (x_2 n_1 : Value) (w2 : World) =>
      JoinC (α := Value → Value → World → Prop) (fun (x_3 n_2 : Value) (w3 : World) =>
        RunQ prog (convert T.t_uint64 T.t_uint8 x_3) w3 fun t21 =>
        RunQ prog (Instr.index T.t_string (.string ⟨#[0, 1, 2, 2, 3, 3, 3, 3, 4, 4, 4, 4, 4, 4, 4, 4, 5, 5, 5, 5, 5, 5, 5, 5, 5, 5, 5, 5, 5, 5, 5, 5, 6, 6, 6, 6, 6, 6, 6, 6, 6, 6, 6, 6, 6, 6, 6, 6, 6, 6, 6, 6, 6, 6, 6, 6, 6, 6, 6, 6, 6, 6, 6, 6, 7, 7, 7, 7, 7, 7, 7, 7, 7, 7, 7, 7, 7, 7, 7, 7, 7, 7, 7, 7, 7, 7, 7, 7, 7, 7, 7, 7, 7, 7, 7, 7, 7, 7, 7, 7, 7, 7, 7, 7, 7, 7, 7, 7, 7, 7, 7, 7, 7, 7, 7, 7, 7, 7, 7, 7, 7, 7, 7, 7, 7, 7, 7, 7, 8, 8, 8, 8, 8, 8, 8, 8, 8, 8, 8, 8, 8, 8, 8, 8, 8, 8, 8, 8, 8, 8, 8, 8, 8, 8, 8, 8, 8, 8, 8, 8, 8, 8, 8, 8, 8, 8, 8, 8, 8, 8, 8, 8, 8, 8, 8, 8, 8, 8, 8, 8, 8, 8, 8, 8, 8, 8, 8, 8, 8, 8, 8, 8, 8, 8, 8, 8, 8, 8, 8, 8, 8, 8, 8, 8, 8, 8, 8, 8, 8, 8, 8, 8, 8, 8, 8, 8, 8, 8, 8, 8, 8, 8, 8, 8, 8, 8, 8, 8, 8, 8, 8, 8, 8, 8, 8, 8, 8, 8, 8, 8, 8, 8, 8, 8, 8, 8, 8, 8, 8, 8, 8, 8, 8, 8, 8, 8]⟩) t21) w3 fun t22 =>
        RunQ prog (convert T.t_uint8 T.t_int t22) w3 fun t23 =>
        RunQ prog (binS .add T.t_int false false n_2 t23) w3 fun t24 =>
        Q t24 w3) fun J_2 =>
      RunQ prog (binS .geq T.t_uint64 false true x_2 (.int .u64 256)) w2 fun t14 =>
      Split t14 (RunQ prog (binS .shr T.t_uint64 false true x_2 (.int .u64 8)) w2 fun t16 =>
       RunQ prog (binS .add T.t_int false true n_1 (.int .i64 8)) w2 fun t18 =>
       J_2 t16 t18 w2)
       (J_2 x_2 n_1 w2)) fun J_1 =>
    RunQ prog (binS .geq T.t_uint64 false true x_1 (.int .u64 65536)) w1 fun t8 =>
    Split t8 (RunQ prog (binS .shr T.t_uint64 false true x_1 (.int .u64 16)) w1 fun t10 =>
     RunQ prog (binS .add T.t_int false true n (.int .i64 16)) w1 fun t12 =>
     J_1 t10 t12 w1)
     (J_1 x_1 n w1)) fun J =>
  RunQ prog (binS .geq T.t_uint64 false true x (.int .u64 4294967296)) w fun t4 =>
  Split t4 (RunQ prog (binS .shr T.t_uint64 false true x (.int .u64 32)) w fun t6 =>
   J t6 (.int .i64 32) w)
   (J x (.int .i64 0) w)

theorem math_bits_Len64.enter {x : Value} {w : World} {Q : Value → World → Prop} (h : math_bits_Len64.body x w Q) : Cal prog F.math_bits_Len64 [x] w Q :=
  Cal.enter' (P := prog) mixed (show prog.funcs[F.math_bits_Len64]? = some Try.f96 from Try.func96) rfl (by kernel_rfl) (by kernel_rfl) (by kernel_rfl) (by kernel_rfl) (Eq.mp (by kernel_rfl) h)

/-- slices.siftDownCmpFunc[pennyweight/tuples.key] -/
def slices_siftDownCmpFunc_pennyweight_tuples_key.body (data lo hi first cmp : Value) (w : World) (Q : Value → World → Prop) : Prop :=
  Loop1 lo w fun root w1 k =>
    RunQ prog (binS .mul T.t_int true false (.int .i64 2) root) w1 fun t14 =>
    RunQ prog (binS .add T.t_int false true t14 (.int .i64 1)) w1 fun t15 =>
    RunQ prog (binS .geq T.t_int false false t15 hi) w1 fun t18 =>
    Split t18 (Q (.tuple #[]) w1)
     (JoinC (α := Value → World → Prop) (fun (child : Value) (w2 : World) =>
      Drew w2 fun w3 =>
      RunQ prog (binS .add T.t_int false false first root) w3 fun t47 =>
      RunQ prog (Instr.indexAt T.t_sl_tuples_key data t47) w3 fun t48 =>
      RunQ prog (Instr.loadAt T.t_tuples_key t48) w3 fun t49 =>
      RunQ prog (binS .add T.t_int false false first child) w3 fun t53 =>
      RunQ prog (Instr.indexAt T.t_sl_tuples_key data t53) w3 fun t54 =>
      RunQ prog (Instr.loadAt T.t_tuples_key t54) w3 fun t55 =>
      CalV prog false cmp [t49, t55] w3 fun t56 w4 =>
       RunQ prog (binS .lss T.t_int false true t56 (.int .i64 0)) w4 fun t57 =>
       RunQ prog (Op.unary .not t57) w4 fun t58 =>
       Split t58 (Q (.tuple #[]) w4)
       (Drew w4 fun w5 =>
      RunQ prog (binS .add T.t_int false false first root) w5 fun t62 =>
      RunQ prog (binS .add T.t_int false false first child) w5 fun t66 =>
      RunQ prog (binS .add T.t_int false false first child) w5 fun t70 =>
      RunQ prog (Instr.indexAt T.t_sl_tuples_key data t70) w5 fun t71 =>
      RunQ prog (Instr.loadAt T.t_tuples_key t71) w5 fun t72 =>
      RunQ prog (binS .add T.t_int false false first root) w5 fun t76 =>
      RunQ prog (Instr.indexAt T.t_sl_tuples_key data t76) w5 fun t77 =>
      RunQ prog (Instr.loadAt T.t_tuples_key t77) w5 fun t78 =>
      RunQ prog (Instr.indexAt T.t_sl_tuples_key data t62) w5 fun t79 =>
      RunC prog (Instr.storeAt T.t_tuples_key t79 t72) w5 fun (_ : Unit) w6 =>
       (Ext w5 w6 ∨ Stays prog (binS .add T.t_int false false first child) t66 w6 ∧ True) ∧
      RunQ prog (Instr.indexAt T.t_sl_tuples_key data t66) w6 fun t80 =>
       RunC prog (Instr.storeAt T.t_tuples_key t80 t78) w6 fun (_ : Unit) w7 =>
        k child w7)) fun J =>
    JoinC (α := Value → World → Prop) (fun (t40 : Value) (w8 : World) =>
      Split t40 (RunQ prog (binS .add T.t_int false true t15 (.int .i64 1)) w8 fun t42 =>
       J t42 w8)
       (J t15 w8)) fun J_1 =>
    Drew w1 fun w9 =>
    RunQ prog (binS .add T.t_int false true t15 (.int .i64 1)) w9 fun t20 =>
    RunQ prog (binS .lss T.t_int false false t20 hi) w9 fun t22 =>
    Split t22 (RunQ prog (binS .add T.t_int false false first t15) w9 fun t28 =>
    RunQ prog (Instr.indexAt T.t_sl_tuples_key data t28) w9 fun t29 =>
    RunQ prog (Instr.loadAt T.t_tuples_key t29) w9 fun t30 =>
    RunQ prog (binS .add T.t_int false false first t15) w9 fun t34 =>
    RunQ prog (binS .add T.t_int false true t34 (.int .i64 1)) w9 fun t35 =>
    RunQ prog (Instr.indexAt T.t_sl_tuples_key data t35) w9 fun t36 =>
    RunQ prog (Instr.loadAt T.t_tuples_key t36) w9 fun t37 =>
    CalV prog false cmp [t30, t37] w9 fun t38 w10 =>
     RunQ prog (binS .lss T.t_int false true t38 (.int .i64 0)) w10 fun t39 =>
     J_1 t39 w10)
     (J_1 (.bool false) w9))

theorem slices_siftDownCmpFunc_pennyweight_tuples_key.enter {data lo hi first cmp : Value} {w : World} {Q : Value → World → Prop} (h : slices_siftDownCmpFunc_pennyweight_tuples_key.body data lo hi first cmp w Q) : Cal prog F.slices_siftDownCmpFunc_pennyweight_tuples_key [data, lo, hi, first, cmp] w Q :=
  Cal.enter' (P := prog) mixed (show prog.funcs[F.slices_siftDownCmpFunc_pennyweight_tuples_key]? = some Try.f97 from Try.func97) rfl (by kernel_rfl) (by kernel_rfl) (by kernel_rfl) (by kernel_rfl) (Eq.mp (by kernel_rfl) h)

/-- slices.nextPowerOfTwo -/
def slices_nextPowerOfTwo.body (length : Value) (w : World) (Q : Value → World → Prop) : Prop :=
  RunQ prog (convert T.t_int T.t_uint length) w fun t4 =>
  Cal prog F.math_bits_Len [t4] w fun t5 w1 =>
  RunQ prog (binS .shl T.t_uint true false (.int .u64 1) t5) w1 fun t6 =>
  Q t6 w1

theorem slices_nextPowerOfTwo.enter {length : Value} {w : World} {Q : Value → World → Prop} (h : slices_nextPowerOfTwo.body length w Q) : Cal prog F.slices_nextPowerOfTwo [length] w Q :=
  Cal.enter' (P := prog) mixed (show prog.funcs[F.slices_nextPowerOfTwo]? = some Try.f98 from Try.func98) rfl (by kernel_rfl) (by kernel_rfl) (by kernel_rfl) (by kernel_rfl) (Eq.mp (by kernel_rfl) h)

/-- (*slices.xorshift).Next -/
def P_slices_xorshift_Next.body (r : Value) (w : World) (Q : Value → World → Prop) : Prop :=
  Drew w fun w1 =>
  RunQ prog (nilS r) w1 fun t4 =>
  RunQ prog (Instr.loadAt T.t_slices_xorshift t4) w1 fun t5 =>
  RunQ prog (nilS r) w1 fun t7 =>
  RunQ prog (Instr.loadAt T.t_slices_xorshift t7) w1 fun t8 =>
  RunQ prog (binS .shl T.t_slices_xorshift false true t8 (.int .u64 13)) w1 fun t9 =>
  RunQ prog (binS .xor T.t_slices_xorshift false false t5 t9) w1 fun t10 =>
  RunQ prog (nilS r) w1 fun t11 =>
  RunC prog (Instr.storeAt T.t_slices_xorshift t11 t10) w1 fun (_ : Unit) w2 =>
   Drew w2 fun w3 =>
  RunQ prog (nilS r) w3 fun t13 =>
  RunQ prog (Instr.loadAt T.t_slices_xorshift t13) w3 fun t14 =>
  RunQ prog (nilS r) w3 fun t16 =>
  RunQ prog (Instr.loadAt T.t_slices_xorshift t16) w3 fun t17 =>
  RunQ prog (binS .shr T.t_slices_xorshift false true t17 (.int .u64 7)) w3 fun t18 =>
  RunQ prog (binS .xor T.t_slices_xorshift false false t14 t18) w3 fun t19 =>
  RunQ prog (nilS r) w3 fun t20 =>
  RunC prog (Instr.storeAt T.t_slices_xorshift t20 t19) w3 fun (_ : Unit) w4 =>
   Drew w4 fun w5 =>
  RunQ prog (nilS r) w5 fun t22 =>
  RunQ prog (Instr.loadAt T.t_slices_xorshift t22) w5 fun t23 =>
  RunQ prog (nilS r) w5 fun t25 =>
  RunQ prog (Instr.loadAt T.t_slices_xorshift t25) w5 fun t26 =>
  RunQ prog (binS .shl T.t_slices_xorshift false true t26 (.int .u64 17)) w5 fun t27 =>
  RunQ prog (binS .xor T.t_slices_xorshift false false t23 t27) w5 fun t28 =>
  RunQ prog (nilS r) w5 fun t29 =>
  RunC prog (Instr.storeAt T.t_slices_xorshift t29 t28) w5 fun (_ : Unit) w6 =>
   RunQ prog (nilS r) w6 fun t31 =>
  RunQ prog (Instr.loadAt T.t_slices_xorshift t31) w6 fun t32 =>
  Q t32 w6

theorem P_slices_xorshift_Next.enter {r : Value} {w : World} {Q : Value → World → Prop} (h : P_slices_xorshift_Next.body r w Q) : Cal prog F.P_slices_xorshift_Next [r] w Q :=
  Cal.enter' (P := prog) mixed (show prog.funcs[F.P_slices_xorshift_Next]? = some Try.f99 from Try.func99) rfl (by kernel_rfl) (by kernel_rfl) (by kernel_rfl) (by kernel_rfl) (Eq.mp (by kernel_rfl) h)

/-- slices.medianAdjacentCmpFunc[pennyweight/tuples.key] -/
def slices_medianAdjacentCmpFunc_pennyweight_tuples_key.body (data a swaps cmp : Value) (w : World) (Q : Value → World → Prop) : Prop :=
  RunQ prog (binS .sub T.t_int false true a (.int .i64 1)) w fun t11 =>
  RunQ prog (binS .add T.t_int false true a (.int .i64 1)) w fun t14 =>
  Cal prog F.slices_medianCmpFunc_pennyweight_tuples_key [data, t11, a, t14, swaps, cmp] w fun t17 w1 =>
  Q t17 w1

theorem slices_medianAdjacentCmpFunc_pennyweight_tuples_key.enter {data a swaps cmp : Value} {w : World} {Q : Value → World → Prop} (h : slices_medianAdjacentCmpFunc_pennyweight_tuples_key.body data a swaps cmp w Q) : Cal prog F.slices_medianAdjacentCmpFunc_pennyweight_tuples_key [data, a, swaps, cmp] w Q :=
  Cal.enter' (P := prog) mixed (show prog.funcs[F.slices_medianAdjacentCmpFunc_pennyweight_tuples_key]? = some Try.f100 from Try.func100) rfl (by kernel_rfl) (by kernel_rfl) (by kernel_rfl) (by kernel_rfl) (Eq.mp (by kernel_rfl) h)

/-- slices.medianCmpFunc[pennyweight/tuples.key] -/
def slices_medianCmpFunc_pennyweight_tuples_key.body (data a b c swaps cmp : Value) (w : World) (Q : Value → World → Prop) : Prop :=
  Cal prog F.slices_order2CmpFunc_pennyweight_tuples_key [data, a, b, swaps, cmp] w fun t19 w1 =>
  RunQ prog (Instr.extract t19 0) w1 fun t20 =>
  RunQ prog (Instr.extract t19 1) w1 fun t21 =>
  Cal prog F.slices_order2CmpFunc_pennyweight_tuples_key [data, t21, c, swaps, cmp] w1 fun t28 w2 =>
  RunQ prog (Instr.extract t28 0) w2 fun t29 =>
  RunQ prog (Instr.extract t28 1) w2 fun t30 =>
  Cal prog F.slices_order2CmpFunc_pennyweight_tuples_key [data, t20, t29, swaps, cmp] w2 fun t37 w3 =>
  RunQ prog (Instr.extract t37 0) w3 fun t38 =>
  RunQ prog (Instr.extract t37 1) w3 fun t39 =>
  Q t39 w3

theorem slices_medianCmpFunc_pennyweight_tuples_key.enter {data a b c swaps cmp : Value} {w : World} {Q : Value → World → Prop} (h : slices_medianCmpFunc_pennyweight_tuples_key.body data a b c swaps cmp w Q) : Cal prog F.slices_medianCmpFunc_pennyweight_tuples_key [data, a, b, c, swaps, cmp] w Q :=
  Cal.enter' (P := prog) mixed (show prog.funcs[F.slices_medianCmpFunc_pennyweight_tuples_key]? = some Try.f101 from Try.func101) rfl (by kernel_rfl) (by kernel_rfl) (by kernel_rfl) (by kernel_rfl) (Eq.mp (by kernel_rfl) h)

/-- slices.order2CmpFunc[pennyweight/tuples.key] -/
def slices_order2CmpFunc_pennyweight_tuples_key.body (data a b swaps cmp : Value) (w : World) (Q : Value → World → Prop) : Prop :=
  Drew w fun w1 =>
  RunQ prog (Instr.indexAt T.t_sl_tuples_key data b) w1 fun t15 =>
  RunQ prog (Instr.loadAt T.t_tuples_key t15) w1 fun t16 =>
  RunQ prog (Instr.indexAt T.t_sl_tuples_key data a) w1 fun t19 =>
  RunQ prog (Instr.loadAt T.t_tuples_key t19) w1 fun t20 =>
  CalV prog false cmp [t16, t20] w1 fun t21 w2 =>
   RunQ prog (binS .lss T.t_int false true t21 (.int .i64 0)) w2 fun t22 =>
   Split t22 (RunQ prog (nilS swaps) w2 fun t24 =>
   RunQ prog (Instr.loadAt T.t_int t24) w2 fun t25 =>
   RunQ prog (binS .add T.t_int false true t25 (.int .i64 1)) w2 fun t26 =>
   RunQ prog (nilS swaps) w2 fun t27 =>
   RunC prog (Instr.storeAt T.t_int t27 t26) w2 fun (_ : Unit) w3 =>
   Q (.tuple #[b, a]) w3)
   (Q (.tuple #[a, b]) w2)

theorem slices_order2CmpFunc_pennyweight_tuples_key.enter {data a b swaps cmp : Value} {w : World} {Q : Value → World → Prop} (h : slices_order2CmpFunc_pennyweight_tuples_key.body data a b swaps cmp w Q) : Cal prog F.slices_order2CmpFunc_pennyweight_tuples_key [data, a, b, swaps, cmp] w Q :=
  Cal.enter' (P := prog) mixed (show prog.funcs[F.slices_order2CmpFunc_pennyweight_tuples_key]? = some Try.f102 from Try.func102) rfl (by kernel_rfl) (by kernel_rfl) (by kernel_rfl) (by kernel_rfl) (Eq.mp (by kernel_rfl) h)



end Go.Proofs.Ytahhkeljejfgfaa
