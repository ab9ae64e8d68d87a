/- the functions as conditions (by program) -/
import Derived.Test.YtahhkeljejfgfaaDoorNames
namespace Go.Proofs.YtahhkeljejfgfaaDoor
open Go Go.Vc Go.Proofs Go.Proofs.Tryd
set_option maxRecDepth 100000
set_option linter.unusedVariables false

/-- slices.partitionEqualOrdered[int] -/
def slices_partitionEqualOrdered_int.body (data a b pivot : Value) (w : World) (Q : Value → World → Prop) : Prop :=
  Drew w fun w1 =>
  RunQ prog (Instr.indexAt T.t_sl_int data pivot) w1 fun t17 =>
  RunQ prog (Instr.loadAt T.t_int t17) w1 fun t18 =>
  RunQ prog (Instr.indexAt T.t_sl_int data a) w1 fun t21 =>
  RunQ prog (Instr.loadAt T.t_int t21) w1 fun t22 =>
  RunQ prog (Instr.indexAt T.t_sl_int data a) w1 fun t23 =>
  RunC prog (Instr.storeAt T.t_int t23 t18) w1 fun (_ : Unit) w2 =>
   RunQ prog (Instr.indexAt T.t_sl_int data pivot) w2 fun t24 =>
   RunC prog (Instr.storeAt T.t_int t24 t22) w2 fun (_ : Unit) w3 =>
    RunQ prog (binS .add T.t_int false true a (.int .i64 1)) w3 fun t26 =>
  RunQ prog (binS .sub T.t_int false true b (.int .i64 1)) w3 fun t28 =>
  Loop2 t26 t28 w3 fun i j w4 k =>
    Loop1 i w4 fun i_1 w5 k_1 =>
      JoinC (α := Value → World → Prop) (fun (t43 : Value) (w6 : World) =>
        Split t43 (RunQ prog (binS .add T.t_int false true i_1 (.int .i64 1)) w6 fun t45 =>
      k_1 t45 w6)
         (Loop1 j w6 fun j_1 w7 k_2 =>
      JoinC (α := Value → World → Prop) (fun (t59 : Value) (w8 : World) =>
        Split t59 (RunQ prog (binS .sub T.t_int false true j_1 (.int .i64 1)) w8 fun t61 =>
      k_2 t61 w8)
         (RunQ prog (binS .gtr T.t_int false false i_1 j_1) w8 fun t64 =>
    Split t64 (Q i_1 w8)
     (Drew w8 fun w9 =>
    RunQ prog (Instr.indexAt T.t_sl_int data j_1) w9 fun t71 =>
    RunQ prog (Instr.loadAt T.t_int t71) w9 fun t72 =>
    RunQ prog (Instr.indexAt T.t_sl_int data i_1) w9 fun t75 =>
    RunQ prog (Instr.loadAt T.t_int t75) w9 fun t76 =>
    RunQ prog (Instr.indexAt T.t_sl_int data i_1) w9 fun t77 =>
    RunC prog (Instr.storeAt T.t_int t77 t72) w9 fun (_ : Unit) w10 =>
     RunQ prog (Instr.indexAt T.t_sl_int data j_1) w10 fun t78 =>
     RunC prog (Instr.storeAt T.t_int t78 t76) w10 fun (_ : Unit) w11 =>
      RunQ prog (binS .add T.t_int false true i_1 (.int .i64 1)) w11 fun t80 =>
    RunQ prog (binS .sub T.t_int false true j_1 (.int .i64 1)) w11 fun t82 =>
    k t80 t82 w11))) fun J_1 =>
      Drew w7 fun w12 =>
      RunQ prog (binS .leq T.t_int false false i_1 j_1) w12 fun t48 =>
      Split t48 (RunQ prog (Instr.indexAt T.t_sl_int data a) w12 fun t52 =>
      RunQ prog (Instr.loadAt T.t_int t52) w12 fun t53 =>
      RunQ prog (Instr.indexAt T.t_sl_int data j_1) w12 fun t56 =>
      RunQ prog (Instr.loadAt T.t_int t56) w12 fun t57 =>
      Cal prog F.cmp_Less_int [t53, t57] w12 fun t58 w13 =>
       J_1 t58 w13)
       (J_1 (.bool false) w12))) fun J =>
      Drew w5 fun w14 =>
      RunQ prog (binS .leq T.t_int false false i_1 j) w14 fun t31 =>
      Split t31 (RunQ prog (Instr.indexAt T.t_sl_int data a) w14 fun t35 =>
      RunQ prog (Instr.loadAt T.t_int t35) w14 fun t36 =>
      RunQ prog (Instr.indexAt T.t_sl_int data i_1) w14 fun t39 =>
      RunQ prog (Instr.loadAt T.t_int t39) w14 fun t40 =>
      Cal prog F.cmp_Less_int [t36, t40] w14 fun t41 w15 =>
       RunQ prog (Op.unary .not t41) w15 fun t42 =>
       J t42 w15)
       (J (.bool false) w14)

theorem slices_partitionEqualOrdered_int.enter {data a b pivot : Value} {w : World} {Q : Value → World → Prop} (h : slices_partitionEqualOrdered_int.body data a b pivot w Q) : Cal prog F.slices_partitionEqualOrdered_int [data, a, b, pivot] w Q :=
  Cal.enter' (P := prog) mixed (show prog.funcs[F.slices_partitionEqualOrdered_int]? = some Tryd.f106 from Tryd.func106) rfl (by kernel_rfl) (by kernel_rfl) (by kernel_rfl) (by kernel_rfl) (Eq.mp (by kernel_rfl) h)

/-- slices.partitionOrdered[int] -/
def slices_partitionOrdered_int.body (data a b pivot : Value) (w : World) (Q : Value → World → Prop) : Prop :=
  Drew w fun w1 =>
  RunQ prog (Instr.indexAt T.t_sl_int data pivot) w1 fun t18 =>
  RunQ prog (Instr.loadAt T.t_int t18) w1 fun t19 =>
  RunQ prog (Instr.indexAt T.t_sl_int data a) w1 fun t22 =>
  RunQ prog (Instr.loadAt T.t_int t22) w1 fun t23 =>
  RunQ prog (Instr.indexAt T.t_sl_int data a) w1 fun t24 =>
  RunC prog (Instr.storeAt T.t_int t24 t19) w1 fun (_ : Unit) w2 =>
   RunQ prog (Instr.indexAt T.t_sl_int data pivot) w2 fun t25 =>
   RunC prog (Instr.storeAt T.t_int t25 t23) w2 fun (_ : Unit) w3 =>
    RunQ prog (binS .add T.t_int false true a (.int .i64 1)) w3 fun t27 =>
  RunQ prog (binS .sub T.t_int false true b (.int .i64 1)) w3 fun t29 =>
  Loop1 t27 w3 fun i w4 k =>
    JoinC (α := Value → World → Prop) (fun (t43 : Value) (w5 : World) =>
      Split t43 (RunQ prog (binS .add T.t_int false true i (.int .i64 1)) w5 fun t45 =>
    k t45 w5)
       (Loop1 t29 w5 fun j w6 k_1 =>
    JoinC (α := Value → World → Prop) (fun (t60 : Value) (w7 : World) =>
      Split t60 (RunQ prog (binS .sub T.t_int false true j (.int .i64 1)) w7 fun t62 =>
    k_1 t62 w7)
       (RunQ prog (binS .gtr T.t_int false false i j) w7 fun t65 =>
  Split t65 (Drew w7 fun w8 =>
   RunQ prog (Instr.indexAt T.t_sl_int data a) w8 fun t72 =>
   RunQ prog (Instr.loadAt T.t_int t72) w8 fun t73 =>
   RunQ prog (Instr.indexAt T.t_sl_int data j) w8 fun t76 =>
   RunQ prog (Instr.loadAt T.t_int t76) w8 fun t77 =>
   RunQ prog (Instr.indexAt T.t_sl_int data j) w8 fun t78 =>
   RunC prog (Instr.storeAt T.t_int t78 t73) w8 fun (_ : Unit) w9 =>
    RunQ prog (Instr.indexAt T.t_sl_int data a) w9 fun t79 =>
    RunC prog (Instr.storeAt T.t_int t79 t77) w9 fun (_ : Unit) w10 =>
     Q (.tuple #[j, (.bool true)]) w10)
   (Drew w7 fun w11 =>
  RunQ prog (Instr.indexAt T.t_sl_int data j) w11 fun t87 =>
  RunQ prog (Instr.loadAt T.t_int t87) w11 fun t88 =>
  RunQ prog (Instr.indexAt T.t_sl_int data i) w11 fun t91 =>
  RunQ prog (Instr.loadAt T.t_int t91) w11 fun t92 =>
  RunQ prog (Instr.indexAt T.t_sl_int data i) w11 fun t93 =>
  RunC prog (Instr.storeAt T.t_int t93 t88) w11 fun (_ : Unit) w12 =>
   RunQ prog (Instr.indexAt T.t_sl_int data j) w12 fun t94 =>
   RunC prog (Instr.storeAt T.t_int t94 t92) w12 fun (_ : Unit) w13 =>
    RunQ prog (binS .add T.t_int false true i (.int .i64 1)) w13 fun t96 =>
  RunQ prog (binS .sub T.t_int false true j (.int .i64 1)) w13 fun t98 =>
  Loop2 t96 t98 w13 fun i_1 j_1 w14 k_2 =>
    Loop1 i_1 w14 fun i_2 w15 k_3 =>
      JoinC (α := Value → World → Prop) (fun (t112 : Value) (w16 : World) =>
        Split t112 (RunQ prog (binS .add T.t_int false true i_2 (.int .i64 1)) w16 fun t114 =>
      k_3 t114 w16)
         (Loop1 j_1 w16 fun j_2 w17 k_4 =>
      JoinC (α := Value → World → Prop) (fun (t129 : Value) (w18 : World) =>
        Split t129 (RunQ prog (binS .sub T.t_int false true j_2 (.int .i64 1)) w18 fun t131 =>
      k_4 t131 w18)
         (RunQ prog (binS .gtr T.t_int false false i_2 j_2) w18 fun t134 =>
    Split t134 (Drew w18 fun w19 =>
  RunQ prog (Instr.indexAt T.t_sl_int data a) w19 fun t159 =>
  RunQ prog (Instr.loadAt T.t_int t159) w19 fun t160 =>
  RunQ prog (Instr.indexAt T.t_sl_int data j_2) w19 fun t163 =>
  RunQ prog (Instr.loadAt T.t_int t163) w19 fun t164 =>
  RunQ prog (Instr.indexAt T.t_sl_int data j_2) w19 fun t165 =>
  RunC prog (Instr.storeAt T.t_int t165 t160) w19 fun (_ : Unit) w20 =>
   RunQ prog (Instr.indexAt T.t_sl_int data a) w20 fun t166 =>
   RunC prog (Instr.storeAt T.t_int t166 t164) w20 fun (_ : Unit) w21 =>
    Q (.tuple #[j_2, (.bool false)]) w21)
     (Drew w18 fun w22 =>
    RunQ prog (Instr.indexAt T.t_sl_int data j_2) w22 fun t141 =>
    RunQ prog (Instr.loadAt T.t_int t141) w22 fun t142 =>
    RunQ prog (Instr.indexAt T.t_sl_int data i_2) w22 fun t145 =>
    RunQ prog (Instr.loadAt T.t_int t145) w22 fun t146 =>
    RunQ prog (Instr.indexAt T.t_sl_int data i_2) w22 fun t147 =>
    RunC prog (Instr.storeAt T.t_int t147 t142) w22 fun (_ : Unit) w23 =>
     RunQ prog (Instr.indexAt T.t_sl_int data j_2) w23 fun t148 =>
     RunC prog (Instr.storeAt T.t_int t148 t146) w23 fun (_ : Unit) w24 =>
      RunQ prog (binS .add T.t_int false true i_2 (.int .i64 1)) w24 fun t150 =>
    RunQ prog (binS .sub T.t_int false true j_2 (.int .i64 1)) w24 fun t152 =>
    k_2 t150 t152 w24))) fun J_3 =>
      Drew w17 fun w25 =>
      RunQ prog (binS .leq T.t_int false false i_2 j_2) w25 fun t117 =>
      Split t117 (RunQ prog (Instr.indexAt T.t_sl_int data j_2) w25 fun t121 =>
      RunQ prog (Instr.loadAt T.t_int t121) w25 fun t122 =>
      RunQ prog (Instr.indexAt T.t_sl_int data a) w25 fun t125 =>
      RunQ prog (Instr.loadAt T.t_int t125) w25 fun t126 =>
      Cal prog F.cmp_Less_int [t122, t126] w25 fun t127 w26 =>
       RunQ prog (Op.unary .not t127) w26 fun t128 =>
       J_3 t128 w26)
       (J_3 (.bool false) w25))) fun J_2 =>
      Drew w15 fun w27 =>
      RunQ prog (binS .leq T.t_int false false i_2 j_1) w27 fun t101 =>
      Split t101 (RunQ prog (Instr.indexAt T.t_sl_int data i_2) w27 fun t105 =>
      RunQ prog (Instr.loadAt T.t_int t105) w27 fun t106 =>
      RunQ prog (Instr.indexAt T.t_sl_int data a) w27 fun t109 =>
      RunQ prog (Instr.loadAt T.t_int t109) w27 fun t110 =>
      Cal prog F.cmp_Less_int [t106, t110] w27 fun t111 w28 =>
       J_2 t111 w28)
       (J_2 (.bool false) w27)))) fun J_1 =>
    Drew w6 fun w29 =>
    RunQ prog (binS .leq T.t_int false false i j) w29 fun t48 =>
    Split t48 (RunQ prog (Instr.indexAt T.t_sl_int data j) w29 fun t52 =>
    RunQ prog (Instr.loadAt T.t_int t52) w29 fun t53 =>
    RunQ prog (Instr.indexAt T.t_sl_int data a) w29 fun t56 =>
    RunQ prog (Instr.loadAt T.t_int t56) w29 fun t57 =>
    Cal prog F.cmp_Less_int [t53, t57] w29 fun t58 w30 =>
     RunQ prog (Op.unary .not t58) w30 fun t59 =>
     J_1 t59 w30)
     (J_1 (.bool false) w29))) fun J =>
    Drew w4 fun w31 =>
    RunQ prog (binS .leq T.t_int false false i t29) w31 fun t32 =>
    Split t32 (RunQ prog (Instr.indexAt T.t_sl_int data i) w31 fun t36 =>
    RunQ prog (Instr.loadAt T.t_int t36) w31 fun t37 =>
    RunQ prog (Instr.indexAt T.t_sl_int data a) w31 fun t40 =>
    RunQ prog (Instr.loadAt T.t_int t40) w31 fun t41 =>
    Cal prog F.cmp_Less_int [t37, t41] w31 fun t42 w32 =>
     J t42 w32)
     (J (.bool false) w31)

theorem slices_partitionOrdered_int.enter {data a b pivot : Value} {w : World} {Q : Value → World → Prop} (h : slices_partitionOrdered_int.body data a b pivot w Q) : Cal prog F.slices_partitionOrdered_int [data, a, b, pivot] w Q :=
  Cal.enter' (P := prog) mixed (show prog.funcs[F.slices_partitionOrdered_int]? = some Tryd.f107 from Tryd.func107) rfl (by kernel_rfl) (by kernel_rfl) (by kernel_rfl) (by kernel_rfl) (Eq.mp (by kernel_rfl) h)

/-- math/bits.Len32 -/
def math_bits_Len32.body (x : Value) (w : World) (Q : Value → World → Prop) : Prop :=
  JoinC (α := Value → Value → World → Prop) (fun (x_1 n : Value) (w1 : World) =>
    JoinC (α := Value → Value → World → Prop) (fun (x_2 n_1 : Value) (w2 : World) =>
      RunQ prog (convert T.t_uint32 T.t_uint8 x_2) w2 fun t15 =>
      RunQ prog (Instr.index T.t_string (.string ⟨#[0, 1, 2, 2, 3, 3, 3, 3, 4, 4, 4, 4, 4, 4, 4, 4, 5, 5, 5, 5, 5, 5, 5, 5, 5, 5, 5, 5, 5, 5, 5, 5, 6, 6, 6, 6, 6, 6, 6, 6, 6, 6, 6, 6, 6, 6, 6, 6, 6, 6, 6, 6, 6, 6, 6, 6, 6, 6, 6, 6, 6, 6, 6, 6, 7, 7, 7, 7, 7, 7, 7, 7, 7, 7, 7, 7, 7, 7, 7, 7, 7, 7, 7, 7, 7, 7, 7, 7, 7, 7, 7, 7, 7, 7, 7, 7, 7, 7, 7, 7, 7, 7, 7, 7, 7, 7, 7, 7, 7, 7, 7, 7, 7, 7, 7, 7, 7, 7, 7, 7, 7, 7, 7, 7, 7, 7, 7, 7, 8, 8, 8, 8, 8, 8, 8, 8, 8, 8, 8, 8, 8, 8, 8, 8, 8, 8, 8, 8, 8, 8, 8, 8, 8, 8, 8, 8, 8, 8, 8, 8, 8, 8, 8, 8, 8, 8, 8, 8, 8, 8, 8, 8, 8, 8, 8, 8, 8, 8, 8, 8, 8, 8, 8, 8, 8, 8, 8, 8, 8, 8, 8, 8, 8, 8, 8, 8, 8, 8, 8, 8, 8, 8, 8, 8, 8, 8, 8, 8, 8, 8, 8, 8, 8, 8, 8, 8, 8, 8, 8, 8, 8, 8, 8, 8, 8, 8, 8, 8, 8, 8, 8, 8, 8, 8, 8, 8, 8, 8, 8, 8, 8, 8, 8, 8, 8, 8, 8, 8, 8, 8, 8, 8, 8, 8, 8, 8]⟩) t15) w2 fun t16 =>
      RunQ prog (convert T.t_uint8 T.t_int t16) w2 fun t17 =>
      RunQ prog (binS .add T.t_int false false n_1 t17) w2 fun t18 =>
      Q t18 w2) fun J_1 =>
    RunQ prog (binS .geq T.t_uint32 false true x_1 (.int .u32 256)) w1 fun t8 =>
    Split t8 (RunQ prog (binS .shr T.t_uint32 false true x_1 (.int .u64 8)) w1 fun t10 =>
     RunQ prog (binS .add T.t_int false true n (.int .i64 8)) w1 fun t12 =>
     J_1 t10 t12 w1)
     (J_1 x_1 n w1)) fun J =>
  RunQ prog (binS .geq T.t_uint32 false true x (.int .u32 65536)) w fun t4 =>
  Split t4 (RunQ prog (binS .shr T.t_uint32 false true x (.int .u64 16)) w fun t6 =>
   J t6 (.int .i64 16) w)
   (J x (.int .i64 0) w)

theorem math_bits_Len32.enter {x : Value} {w : World} {Q : Value → World → Prop} (h : math_bits_Len32.body x w Q) : Cal prog F.math_bits_Len32 [x] w Q :=
  Cal.enter' (P := prog) mixed (show prog.funcs[F.math_bits_Len32]? = some Tryd.f108 from Tryd.func108) rfl (by kernel_rfl) (by kernel_rfl) (by kernel_rfl) (by kernel_rfl) (Eq.mp (by kernel_rfl) h)

/-- math/bits.Len64 -/
def math_bits_Len64.body (x : Value) (w : World) (Q : Value → World → Prop) : Prop :=
  JoinC (α := Value → Value → World → Prop) (fun (x_1 n : Value) (w1 : World) =>
    JoinC (α := Value → Value → World → Prop) (fun (x_2 n_1 : Value) (w2 : World) =>
      JoinC (α := Value → Value → World → Prop) (fun (x_3 n_2 : Value) (w3 : World) =>
        RunQ prog (convert T.t_uint64 T.t_uint8 x_3) w3 fun t21 =>
        RunQ prog (Instr.index T.t_string (.string ⟨#[0, 1, 2, 2, 3, 3, 3, 3, 4, 4, 4, 4, 4, 4, 4, 4, 5, 5, 5, 5, 5, 5, 5, 5, 5, 5, 5, 5, 5, 5, 5, 5, 6, 6, 6, 6, 6, 6, 6, 6, 6, 6, 6, 6, 6, 6, 6, 6, 6, 6, 6, 6, 6, 6, 6, 6, 6, 6, 6, 6, 6, 6, 6, 6, 7, 7, 7, 7, 7, 7, 7, 7, 7, 7, 7, 7, 7, 7, 7, 7, 7, 7, 7, 7, 7, 7, 7, 7, 7, 7, 7, 7, 7, 7, 7, 7, 7, 7, 7, 7, 7, 7, 7, 7, 7, 7, 7, 7, 7, 7, 7, 7, 7, 7, 7, 7, 7, 7, 7, 7, 7, 7, 7, 7, 7, 7, 7, 7, 8, 8, 8, 8, 8, 8, 8, 8, 8, 8, 8, 8, 8, 8, 8, 8, 8, 8, 8, 8, 8, 8, 8, 8, 8, 8, 8, 8, 8, 8, 8, 8, 8, 8, 8, 8, 8, 8, 8, 8, 8, 8, 8, 8, 8, 8, 8, 8, 8, 8, 8, 8, 8, 8, 8, 8, 8, 8, 8, 8, 8, 8, 8, 8, 8, 8, 8, 8, 8, 8, 8, 8, 8, 8, 8, 8, 8, 8, 8, 8, 8, 8, 8, 8, 8, 8, 8, 8, 8, 8, 8, 8, 8, 8, 8, 8, 8, 8, 8, 8, 8, 8, 8, 8, 8, 8, 8, 8, 8, 8, 8, 8, 8, 8, 8, 8, 8, 8, 8, 8, 8, 8, 8, 8, 8, 8, 8, 8]⟩) t21) w3 fun t22 =>
        RunQ prog (convert T.t_uint8 T.t_int t22) w3 fun t23 =>
        RunQ prog (binS .add T.t_int false false n_2 t23) w3 fun t24 =>
        Q t24 w3) fun J_2 =>
      RunQ prog (binS .geq T.t_uint64 false true x_2 (.int .u64 256)) w2 fun t14 =>
      Split t14 (RunQ prog (binS .shr T.t_uint64 false true x_2 (.int .u64 8)) w2 fun t16 =>
       RunQ prog (binS .add T.t_int false true n_1 (.int .i64 8)) w2 fun t18 =>
       J_2 t16 t18 w2)
       (J_2 x_2 n_1 w2)) fun J_1 =>
    RunQ prog (binS .geq T.t_uint64 false true x_1 (.int .u64 65536)) w1 fun t8 =>
    Split t8 (RunQ prog (binS .shr T.t_uint64 false true x_1 (.int .u64 16)) w1 fun t10 =>
     RunQ prog (binS .add T.t_int false true n (.int .i64 16)) w1 fun t12 =>
     J_1 t10 t12 w1)
     (J_1 x_1 n w1)) fun J =>
  RunQ prog (binS .geq T.t_uint64 false true x (.int .u64 4294967296)) w fun t4 =>
  Split t4 (RunQ prog (binS .shr T.t_uint64 false true x (.int .u64 32)) w fun t6 =>
   J t6 (.int .i64 32) w)
   (J x (.int .i64 0) w)

theorem math_bits_Len64.enter {x : Value} {w : World} {Q : Value → World → Prop} (h : math_bits_Len64.body x w Q) : Cal prog F.math_bits_Len64 [x] w Q :=
  Cal.enter' (P := prog) mixed (show prog.funcs[F.math_bits_Len64]? = some Tryd.f109 from Tryd.func109) rfl (by kernel_rfl) (by kernel_rfl) (by kernel_rfl) (by kernel_rfl) (Eq.mp (by kernel_rfl) h)

/-- slices.siftDownOrdered[int] -/
def slices_siftDownOrdered_int.body (data lo hi first : Value) (w : World) (Q : Value → World → Prop) : Prop :=
  Loop1 lo w fun root w1 k =>
    RunQ prog (binS .mul T.t_int true false (.int .i64 2) root) w1 fun t12 =>
    RunQ prog (binS .add T.t_int false true t12 (.int .i64 1)) w1 fun t13 =>
    RunQ prog (binS .geq T.t_int false false t13 hi) w1 fun t16 =>
    Split t16 (Q (.tuple #[]) w1)
     (JoinC (α := Value → World → Prop) (fun (child : Value) (w2 : World) =>
      Drew w2 fun w3 =>
      RunQ prog (binS .add T.t_int false false first root) w3 fun t42 =>
      RunQ prog (Instr.indexAt T.t_sl_int data t42) w3 fun t43 =>
      RunQ prog (Instr.loadAt T.t_int t43) w3 fun t44 =>
      RunQ prog (binS .add T.t_int false false first child) w3 fun t48 =>
      RunQ prog (Instr.indexAt T.t_sl_int data t48) w3 fun t49 =>
      RunQ prog (Instr.loadAt T.t_int t49) w3 fun t50 =>
      Cal prog F.cmp_Less_int [t44, t50] w3 fun t51 w4 =>
       RunQ prog (Op.unary .not t51) w4 fun t52 =>
       Split t52 (Q (.tuple #[]) w4)
       (Drew w4 fun w5 =>
      RunQ prog (binS .add T.t_int false false first root) w5 fun t56 =>
      RunQ prog (binS .add T.t_int false false first child) w5 fun t60 =>
      RunQ prog (binS .add T.t_int false false first child) w5 fun t64 =>
      RunQ prog (Instr.indexAt T.t_sl_int data t64) w5 fun t65 =>
      RunQ prog (Instr.loadAt T.t_int t65) w5 fun t66 =>
      RunQ prog (binS .add T.t_int false false first root) w5 fun t70 =>
      RunQ prog (Instr.indexAt T.t_sl_int data t70) w5 fun t71 =>
      RunQ prog (Instr.loadAt T.t_int t71) w5 fun t72 =>
      RunQ prog (Instr.indexAt T.t_sl_int data t56) w5 fun t73 =>
      RunC prog (Instr.storeAt T.t_int t73 t66) w5 fun (_ : Unit) w6 =>
       (Ext w5 w6 ∨ Stays prog (binS .add T.t_int false false first child) t60 w6 ∧ True) ∧
      RunQ prog (Instr.indexAt T.t_sl_int data t60) w6 fun t74 =>
       RunC prog (Instr.storeAt T.t_int t74 t72) w6 fun (_ : Unit) w7 =>
        k child w7)) fun J =>
    JoinC (α := Value → World → Prop) (fun (t36 : Value) (w8 : World) =>
      Split t36 (RunQ prog (binS .add T.t_int false true t13 (.int .i64 1)) w8 fun t38 =>
       J t38 w8)
       (J t13 w8)) fun J_1 =>
    Drew w1 fun w9 =>
    RunQ prog (binS .add T.t_int false true t13 (.int .i64 1)) w9 fun t18 =>
    RunQ prog (binS .lss T.t_int false false t18 hi) w9 fun t20 =>
    Split t20 (RunQ prog (binS .add T.t_int false false first t13) w9 fun t25 =>
    RunQ prog (Instr.indexAt T.t_sl_int data t25) w9 fun t26 =>
    RunQ prog (Instr.loadAt T.t_int t26) w9 fun t27 =>
    RunQ prog (binS .add T.t_int false false first t13) w9 fun t31 =>
    RunQ prog (binS .add T.t_int false true t31 (.int .i64 1)) w9 fun t32 =>
    RunQ prog (Instr.indexAt T.t_sl_int data t32) w9 fun t33 =>
    RunQ prog (Instr.loadAt T.t_int t33) w9 fun t34 =>
    Cal prog F.cmp_Less_int [t27, t34] w9 fun t35 w10 =>
     J_1 t35 w10)
     (J_1 (.bool false) w9))

theorem slices_siftDownOrdered_int.enter {data lo hi first : Value} {w : World} {Q : Value → World → Prop} (h : slices_siftDownOrdered_int.body data lo hi first w Q) : Cal prog F.slices_siftDownOrdered_int [data, lo, hi, first] w Q :=
  Cal.enter' (P := prog) mixed (show prog.funcs[F.slices_siftDownOrdered_int]? = some Tryd.f110 from Tryd.func110) rfl (by kernel_rfl) (by kernel_rfl) (by kernel_rfl) (by kernel_rfl) (Eq.mp (by kernel_rfl) h)

/-- slices.nextPowerOfTwo -/
def slices_nextPowerOfTwo.body (length : Value) (w : World) (Q : Value → World → Prop) : Prop :=
  RunQ prog (convert T.t_int T.t_uint length) w fun t4 =>
  Cal prog F.math_bits_Len [t4] w fun t5 w1 =>
  RunQ prog (binS .shl T.t_uint true false (.int .u64 1) t5) w1 fun t6 =>
  Q t6 w1

theorem slices_nextPowerOfTwo.enter {length : Value} {w : World} {Q : Value → World → Prop} (h : slices_nextPowerOfTwo.body length w Q) : Cal prog F.slices_nextPowerOfTwo [length] w Q :=
  Cal.enter' (P := prog) mixed (show prog.funcs[F.slices_nextPowerOfTwo]? = some Tryd.f111 from Tryd.func111) rfl (by kernel_rfl) (by kernel_rfl) (by kernel_rfl) (by kernel_rfl) (Eq.mp (by kernel_rfl) h)

/-- (*slices.xorshift).Next -/
def P_slices_xorshift_Next.body (r : Value) (w : World) (Q : Value → World → Prop) : Prop :=
  Drew w fun w1 =>
  RunQ prog (nilS r) w1 fun t4 =>
  RunQ prog (Instr.loadAt T.t_slices_xorshift t4) w1 fun t5 =>
  RunQ prog (nilS r) w1 fun t7 =>
  RunQ prog (Instr.loadAt T.t_slices_xorshift t7) w1 fun t8 =>
  RunQ prog (binS .shl T.t_slices_xorshift false true t8 (.int .u64 13)) w1 fun t9 =>
  RunQ prog (binS .xor T.t_slices_xorshift false false t5 t9) w1 fun t10 =>
  RunQ prog (nilS r) w1 fun t11 =>
  RunC prog (Instr.storeAt T.t_slices_xorshift t11 t10) w1 fun (_ : Unit) w2 =>
   Drew w2 fun w3 =>
  RunQ prog (nilS r) w3 fun t13 =>
  RunQ prog (Instr.loadAt T.t_slices_xorshift t13) w3 fun t14 =>
  RunQ prog (nilS r) w3 fun t16 =>
  RunQ prog (Instr.loadAt T.t_slices_xorshift t16) w3 fun t17 =>
  RunQ prog (binS .shr T.t_slices_xorshift false true t17 (.int .u64 7)) w3 fun t18 =>
  RunQ prog (binS .xor T.t_slices_xorshift false false t14 t18) w3 fun t19 =>
  RunQ prog (nilS r) w3 fun t20 =>
  RunC prog (Instr.storeAt T.t_slices_xorshift t20 t19) w3 fun (_ : Unit) w4 =>
   Drew w4 fun w5 =>
  RunQ prog (nilS r) w5 fun t22 =>
  RunQ prog (Instr.loadAt T.t_slices_xorshift t22) w5 fun t23 =>
  RunQ prog (nilS r) w5 fun t25 =>
  RunQ prog (Instr.loadAt T.t_slices_xorshift t25) w5 fun t26 =>
  RunQ prog (binS .shl T.t_slices_xorshift false true t26 (.int .u64 17)) w5 fun t27 =>
  RunQ prog (binS .xor T.t_slices_xorshift false false t23 t27) w5 fun t28 =>
  RunQ prog (nilS r) w5 fun t29 =>
  RunC prog (Instr.storeAt T.t_slices_xorshift t29 t28) w5 fun (_ : Unit) w6 =>
   RunQ prog (nilS r) w6 fun t31 =>
  RunQ prog (Instr.loadAt T.t_slices_xorshift t31) w6 fun t32 =>
  Q t32 w6

theorem P_slices_xorshift_Next.enter {r : Value} {w : World} {Q : Value → World → Prop} (h : P_slices_xorshift_Next.body r w Q) : Cal prog F.P_slices_xorshift_Next [r] w Q :=
  Cal.enter' (P := prog) mixed (show prog.funcs[F.P_slices_xorshift_Next]? = some Tryd.f112 from Tryd.func112) rfl (by kernel_rfl) (by kernel_rfl) (by kernel_rfl) (by kernel_rfl) (Eq.mp (by kernel_rfl) h)

/-- slices.medianAdjacentOrdered[int] -/
def slices_medianAdjacentOrdered_int.body (data a swaps : Value) (w : World) (Q : Value → World → Prop) : Prop :=
  RunQ prog (binS .sub T.t_int false true a (.int .i64 1)) w fun t9 =>
  RunQ prog (binS .add T.t_int false true a (.int .i64 1)) w fun t12 =>
  Cal prog F.slices_medianOrdered_int [data, t9, a, t12, swaps] w fun t14 w1 =>
  Q t14 w1

theorem slices_medianAdjacentOrdered_int.enter {data a swaps : Value} {w : World} {Q : Value → World → Prop} (h : slices_medianAdjacentOrdered_int.body data a swaps w Q) : Cal prog F.slices_medianAdjacentOrdered_int [data, a, swaps] w Q :=
  Cal.enter' (P := prog) mixed (show prog.funcs[F.slices_medianAdjacentOrdered_int]? = some Tryd.f113 from Tryd.func113) rfl (by kernel_rfl) (by kernel_rfl) (by kernel_rfl) (by kernel_rfl) (Eq.mp (by kernel_rfl) h)

/-- slices.medianOrdered[int] -/
def slices_medianOrdered_int.body (data a b c swaps : Value) (w : World) (Q : Value → World → Prop) : Prop :=
  Cal prog F.slices_order2Ordered_int [data, a, b, swaps] w fun t16 w1 =>
  RunQ prog (Instr.extract t16 0) w1 fun t17 =>
  RunQ prog (Instr.extract t16 1) w1 fun t18 =>
  Cal prog F.slices_order2Ordered_int [data, t18, c, swaps] w1 fun t24 w2 =>
  RunQ prog (Instr.extract t24 0) w2 fun t25 =>
  RunQ prog (Instr.extract t24 1) w2 fun t26 =>
  Cal prog F.slices_order2Ordered_int [data, t17, t25, swaps] w2 fun t32 w3 =>
  RunQ prog (Instr.extract t32 0) w3 fun t33 =>
  RunQ prog (Instr.extract t32 1) w3 fun t34 =>
  Q t34 w3

theorem slices_medianOrdered_int.enter {data a b c swaps : Value} {w : World} {Q : Value → World → Prop} (h : slices_medianOrdered_int.body data a b c swaps w Q) : Cal prog F.slices_medianOrdered_int [data, a, b, c, swaps] w Q :=
  Cal.enter' (P := prog) mixed (show prog.funcs[F.slices_medianOrdered_int]? = some Tryd.f114 from Tryd.func114) rfl (by kernel_rfl) (by kernel_rfl) (by kernel_rfl) (by kernel_rfl) (Eq.mp (by kernel_rfl) h)

/-- cmp.isNaN[int] -/
def cmp_isNaN_int.body (x : Value) (w : World) (Q : Value → World → Prop) : Prop :=
  RunQ prog (binS .neq T.t_int false false x x) w fun t5 =>
  Q t5 w

theorem cmp_isNaN_int.enter {x : Value} {w : World} {Q : Value → World → Prop} (h : cmp_isNaN_int.body x w Q) : Cal prog F.cmp_isNaN_int [x] w Q :=
  Cal.enter' (P := prog) mixed (show prog.funcs[F.cmp_isNaN_int]? = some Tryd.f115 from Tryd.func115) rfl (by kernel_rfl) (by kernel_rfl) (by kernel_rfl) (by kernel_rfl) (Eq.mp (by kernel_rfl) h)

/-- slices.order2Ordered[int] -/
def slices_order2Ordered_int.body (data a b swaps : Value) (w : World) (Q : Value → World → Prop) : Prop :=
  Drew w fun w1 =>
  RunQ prog (Instr.indexAt T.t_sl_int data b) w1 fun t12 =>
  RunQ prog (Instr.loadAt T.t_int t12) w1 fun t13 =>
  RunQ prog (Instr.indexAt T.t_sl_int data a) w1 fun t16 =>
  RunQ prog (Instr.loadAt T.t_int t16) w1 fun t17 =>
  Cal prog F.cmp_Less_int [t13, t17] w1 fun t18 w2 =>
   Split t18 (RunQ prog (nilS swaps) w2 fun t20 =>
   RunQ prog (Instr.loadAt T.t_int t20) w2 fun t21 =>
   RunQ prog (binS .add T.t_int false true t21 (.int .i64 1)) w2 fun t22 =>
   RunQ prog (nilS swaps) w2 fun t23 =>
   RunC prog (Instr.storeAt T.t_int t23 t22) w2 fun (_ : Unit) w3 =>
   Q (.tuple #[b, a]) w3)
   (Q (.tuple #[a, b]) w2)

theorem slices_order2Ordered_int.enter {data a b swaps : Value} {w : World} {Q : Value → World → Prop} (h : slices_order2Ordered_int.body data a b swaps w Q) : Cal prog F.slices_order2Ordered_int [data, a, b, swaps] w Q :=
  Cal.enter' (P := prog) mixed (show prog.funcs[F.slices_order2Ordered_int]? = some Tryd.f116 from Tryd.func116) rfl (by kernel_rfl) (by kernel_rfl) (by kernel_rfl) (by kernel_rfl) (Eq.mp (by kernel_rfl) h)

end Go.Proofs.YtahhkeljejfgfaaDoor
