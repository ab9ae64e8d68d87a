/- the functions as conditions (by program) -/
import Derived.Test.YtahhkeljejfgfaaNames
namespace Go.Proofs.Ytahhkeljejfgfaa
open Go Go.Vc Go.Proofs Go.Proofs.Try
set_option maxRecDepth 100000
set_option linter.unusedVariables false

/-- pennyweight/pennyweightlaw24.ScriptReads -/
def law24_ScriptReads.body (p : Value) (w : World) (Q : Value → World → Prop) : Prop :=
  Cal prog F.law24_awake [] w fun t7 w1 =>
  RunQ prog (Op.unary .not t7) w1 fun t8 =>
  Split t8 (Q (.bool false) w1)
   (RunQ prog (Builtin.len_ #[T.t_sl_uint8] T.t_int #[p]) w1 fun t11 =>
  RunQ prog (Builtin.min_ #[T.t_int, T.t_int] T.t_int #[t11, (.int .i64 200)]) w1 fun t12 =>
  RunQ prog (Instr.sliceAt T.t_sl_uint8 p none (some t12) none) w1 fun t13 =>
  Cal prog F.slices_Clone_byte_byte [t13] w1 fun t14 w2 =>
  Cal prog F.slices_Clone_byte_byte [t14] w2 fun t16 w3 =>
  Cal prog F.script_Read [t16] w3 fun t18 w4 =>
  Cal prog F.ref24_Read [t14] w4 fun t20 w5 =>
  RunQ prog (Builtin.len_ #[T.t_sl_script_Op] T.t_int #[t18]) w5 fun t22 =>
  RunQ prog (Builtin.len_ #[T.t_sl_ref24_Op] T.t_int #[t20]) w5 fun t24 =>
  RunQ prog (binS .neq T.t_int false false t22 t24) w5 fun t25 =>
  Split t25 (Q (.bool false) w5)
   (Cal prog F.slices_Equal_byte_byte [t16, t14] w5 fun t29 w6 =>
  RunQ prog (Op.unary .not t29) w6 fun t30 =>
  Split t30 (Q (.bool false) w6)
   (RunQ prog (Builtin.len_ #[T.t_sl_script_Op] T.t_int #[t18]) w6 fun t33 =>
  Loop2 (.bool false) (.int .i64 0) w6 fun t2 t34 w7 k =>
    RunQ prog (binS .lss T.t_int false false t34 t33) w7 fun t35 =>
    Split t35 (Drew w7 fun w8 =>
    RunQ prog (Instr.indexAt T.t_sl_script_Op t18 t34) w8 fun t39 =>
    RunQ prog (Instr.loadAt T.t_script_Op t39) w8 fun t40 =>
    RunQ prog (Instr.indexAt T.t_sl_ref24_Op t20 t34) w8 fun t43 =>
    RunQ prog (Instr.loadAt T.t_ref24_Op t43) w8 fun t44 =>
    RunQ prog (binS .neq T.t_ref24_Op false false t40 t44) w8 fun t45 =>
    Split t45 (Q (.bool false) w8)
     (RunQ prog (binS .add T.t_int false true t34 (.int .i64 1)) w8 fun t46 =>
    k t2 t46 w8))
     (Q (.bool true) w7))))

theorem law24_ScriptReads.enter {p : Value} {w : World} {Q : Value → World → Prop} (h : law24_ScriptReads.body p w Q) : Cal prog F.law24_ScriptReads [p] w Q :=
  Cal.enter' (P := prog) mixed (show prog.funcs[F.law24_ScriptReads]? = some Try.f3 from Try.func3) rfl (by kernel_rfl) (by kernel_rfl) (by kernel_rfl) (by kernel_rfl) (Eq.mp (by kernel_rfl) h)

/-- pennyweight/pennyweightlaw24.awake -/
def law24_awake.body (w : World) (Q : Value → World → Prop) : Prop :=
  RunC prog (Instr.buildSlice T.t_sl_uint8 2 #[(0, (.int .u8 6)), (1, (.int .u8 4))]) w fun t2 w1 =>
  Cal prog F.script_Read [t2] w1 fun t3 w2 =>
  RunQ prog (Builtin.len_ #[T.t_sl_script_Op] T.t_int #[t3]) w2 fun t5 =>
  RunQ prog (binS .eql T.t_int false true t5 (.int .i64 1)) w2 fun t6 =>
  Split t6 (RunQ prog (Instr.indexAt T.t_sl_script_Op t3 (.int .i64 0)) w2 fun t9 =>
  RunQ prog (Instr.fieldAt T.t_script_Op t9 0) w2 fun t10 =>
  RunQ prog (Instr.loadAt T.t_int t10) w2 fun t11 =>
  RunQ prog (binS .eql T.t_int false true t11 (.int .i64 6)) w2 fun t12 =>
  Split t12 (RunQ prog (Instr.indexAt T.t_sl_script_Op t3 (.int .i64 0)) w2 fun t16 =>
  RunQ prog (Instr.fieldAt T.t_script_Op t16 1) w2 fun t17 =>
  RunQ prog (Instr.loadAt T.t_int t17) w2 fun t18 =>
  RunQ prog (binS .eql T.t_int false true t18 (.int .i64 4)) w2 fun t19 =>
  Q t19 w2)
   (Q (.bool false) w2))
   (Q (.bool false) w2)

theorem law24_awake.enter {w : World} {Q : Value → World → Prop} (h : law24_awake.body w Q) : Cal prog F.law24_awake [] w Q :=
  Cal.enter' (P := prog) mixed (show prog.funcs[F.law24_awake]? = some Try.f9 from Try.func9) rfl (by kernel_rfl) (by kernel_rfl) (by kernel_rfl) (by kernel_rfl) (Eq.mp (by kernel_rfl) h)

/-- slices.Clone[[]byte,byte] -/
def slices_Clone_byte_byte.body (s : Value) (w : World) (Q : Value → World → Prop) : Prop :=
  RunQ prog (binS .eql T.t_sl_uint8 false true s (.slice none 0 0)) w fun t4 =>
  Split t4 (Q (.slice none 0 0) w)
   (RunC prog (Instr.buildSlice T.t_sl_uint8 0 #[]) w fun t5 w1 =>
  RunC prog (Builtin.append_ #[T.t_sl_uint8, T.t_sl_uint8] T.t_sl_uint8 #[t5, s]) w1 fun t7 w2 =>
  Q t7 w2)

theorem slices_Clone_byte_byte.enter {s : Value} {w : World} {Q : Value → World → Prop} (h : slices_Clone_byte_byte.body s w Q) : Cal prog F.slices_Clone_byte_byte [s] w Q :=
  Cal.enter' (P := prog) mixed (show prog.funcs[F.slices_Clone_byte_byte]? = some Try.f10 from Try.func10) rfl (by kernel_rfl) (by kernel_rfl) (by kernel_rfl) (by kernel_rfl) (Eq.mp (by kernel_rfl) h)

/-- pennyweight/script.Read -/
def script_Read.body (p : Value) (w : World) (Q : Value → World → Prop) : Prop :=
  RunC prog (Instr.alloc T.t_sl_script_Op true (.tuple #[])) w fun out w1 =>
  Cal prog F.slices_Chunk_byte_byte [p, (.int .i64 6)] w1 fun t7 w2 =>
  Range1 prog t7 w2 (fun t8 w3 k =>
    Again w3 fun w4 =>
    RunC prog (Instr.alloc T.t_arr6_uint8 true (.tuple #[])) w4 fun b w5 =>
    RunQ prog (Instr.sliceAt T.t_arr6_uint8 b none none none) w5 fun t9 =>
    RunC prog (Builtin.copy_ #[T.t_sl_uint8, T.t_sl_uint8] T.t_int #[t9, t8]) w5 fun t11 w6 =>
    RunQ prog (Instr.loadAt T.t_sl_script_Op out) w6 fun t12 =>
    RunQ prog (Instr.indexAt T.t_arr6_uint8 b (.int .i64 0)) w6 fun t13 =>
    RunQ prog (Instr.loadAt T.t_uint8 t13) w6 fun t14 =>
    RunQ prog (convert T.t_uint8 T.t_int t14) w6 fun t15 =>
    RunQ prog (binS .rem T.t_int false true t15 (.int .i64 11)) w6 fun t16 =>
    RunQ prog (Instr.indexAt T.t_arr6_uint8 b (.int .i64 1)) w6 fun t17 =>
    RunQ prog (Instr.loadAt T.t_uint8 t17) w6 fun t18 =>
    RunQ prog (binS .rem T.t_uint8 false true t18 (.int .u8 6)) w6 fun t19 =>
    RunQ prog (convert T.t_uint8 T.t_int t19) w6 fun t20 =>
    RunQ prog (Instr.indexAt T.t_arr6_uint8 b (.int .i64 2)) w6 fun t21 =>
    RunQ prog (Instr.loadAt T.t_uint8 t21) w6 fun t22 =>
    RunQ prog (binS .rem T.t_uint8 false true t22 (.int .u8 4)) w6 fun t23 =>
    RunQ prog (convert T.t_uint8 T.t_int t23) w6 fun t24 =>
    RunQ prog (Instr.indexAt T.t_arr6_uint8 b (.int .i64 3)) w6 fun t25 =>
    RunQ prog (Instr.loadAt T.t_uint8 t25) w6 fun t26 =>
    RunQ prog (binS .rem T.t_uint8 false true t26 (.int .u8 4)) w6 fun t27 =>
    RunQ prog (convert T.t_uint8 T.t_int t27) w6 fun t28 =>
    RunQ prog (Instr.indexAt T.t_arr6_uint8 b (.int .i64 4)) w6 fun t29 =>
    RunQ prog (Instr.loadAt T.t_uint8 t29) w6 fun t30 =>
    RunQ prog (convert T.t_uint8 T.t_int64 t30) w6 fun t31 =>
    RunQ prog (Instr.indexAt T.t_arr6_uint8 b (.int .i64 5)) w6 fun t32 =>
    RunQ prog (Instr.loadAt T.t_uint8 t32) w6 fun t33 =>
    RunQ prog (convert T.t_uint8 T.t_int64 t33) w6 fun t34 =>
    RunQ prog (binS .shl T.t_int64 false true t34 (.int .u64 8)) w6 fun t35 =>
    RunQ prog (binS .add T.t_int64 false false t31 t35) w6 fun t36 =>
    RunQ prog (Instr.build T.t_script_Op #[(0, t16), (1, t20), (2, t24), (3, t28), (4, t36)]) w6 fun t37 =>
    RunC prog (Instr.buildSlice T.t_sl_script_Op 1 #[(0, t37)]) w6 fun t38 w7 =>
    RunC prog (Builtin.append_ #[T.t_sl_script_Op, T.t_sl_script_Op] T.t_sl_script_Op #[t12, t38]) w7 fun t39 w8 =>
    RunC prog (Instr.storeAt T.t_sl_script_Op out t39) w8 fun (_ : Unit) w9 =>
    k .normal w9)
   (fun w10 =>
    RunQ prog (Instr.loadAt T.t_sl_script_Op out) w10 fun t40 =>
  Again w10 fun w11 => Q t40 w11)
   (fun _ => False)
   []

theorem script_Read.enter {p : Value} {w : World} {Q : Value → World → Prop} (h : script_Read.body p w Q) : Cal prog F.script_Read [p] w Q :=
  Cal.enter (P := prog) mixed (show prog.funcs[F.script_Read]? = some Try.f11 from Try.func11) rfl (by kernel_rfl) (by kernel_rfl) (by kernel_rfl) (Eq.mp (by kernel_rfl) h)

/-- pennyweight/pennyweightref24.Read -/
def ref24_Read.body (p : Value) (w : World) (Q : Value → World → Prop) : Prop :=
  RunC prog (Instr.buildSlice T.t_sl_uint8 0 #[]) w fun t4 w1 =>
  RunC prog (Builtin.append_ #[T.t_sl_uint8, T.t_sl_uint8] T.t_sl_uint8 #[t4, p]) w1 fun t6 w2 =>
  Loop1 t6 w2 fun p_1 w3 k =>
    RunQ prog (Builtin.len_ #[T.t_sl_uint8] T.t_int #[p_1]) w3 fun t8 =>
    RunQ prog (binS .rem T.t_int false true t8 (.int .i64 6)) w3 fun t9 =>
    RunQ prog (binS .gtr T.t_int false true t9 (.int .i64 0)) w3 fun t10 =>
    Split t10 (RunC prog (Instr.buildSlice T.t_sl_uint8 1 #[(0, (.int .u8 0))]) w3 fun t12 w4 =>
    RunC prog (Builtin.append_ #[T.t_sl_uint8, T.t_sl_uint8] T.t_sl_uint8 #[p_1, t12]) w4 fun t13 w5 =>
    k t13 w5)
     (Loop2 p_1 (.slice none 0 0) w3 fun p_2 out w6 k_1 =>
    RunQ prog (Builtin.len_ #[T.t_sl_uint8] T.t_int #[p_2]) w6 fun t15 =>
    RunQ prog (binS .gtr T.t_int false true t15 (.int .i64 0)) w6 fun t16 =>
    Split t16 (Drew w6 fun w7 =>
    RunQ prog (Instr.indexAt T.t_sl_uint8 p_2 (.int .i64 0)) w7 fun t21 =>
    RunQ prog (Instr.loadAt T.t_uint8 t21) w7 fun t22 =>
    RunQ prog (convert T.t_uint8 T.t_int t22) w7 fun t23 =>
    RunQ prog (binS .rem T.t_int false true t23 (.int .i64 11)) w7 fun t24 =>
    RunQ prog (Instr.indexAt T.t_sl_uint8 p_2 (.int .i64 1)) w7 fun t26 =>
    RunQ prog (Instr.loadAt T.t_uint8 t26) w7 fun t27 =>
    RunQ prog (convert T.t_uint8 T.t_int t27) w7 fun t28 =>
    RunQ prog (binS .rem T.t_int false true t28 (.int .i64 6)) w7 fun t29 =>
    RunQ prog (Instr.indexAt T.t_sl_uint8 p_2 (.int .i64 2)) w7 fun t31 =>
    RunQ prog (Instr.loadAt T.t_uint8 t31) w7 fun t32 =>
    RunQ prog (convert T.t_uint8 T.t_int t32) w7 fun t33 =>
    RunQ prog (binS .rem T.t_int false true t33 (.int .i64 4)) w7 fun t34 =>
    RunQ prog (Instr.indexAt T.t_sl_uint8 p_2 (.int .i64 3)) w7 fun t36 =>
    RunQ prog (Instr.loadAt T.t_uint8 t36) w7 fun t37 =>
    RunQ prog (convert T.t_uint8 T.t_int t37) w7 fun t38 =>
    RunQ prog (binS .rem T.t_int false true t38 (.int .i64 4)) w7 fun t39 =>
    RunQ prog (Instr.indexAt T.t_sl_uint8 p_2 (.int .i64 4)) w7 fun t41 =>
    RunQ prog (Instr.loadAt T.t_uint8 t41) w7 fun t42 =>
    RunQ prog (convert T.t_uint8 T.t_int64 t42) w7 fun t43 =>
    RunQ prog (Instr.indexAt T.t_sl_uint8 p_2 (.int .i64 5)) w7 fun t45 =>
    RunQ prog (Instr.loadAt T.t_uint8 t45) w7 fun t46 =>
    RunQ prog (convert T.t_uint8 T.t_int64 t46) w7 fun t47 =>
    RunQ prog (binS .mul T.t_int64 true false (.int .i64 256) t47) w7 fun t48 =>
    RunQ prog (binS .add T.t_int64 false false t43 t48) w7 fun t49 =>
    RunQ prog (Instr.build T.t_ref24_Op #[(0, t24), (1, t29), (2, t34), (3, t39), (4, t49)]) w7 fun t50 =>
    RunC prog (Instr.buildSlice T.t_sl_ref24_Op 1 #[(0, t50)]) w7 fun t51 w8 =>
     Ext w7 w8 ∧
    RunC prog (Builtin.append_ #[T.t_sl_ref24_Op, T.t_sl_ref24_Op] T.t_sl_ref24_Op #[out, t51]) w8 fun t52 w9 =>
      RunQ prog (Instr.sliceAt T.t_sl_uint8 p_2 (some (.int .i64 6)) none none) w9 fun t18 =>
    k_1 t18 t52 w9)
     (Q out w6))

theorem ref24_Read.enter {p : Value} {w : World} {Q : Value → World → Prop} (h : ref24_Read.body p w Q) : Cal prog F.ref24_Read [p] w Q :=
  Cal.enter' (P := prog) mixed (show prog.funcs[F.ref24_Read]? = some Try.f12 from Try.func12) rfl (by kernel_rfl) (by kernel_rfl) (by kernel_rfl) (by kernel_rfl) (Eq.mp (by kernel_rfl) h)

/-- slices.Equal[[]byte,byte] -/
def slices_Equal_byte_byte.body (s1 s2 : Value) (w : World) (Q : Value → World → Prop) : Prop :=
  RunQ prog (Builtin.len_ #[T.t_sl_uint8] T.t_int #[s1]) w fun t7 =>
  RunQ prog (Builtin.len_ #[T.t_sl_uint8] T.t_int #[s2]) w fun t9 =>
  RunQ prog (binS .neq T.t_int false false t7 t9) w fun t10 =>
  Split t10 (Q (.bool false) w)
   (RunQ prog (Builtin.len_ #[T.t_sl_uint8] T.t_int #[s1]) w fun t12 =>
  Loop2 (.bool false) (.int .i64 0) w fun t4 t13 w1 k =>
    RunQ prog (binS .lss T.t_int false false t13 t12) w1 fun t14 =>
    Split t14 (Drew w1 fun w2 =>
    RunQ prog (Instr.indexAt T.t_sl_uint8 s1 t13) w2 fun t18 =>
    RunQ prog (Instr.loadAt T.t_uint8 t18) w2 fun t19 =>
    RunQ prog (Instr.indexAt T.t_sl_uint8 s2 t13) w2 fun t22 =>
    RunQ prog (Instr.loadAt T.t_uint8 t22) w2 fun t23 =>
    RunQ prog (binS .neq T.t_uint8 false false t19 t23) w2 fun t24 =>
    Split t24 (Q (.bool false) w2)
     (RunQ prog (binS .add T.t_int false true t13 (.int .i64 1)) w2 fun t25 =>
    k t4 t25 w2))
     (Q (.bool true) w1))

theorem slices_Equal_byte_byte.enter {s1 s2 : Value} {w : World} {Q : Value → World → Prop} (h : slices_Equal_byte_byte.body s1 s2 w Q) : Cal prog F.slices_Equal_byte_byte [s1, s2] w Q :=
  Cal.enter' (P := prog) mixed (show prog.funcs[F.slices_Equal_byte_byte]? = some Try.f13 from Try.func13) rfl (by kernel_rfl) (by kernel_rfl) (by kernel_rfl) (by kernel_rfl) (Eq.mp (by kernel_rfl) h)

/-- slices.Chunk[[]byte,byte] -/
def slices_Chunk_byte_byte.body (s n : Value) (w : World) (Q : Value → World → Prop) : Prop :=
  RunC prog (Instr.box T.t_sl_uint8 s) w fun s_1 w1 =>
  RunC prog (Instr.box T.t_int n) w1 fun n_1 w2 =>
  JoinC (α := World → Prop) (fun (w3 : World) =>
    RunQ prog (Instr.makeFunc (.func F.slices_Chunk_byte_byte__c1) #[] #[s_1, n_1]) w3 fun t8 =>
    Q t8 w3) fun J =>
  RunQ prog (Instr.loadAt T.t_int n_1) w2 fun t5 =>
  RunQ prog (binS .lss T.t_int false true t5 (.int .i64 1)) w2 fun t6 =>
  Split t6 (RunQ prog (Instr.makeInterface T.t_string (.string ⟨#[99, 97, 110, 110, 111, 116, 32, 98, 101, 32, 108, 101, 115, 115, 32, 116, 104, 97, 110, 32, 49]⟩)) w2 fun t7 =>
   False)
   (J w2)

theorem slices_Chunk_byte_byte.enter {s n : Value} {w : World} {Q : Value → World → Prop} (h : slices_Chunk_byte_byte.body s n w Q) : Cal prog F.slices_Chunk_byte_byte [s, n] w Q :=
  Cal.enter' (P := prog) mixed (show prog.funcs[F.slices_Chunk_byte_byte]? = some Try.f41 from Try.func41) rfl (by kernel_rfl) (by kernel_rfl) (by kernel_rfl) (by kernel_rfl) (Eq.mp (by kernel_rfl) h)

/-- slices.Chunk[[]byte,byte]$1 -/
def slices_Chunk_byte_byte__c1.body (yield t1 t2 : Value) (w : World) (Q : Value → World → Prop) : Prop :=
  Loop1 (.int .i64 0) w fun i w1 k =>
    RunQ prog (Instr.loadAt T.t_sl_uint8 t1) w1 fun t7 =>
    RunQ prog (Builtin.len_ #[T.t_sl_uint8] T.t_int #[t7]) w1 fun t8 =>
    RunQ prog (binS .lss T.t_int false false i t8) w1 fun t9 =>
    Split t9 (Drew w1 fun w2 =>
    RunQ prog (Instr.loadAt T.t_int t2) w2 fun t13 =>
    RunQ prog (Instr.loadAt T.t_sl_uint8 t1) w2 fun t14 =>
    RunQ prog (Instr.sliceAt T.t_sl_uint8 t14 (some i) none none) w2 fun t16 =>
    RunQ prog (Builtin.len_ #[T.t_sl_uint8] T.t_int #[t16]) w2 fun t17 =>
    RunQ prog (Builtin.min_ #[T.t_int, T.t_int] T.t_int #[t13, t17]) w2 fun t18 =>
    RunQ prog (Instr.loadAt T.t_sl_uint8 t1) w2 fun t20 =>
    RunQ prog (binS .add T.t_int false false i t18) w2 fun t24 =>
    RunQ prog (binS .add T.t_int false false i t18) w2 fun t27 =>
    RunQ prog (Instr.sliceAt T.t_sl_uint8 t20 (some i) (some t24) (some t27)) w2 fun t28 =>
    CalV prog true yield [t28] w2 fun t29 w3 =>
    RunQ prog (Op.unary .not t29) w3 fun t30 =>
    Split t30 (Q (.tuple #[]) w3)
     (RunQ prog (Instr.loadAt T.t_int t2) w3 fun t11 =>
    RunQ prog (binS .add T.t_int false false i t11) w3 fun t12 =>
    k t12 w3))
     (Q (.tuple #[]) w1)

theorem slices_Chunk_byte_byte__c1.enter {yield t1 t2 : Value} {w : World} {Q : Value → World → Prop} (h : slices_Chunk_byte_byte__c1.body yield t1 t2 w Q) : CalF prog F.slices_Chunk_byte_byte__c1 [yield, t1, t2] w Q :=
  CalF.enter (P := prog) mixed (show prog.funcs[F.slices_Chunk_byte_byte__c1]? = some Try.f66 from Try.func66) rfl (by kernel_rfl) (by kernel_rfl) (by kernel_rfl) (Eq.mp (by kernel_rfl) h)

theorem slices_Chunk_byte_byte__c1.enters : Enters prog F.slices_Chunk_byte_byte__c1 :=
  Enters.of prog (show prog.funcs[F.slices_Chunk_byte_byte__c1]? = some Try.f66 from Try.func66) rfl (by kernel_rfl)

end Go.Proofs.Ytahhkeljejfgfaa
