/-
  The structures of the Go types that occur as values; closed facts on the types. Printed by gen.py (own work).
-/
import Derived.Test.YtjdnjlnfcbaokaaLgDraw
import Derived.Test.YtjdnjlnfcbaokaaProg
import Derived.Lib.Bytealg
import Derived.Laws.StructEq
import Derived.ChangeKeysEq
set_option linter.unusedVariables false
set_option linter.unusedSimpArgs false
namespace Go.Proofs.Ytjdnjlnfcbaokaa
open Go Go.Lg
theorem mixed : Try.prog.follows .mixedOrders = true := by kernel_rfl
structure Tapi_Config where
  Routes : Sl
  Origins : Sl
  Table : Int
  Message : Int
  Frame : Int
  Count : Int
  Bytes : Int
  Out : Int
  Shake : Int
  Idle : Int
  Pong : Int
  Close : Int
instance : Agg Tapi_Config where
  size := 12
  cells x := [.slice x.Routes.a x.Routes.n x.Routes.c, .slice x.Origins.a x.Origins.n x.Origins.c, .int .i64 x.Table, .int .i64 x.Message, .int .i64 x.Frame, .int .i64 x.Count, .int .i64 x.Bytes, .int .i64 x.Out, .int .i64 x.Shake, .int .i64 x.Idle, .int .i64 x.Pong, .int .i64 x.Close]
structure Tapi_Route where
  Prefix : ByteArray
  Protocol : ByteArray
  To : ByteArray
instance : Agg Tapi_Route where
  size := 3
  cells x := [.string x.Prefix, .string x.Protocol, .string x.To]
structure A4i64 where
  e0 : Int
  e1 : Int
  e2 : Int
  e3 : Int
instance : Agg A4i64 where
  size := 4
  cells x := [.int .i64 x.e0, .int .i64 x.e1, .int .i64 x.e2, .int .i64 x.e3]
structure Tleg_Leg where
  c_Routes : Sl
  c_Origins : Sl
  c_Table : Int
  c_Message : Int
  c_Frame : Int
  c_Count : Int
  c_Bytes : Int
  c_Out : Int
  c_Shake : Int
  c_Idle : Int
  c_Pong : Int
  c_Close : Int
  in_ : Option Addr
  m : Option Addr
  out_Ring : Option Addr
  out_tail : Sl
  ctl : Sl
  rest : Sl
  masks : Bool
  draw : Int
  sent : Bool
  got : Bool
  wrong : Int
instance : Agg Tleg_Leg where
  size := 23
  cells x := [.slice x.c_Routes.a x.c_Routes.n x.c_Routes.c, .slice x.c_Origins.a x.c_Origins.n x.c_Origins.c, .int .i64 x.c_Table, .int .i64 x.c_Message, .int .i64 x.c_Frame, .int .i64 x.c_Count, .int .i64 x.c_Bytes, .int .i64 x.c_Out, .int .i64 x.c_Shake, .int .i64 x.c_Idle, .int .i64 x.c_Pong, .int .i64 x.c_Close, .pointer x.in_, .pointer x.m, .pointer x.out_Ring, .slice x.out_tail.a x.out_tail.n x.out_tail.c, .slice x.ctl.a x.ctl.n x.ctl.c, .slice x.rest.a x.rest.n x.rest.c, .bool x.masks, .int .u32 x.draw, .bool x.sent, .bool x.got, .int .i64 x.wrong]
structure Tstream_Stream where
  masked : Bool
  most : Int
  part : Sl
  err : Int
instance : Agg Tstream_Stream where
  size := 4
  cells x := [.bool x.masked, .int .i64 x.most, .slice x.part.a x.part.n x.part.c, .int .i64 x.err]
structure Tutf_Checker where
  left : Int
  next_e0 : Int
  next_e1 : Int
  count : Int
  bad : Bool
instance : Agg Tutf_Checker where
  size := 5
  cells x := [.int .i64 x.left, .int .u8 x.next_e0, .int .u8 x.next_e1, .int .i64 x.count, .bool x.bad]
structure Tmsg_Machine where
  most : Int
  op : Int
  part : Sl
  text : Option Addr
  over : Bool
  err : Int
instance : Agg Tmsg_Machine where
  size := 6
  cells x := [.int .i64 x.most, .int .i64 x.op, .slice x.part.a x.part.n x.part.c, .pointer x.text, .bool x.over, .int .i64 x.err]
structure Tring_Ring where
  b : Sl
  at_ : Int
  size : Int
instance : Agg Tring_Ring where
  size := 3
  cells x := [.slice x.b.a x.b.n x.b.c, .int .i64 x.at_, .int .i64 x.size]
structure Tapi_Frame where
  Fin : Bool
  Op : Int
  Masked : Bool
  Key_e0 : Int
  Key_e1 : Int
  Key_e2 : Int
  Key_e3 : Int
  Data : ByteArray
instance : Agg Tapi_Frame where
  size := 8
  cells x := [.bool x.Fin, .int .i64 x.Op, .bool x.Masked, .int .u8 x.Key_e0, .int .u8 x.Key_e1, .int .u8 x.Key_e2, .int .u8 x.Key_e3, .string x.Data]
structure A4u8 where
  e0 : Int
  e1 : Int
  e2 : Int
  e3 : Int
instance : Agg A4u8 where
  size := 4
  cells x := [.int .u8 x.e0, .int .u8 x.e1, .int .u8 x.e2, .int .u8 x.e3]
structure Tapi_Event where
  Op : Int
  Code : Int
  Data : ByteArray
instance : Agg Tapi_Event where
  size := 3
  cells x := [.int .i64 x.Op, .int .i64 x.Code, .string x.Data]
structure A2u8 where
  e0 : Int
  e1 : Int
instance : Agg A2u8 where
  size := 2
  cells x := [.int .u8 x.e0, .int .u8 x.e1]
theorem fa_25_0 : ∀ (a : Addr) (w : World), (Instr.fieldAt 25 (.pointer (some a)) 0).run Try.prog w = .ok (.pointer (some (a.add 0))) w := by
  intro a w
  simp [Instr.fieldAt, Try.runUnderlying25, Instr.sureAddr, fieldPlace, Try.sizeOf23]
theorem fa_25_1 : ∀ (a : Addr) (w : World), (Instr.fieldAt 25 (.pointer (some a)) 1).run Try.prog w = .ok (.pointer (some (a.add 1))) w := by
  intro a w
  simp [Instr.fieldAt, Try.runUnderlying25, Instr.sureAddr, fieldPlace, Try.sizeOf22]
theorem fa_25_2 : ∀ (a : Addr) (w : World), (Instr.fieldAt 25 (.pointer (some a)) 2).run Try.prog w = .ok (.pointer (some (a.add 2))) w := by
  intro a w
  simp [Instr.fieldAt, Try.runUnderlying25, Instr.sureAddr, fieldPlace, Try.sizeOf3]
theorem fa_25_3 : ∀ (a : Addr) (w : World), (Instr.fieldAt 25 (.pointer (some a)) 3).run Try.prog w = .ok (.pointer (some (a.add 3))) w := by
  intro a w
  simp [Instr.fieldAt, Try.runUnderlying25, Instr.sureAddr, fieldPlace, Try.sizeOf3]
theorem fa_25_4 : ∀ (a : Addr) (w : World), (Instr.fieldAt 25 (.pointer (some a)) 4).run Try.prog w = .ok (.pointer (some (a.add 4))) w := by
  intro a w
  simp [Instr.fieldAt, Try.runUnderlying25, Instr.sureAddr, fieldPlace, Try.sizeOf3]
theorem fa_25_5 : ∀ (a : Addr) (w : World), (Instr.fieldAt 25 (.pointer (some a)) 5).run Try.prog w = .ok (.pointer (some (a.add 5))) w := by
  intro a w
  simp [Instr.fieldAt, Try.runUnderlying25, Instr.sureAddr, fieldPlace, Try.sizeOf3]
theorem fa_25_6 : ∀ (a : Addr) (w : World), (Instr.fieldAt 25 (.pointer (some a)) 6).run Try.prog w = .ok (.pointer (some (a.add 6))) w := by
  intro a w
  simp [Instr.fieldAt, Try.runUnderlying25, Instr.sureAddr, fieldPlace, Try.sizeOf3]
theorem fa_25_7 : ∀ (a : Addr) (w : World), (Instr.fieldAt 25 (.pointer (some a)) 7).run Try.prog w = .ok (.pointer (some (a.add 7))) w := by
  intro a w
  simp [Instr.fieldAt, Try.runUnderlying25, Instr.sureAddr, fieldPlace, Try.sizeOf3]
theorem fa_25_8 : ∀ (a : Addr) (w : World), (Instr.fieldAt 25 (.pointer (some a)) 8).run Try.prog w = .ok (.pointer (some (a.add 8))) w := by
  intro a w
  simp [Instr.fieldAt, Try.runUnderlying25, Instr.sureAddr, fieldPlace, Try.sizeOf3]
theorem fa_25_9 : ∀ (a : Addr) (w : World), (Instr.fieldAt 25 (.pointer (some a)) 9).run Try.prog w = .ok (.pointer (some (a.add 9))) w := by
  intro a w
  simp [Instr.fieldAt, Try.runUnderlying25, Instr.sureAddr, fieldPlace, Try.sizeOf3]
theorem fa_25_10 : ∀ (a : Addr) (w : World), (Instr.fieldAt 25 (.pointer (some a)) 10).run Try.prog w = .ok (.pointer (some (a.add 10))) w := by
  intro a w
  simp [Instr.fieldAt, Try.runUnderlying25, Instr.sureAddr, fieldPlace, Try.sizeOf3]
theorem fa_25_11 : ∀ (a : Addr) (w : World), (Instr.fieldAt 25 (.pointer (some a)) 11).run Try.prog w = .ok (.pointer (some (a.add 11))) w := by
  intro a w
  simp [Instr.fieldAt, Try.runUnderlying25, Instr.sureAddr, fieldPlace, Try.sizeOf3]
theorem fa_63_0 : ∀ (a : Addr) (w : World), (Instr.fieldAt 63 (.pointer (some a)) 0).run Try.prog w = .ok (.pointer (some (a.add 0))) w := by
  intro a w
  simp [Instr.fieldAt, Try.runUnderlying63, Instr.sureAddr, fieldPlace, Try.sizeOf9]
theorem ext_106 (s : ByteArray) (c : Int) (w : World) : (callFunc 106 #[.string s, .int .u8 c]).run Try.prog w = .ok (.value (.int .i64 (Lib.indexByte s.data.toList c.toNat.toUInt8))) w := by
  have h1 : Extern.findNext Try.f106 = none := by kernel_rfl
  have h2 : Extern.find Try.f106 = some Extern.BytealgIndexByte.indexByte := by kernel_rfl
  have h3 : (Try.f106.name == "runtime.NumGoroutine") = false := by kernel_rfl
  have h4 : Try.f106.body.isNone = true := by kernel_rfl
  simp only [callFunc, Sem.run_bind, run_program, Result.andThen_ok, Try.func106, h3, h4, Bool.false_eq_true, if_false, if_true, run_mark, h1, h2, Lib.run_indexByteString]
  rfl
theorem fa_63_1 : ∀ (a : Addr) (w : World), (Instr.fieldAt 63 (.pointer (some a)) 1).run Try.prog w = .ok (.pointer (some (a.add 1))) w := by
  intro a w
  simp [Instr.fieldAt, Try.runUnderlying63, Instr.sureAddr, fieldPlace, Try.sizeOf9]
theorem fa_63_2 : ∀ (a : Addr) (w : World), (Instr.fieldAt 63 (.pointer (some a)) 2).run Try.prog w = .ok (.pointer (some (a.add 2))) w := by
  intro a w
  simp [Instr.fieldAt, Try.runUnderlying63, Instr.sureAddr, fieldPlace, Try.sizeOf9]
def Tapi_Route.eqb (x y : Tapi_Route) : Bool := sEq x.Prefix y.Prefix && sEq x.Protocol y.Protocol && sEq x.To y.To
theorem eq_63_in (d : Nat) (x y : Tapi_Route) (w : World) : (Op.equalIn (d + 1 + 1) 63 (.agg (Agg.cells x).toArray) (.agg (Agg.cells y).toArray)).run Try.prog w = .ok (Tapi_Route.eqb x y) w := by
  rw [run_equalIn_agg w (d + 1) 63 _ _ (by simp only [Program.fieldsOf, Try.underlying63]) Try.stoodInHeld63]
  simp [Program.fieldsOf, Try.underlying63, Op.eqFields, part, Try.isAgg9, run_equalIn_string _ _ _ _ _ Try.underlying9, Agg.cells, Tapi_Route.eqb, sEq]
  repeat' split
  all_goals simp_all
theorem eq_63_run (x y : Tapi_Route) : ∀ (ox oy : Operand) (w : World), ((do eqGuard .eql 63 ox oy (.agg (Agg.cells x).toArray) (.agg (Agg.cells y).toArray); binOp .eql 63 (.agg (Agg.cells x).toArray) (.agg (Agg.cells y).toArray)) : Sem Value).run Try.prog w = .ok (.bool (Tapi_Route.eqb x y)) w := by
  intro ox oy w
  simp only [Sem.run_bind, run_eqGuard_agg _ _ _ _ _ _ _ Try.eqGuardType63, Result.andThen_ok, run_eql_struct]
  rw [eq_63_in 9998]; rfl
theorem ne_63_run (x y : Tapi_Route) : ∀ (ox oy : Operand) (w : World), ((do eqGuard .neq 63 ox oy (.agg (Agg.cells x).toArray) (.agg (Agg.cells y).toArray); binOp .neq 63 (.agg (Agg.cells x).toArray) (.agg (Agg.cells y).toArray)) : Sem Value).run Try.prog w = .ok (.bool (!Tapi_Route.eqb x y)) w := by
  intro ox oy w
  simp only [Sem.run_bind, run_eqGuard_agg _ _ _ _ _ _ _ Try.eqGuardType63, Result.andThen_ok, run_neq_struct]
  rw [eq_63_in 9998]; rfl
theorem fa_71_1 : ∀ (a : Addr) (w : World), (Instr.fieldAt 71 (.pointer (some a)) 1).run Try.prog w = .ok (.pointer (some (a.add 12))) w := by
  intro a w
  simp [Instr.fieldAt, Try.runUnderlying71, Instr.sureAddr, fieldPlace, Try.sizeOf65]
theorem fa_71_2 : ∀ (a : Addr) (w : World), (Instr.fieldAt 71 (.pointer (some a)) 2).run Try.prog w = .ok (.pointer (some (a.add 13))) w := by
  intro a w
  simp [Instr.fieldAt, Try.runUnderlying71, Instr.sureAddr, fieldPlace, Try.sizeOf66]
theorem fa_71_3 : ∀ (a : Addr) (w : World), (Instr.fieldAt 71 (.pointer (some a)) 3).run Try.prog w = .ok (.pointer (some (a.add 14))) w := by
  intro a w
  simp [Instr.fieldAt, Try.runUnderlying71, Instr.sureAddr, fieldPlace, Try.sizeOf69]
theorem fa_69_0 : ∀ (a : Addr) (w : World), (Instr.fieldAt 69 (.pointer (some a)) 0).run Try.prog w = .ok (.pointer (some (a.add 0))) w := by
  intro a w
  simp [Instr.fieldAt, Try.runUnderlying69, Instr.sureAddr, fieldPlace, Try.sizeOf67]
theorem fa_71_8 : ∀ (a : Addr) (w : World), (Instr.fieldAt 71 (.pointer (some a)) 8).run Try.prog w = .ok (.pointer (some (a.add 20))) w := by
  intro a w
  simp [Instr.fieldAt, Try.runUnderlying71, Instr.sureAddr, fieldPlace, Try.sizeOf4]
theorem fa_71_9 : ∀ (a : Addr) (w : World), (Instr.fieldAt 71 (.pointer (some a)) 9).run Try.prog w = .ok (.pointer (some (a.add 21))) w := by
  intro a w
  simp [Instr.fieldAt, Try.runUnderlying71, Instr.sureAddr, fieldPlace, Try.sizeOf4]
theorem fa_71_10 : ∀ (a : Addr) (w : World), (Instr.fieldAt 71 (.pointer (some a)) 10).run Try.prog w = .ok (.pointer (some (a.add 22))) w := by
  intro a w
  simp [Instr.fieldAt, Try.runUnderlying71, Instr.sureAddr, fieldPlace, Try.sizeOf28]
theorem fa_71_5 : ∀ (a : Addr) (w : World), (Instr.fieldAt 71 (.pointer (some a)) 5).run Try.prog w = .ok (.pointer (some (a.add 17))) w := by
  intro a w
  simp [Instr.fieldAt, Try.runUnderlying71, Instr.sureAddr, fieldPlace, Try.sizeOf54]
theorem fa_93_3 : ∀ (a : Addr) (w : World), (Instr.fieldAt 93 (.pointer (some a)) 3).run Try.prog w = .ok (.pointer (some (a.add 3))) w := by
  intro a w
  simp [Instr.fieldAt, Try.runUnderlying93, Instr.sureAddr, fieldPlace, Try.sizeOf28]
theorem fa_93_2 : ∀ (a : Addr) (w : World), (Instr.fieldAt 93 (.pointer (some a)) 2).run Try.prog w = .ok (.pointer (some (a.add 2))) w := by
  intro a w
  simp [Instr.fieldAt, Try.runUnderlying93, Instr.sureAddr, fieldPlace, Try.sizeOf36]
theorem fa_93_1 : ∀ (a : Addr) (w : World), (Instr.fieldAt 93 (.pointer (some a)) 1).run Try.prog w = .ok (.pointer (some (a.add 1))) w := by
  intro a w
  simp [Instr.fieldAt, Try.runUnderlying93, Instr.sureAddr, fieldPlace, Try.sizeOf3]
theorem fa_59_1 : ∀ (a : Addr) (w : World), (Instr.fieldAt 59 (.pointer (some a)) 1).run Try.prog w = .ok (.pointer (some (a.add 1))) w := by
  intro a w
  simp [Instr.fieldAt, Try.runUnderlying59, Instr.sureAddr, fieldPlace, Try.sizeOf3]
theorem fa_59_0 : ∀ (a : Addr) (w : World), (Instr.fieldAt 59 (.pointer (some a)) 0).run Try.prog w = .ok (.pointer (some (a.add 0))) w := by
  intro a w
  simp [Instr.fieldAt, Try.runUnderlying59, Instr.sureAddr, fieldPlace, Try.sizeOf4]
theorem fa_59_2 : ∀ (a : Addr) (w : World), (Instr.fieldAt 59 (.pointer (some a)) 2).run Try.prog w = .ok (.pointer (some (a.add 2))) w := by
  intro a w
  simp [Instr.fieldAt, Try.runUnderlying59, Instr.sureAddr, fieldPlace, Try.sizeOf4]
theorem fa_59_3 : ∀ (a : Addr) (w : World), (Instr.fieldAt 59 (.pointer (some a)) 3).run Try.prog w = .ok (.pointer (some (a.add 3))) w := by
  intro a w
  simp [Instr.fieldAt, Try.runUnderlying59, Instr.sureAddr, fieldPlace, Try.sizeOf57]
theorem fa_59_4 : ∀ (a : Addr) (w : World), (Instr.fieldAt 59 (.pointer (some a)) 4).run Try.prog w = .ok (.pointer (some (a.add 7))) w := by
  intro a w
  simp [Instr.fieldAt, Try.runUnderlying59, Instr.sureAddr, fieldPlace, Try.sizeOf9]
theorem fa_93_0 : ∀ (a : Addr) (w : World), (Instr.fieldAt 93 (.pointer (some a)) 0).run Try.prog w = .ok (.pointer (some (a.add 0))) w := by
  intro a w
  simp [Instr.fieldAt, Try.runUnderlying93, Instr.sureAddr, fieldPlace, Try.sizeOf4]
theorem fa_97_5 : ∀ (a : Addr) (w : World), (Instr.fieldAt 97 (.pointer (some a)) 5).run Try.prog w = .ok (.pointer (some (a.add 5))) w := by
  intro a w
  simp [Instr.fieldAt, Try.runUnderlying97, Instr.sureAddr, fieldPlace, Try.sizeOf28]
theorem fa_97_4 : ∀ (a : Addr) (w : World), (Instr.fieldAt 97 (.pointer (some a)) 4).run Try.prog w = .ok (.pointer (some (a.add 4))) w := by
  intro a w
  simp [Instr.fieldAt, Try.runUnderlying97, Instr.sureAddr, fieldPlace, Try.sizeOf4]
def A4u8.eqb (x y : A4u8) : Bool := (x.e0 == y.e0) && (x.e1 == y.e1) && (x.e2 == y.e2) && (x.e3 == y.e3)
theorem eq_57_in (d : Nat) (x y : A4u8) (w : World) : (Op.equalIn (d + 1 + 1) 57 (.agg (Agg.cells x).toArray) (.agg (Agg.cells y).toArray)).run Try.prog w = .ok (A4u8.eqb x y) w := by
  have hf : Try.prog.cellsOf 5 = 1 := by kernel_rfl
  rw [run_equalIn_array w (d + 1) _ _ Try.underlying57 (i := Try.t5) (by kernel_rfl), hf]
  simp [Op.eqItems, List.range_succ, part, Try.isAgg5, run_equalIn_int _ _ _ _ _ _ _ Try.underlying5, Agg.cells, A4u8.eqb]
  repeat' split
  all_goals simp_all
theorem eq_57_run (x y : A4u8) : ∀ (ox oy : Operand) (w : World), ((do eqGuard .eql 57 ox oy (.agg (Agg.cells x).toArray) (.agg (Agg.cells y).toArray); binOp .eql 57 (.agg (Agg.cells x).toArray) (.agg (Agg.cells y).toArray)) : Sem Value).run Try.prog w = .ok (.bool (A4u8.eqb x y)) w := by
  intro ox oy w
  simp only [Sem.run_bind, run_eqGuard_agg _ _ _ _ _ _ _ Try.eqGuardType57, Result.andThen_ok, run_eql_struct]
  rw [eq_57_in 9998]; rfl
theorem ne_57_run (x y : A4u8) : ∀ (ox oy : Operand) (w : World), ((do eqGuard .neq 57 ox oy (.agg (Agg.cells x).toArray) (.agg (Agg.cells y).toArray); binOp .neq 57 (.agg (Agg.cells x).toArray) (.agg (Agg.cells y).toArray)) : Sem Value).run Try.prog w = .ok (.bool (!A4u8.eqb x y)) w := by
  intro ox oy w
  simp only [Sem.run_bind, run_eqGuard_agg _ _ _ _ _ _ _ Try.eqGuardType57, Result.andThen_ok, run_neq_struct]
  rw [eq_57_in 9998]; rfl
theorem fa_97_1 : ∀ (a : Addr) (w : World), (Instr.fieldAt 97 (.pointer (some a)) 1).run Try.prog w = .ok (.pointer (some (a.add 1))) w := by
  intro a w
  simp [Instr.fieldAt, Try.runUnderlying97, Instr.sureAddr, fieldPlace, Try.sizeOf3]
theorem fa_97_2 : ∀ (a : Addr) (w : World), (Instr.fieldAt 97 (.pointer (some a)) 2).run Try.prog w = .ok (.pointer (some (a.add 2))) w := by
  intro a w
  simp [Instr.fieldAt, Try.runUnderlying97, Instr.sureAddr, fieldPlace, Try.sizeOf36]
theorem fa_119_3 : ∀ (a : Addr) (w : World), (Instr.fieldAt 119 (.pointer (some a)) 3).run Try.prog w = .ok (.pointer (some (a.add 4))) w := by
  intro a w
  simp [Instr.fieldAt, Try.runUnderlying119, Instr.sureAddr, fieldPlace, Try.sizeOf4]
theorem fa_119_0 : ∀ (a : Addr) (w : World), (Instr.fieldAt 119 (.pointer (some a)) 0).run Try.prog w = .ok (.pointer (some (a.add 0))) w := by
  intro a w
  simp [Instr.fieldAt, Try.runUnderlying119, Instr.sureAddr, fieldPlace, Try.sizeOf3]
theorem fa_119_1 : ∀ (a : Addr) (w : World), (Instr.fieldAt 119 (.pointer (some a)) 1).run Try.prog w = .ok (.pointer (some (a.add 1))) w := by
  intro a w
  simp [Instr.fieldAt, Try.runUnderlying119, Instr.sureAddr, fieldPlace, Try.sizeOf117]
theorem fa_119_2 : ∀ (a : Addr) (w : World), (Instr.fieldAt 119 (.pointer (some a)) 2).run Try.prog w = .ok (.pointer (some (a.add 3))) w := by
  intro a w
  simp [Instr.fieldAt, Try.runUnderlying119, Instr.sureAddr, fieldPlace, Try.sizeOf3]
theorem fa_97_3 : ∀ (a : Addr) (w : World), (Instr.fieldAt 97 (.pointer (some a)) 3).run Try.prog w = .ok (.pointer (some (a.add 3))) w := by
  intro a w
  simp [Instr.fieldAt, Try.runUnderlying97, Instr.sureAddr, fieldPlace, Try.sizeOf94]
theorem fa_97_0 : ∀ (a : Addr) (w : World), (Instr.fieldAt 97 (.pointer (some a)) 0).run Try.prog w = .ok (.pointer (some (a.add 0))) w := by
  intro a w
  simp [Instr.fieldAt, Try.runUnderlying97, Instr.sureAddr, fieldPlace, Try.sizeOf3]
theorem fa_71_4 : ∀ (a : Addr) (w : World), (Instr.fieldAt 71 (.pointer (some a)) 4).run Try.prog w = .ok (.pointer (some (a.add 16))) w := by
  intro a w
  simp [Instr.fieldAt, Try.runUnderlying71, Instr.sureAddr, fieldPlace, Try.sizeOf54]
theorem fa_69_1 : ∀ (a : Addr) (w : World), (Instr.fieldAt 69 (.pointer (some a)) 1).run Try.prog w = .ok (.pointer (some (a.add 1))) w := by
  intro a w
  simp [Instr.fieldAt, Try.runUnderlying69, Instr.sureAddr, fieldPlace, Try.sizeOf36]
theorem fa_99_0 : ∀ (a : Addr) (w : World), (Instr.fieldAt 99 (.pointer (some a)) 0).run Try.prog w = .ok (.pointer (some (a.add 0))) w := by
  intro a w
  simp [Instr.fieldAt, Try.runUnderlying99, Instr.sureAddr, fieldPlace, Try.sizeOf36]
theorem fa_99_2 : ∀ (a : Addr) (w : World), (Instr.fieldAt 99 (.pointer (some a)) 2).run Try.prog w = .ok (.pointer (some (a.add 2))) w := by
  intro a w
  simp [Instr.fieldAt, Try.runUnderlying99, Instr.sureAddr, fieldPlace, Try.sizeOf3]
theorem fa_99_1 : ∀ (a : Addr) (w : World), (Instr.fieldAt 99 (.pointer (some a)) 1).run Try.prog w = .ok (.pointer (some (a.add 1))) w := by
  intro a w
  simp [Instr.fieldAt, Try.runUnderlying99, Instr.sureAddr, fieldPlace, Try.sizeOf3]
theorem fa_71_6 : ∀ (a : Addr) (w : World), (Instr.fieldAt 71 (.pointer (some a)) 6).run Try.prog w = .ok (.pointer (some (a.add 18))) w := by
  intro a w
  simp [Instr.fieldAt, Try.runUnderlying71, Instr.sureAddr, fieldPlace, Try.sizeOf4]
theorem fa_71_7 : ∀ (a : Addr) (w : World), (Instr.fieldAt 71 (.pointer (some a)) 7).run Try.prog w = .ok (.pointer (some (a.add 19))) w := by
  intro a w
  simp [Instr.fieldAt, Try.runUnderlying71, Instr.sureAddr, fieldPlace, Try.sizeOf31]
theorem fa_47_0 : ∀ (a : Addr) (w : World), (Instr.fieldAt 47 (.pointer (some a)) 0).run Try.prog w = .ok (.pointer (some (a.add 0))) w := by
  intro a w
  simp [Instr.fieldAt, Try.runUnderlying47, Instr.sureAddr, fieldPlace, Try.sizeOf3]
theorem fa_47_2 : ∀ (a : Addr) (w : World), (Instr.fieldAt 47 (.pointer (some a)) 2).run Try.prog w = .ok (.pointer (some (a.add 2))) w := by
  intro a w
  simp [Instr.fieldAt, Try.runUnderlying47, Instr.sureAddr, fieldPlace, Try.sizeOf9]
theorem fa_47_1 : ∀ (a : Addr) (w : World), (Instr.fieldAt 47 (.pointer (some a)) 1).run Try.prog w = .ok (.pointer (some (a.add 1))) w := by
  intro a w
  simp [Instr.fieldAt, Try.runUnderlying47, Instr.sureAddr, fieldPlace, Try.sizeOf3]
theorem fa_71_0 : ∀ (a : Addr) (w : World), (Instr.fieldAt 71 (.pointer (some a)) 0).run Try.prog w = .ok (.pointer (some (a.add 0))) w := by
  intro a w
  simp [Instr.fieldAt, Try.runUnderlying71, Instr.sureAddr, fieldPlace, Try.sizeOf25]
end Go.Proofs.Ytjdnjlnfcbaokaa
