/-
  The structures of the Go types that occur as values; closed facts on the types. Printed by gen.py (own work).
-/
import Derived.Test.YtjdnjlnfcbaokaaGreatLgDraw
import Derived.Test.YtjdnjlnfcbaokaaGreatProg
import Derived.Lib.Bytealg
import Derived.Laws.StructEq
import Derived.ChangeKeysEq
set_option linter.unusedVariables false
set_option linter.unusedSimpArgs false
namespace Go.Proofs.YtjdnjlnfcbaokaaGreat
open Go Go.Lg
theorem mixed : Tryz.prog.follows .mixedOrders = true := by kernel_rfl
structure A5u8 where
  e0 : Int
  e1 : Int
  e2 : Int
  e3 : Int
  e4 : Int
instance : Agg A5u8 where
  size := 5
  cells x := [.int .u8 x.e0, .int .u8 x.e1, .int .u8 x.e2, .int .u8 x.e3, .int .u8 x.e4]
structure Tapi_Config where
  Routes : Sl
  Origins : Sl
  Table : Int
  Message : Int
  Frame : Int
  Count : Int
  Bytes : Int
  Out : Int
  Shake : Int
  Idle : Int
  Pong : Int
  Close : Int
instance : Agg Tapi_Config where
  size := 12
  cells x := [.slice x.Routes.a x.Routes.n x.Routes.c, .slice x.Origins.a x.Origins.n x.Origins.c, .int .i64 x.Table, .int .i64 x.Message, .int .i64 x.Frame, .int .i64 x.Count, .int .i64 x.Bytes, .int .i64 x.Out, .int .i64 x.Shake, .int .i64 x.Idle, .int .i64 x.Pong, .int .i64 x.Close]
structure Tapi_Route where
  Prefix : ByteArray
  Protocol : ByteArray
  To : ByteArray
instance : Agg Tapi_Route where
  size := 3
  cells x := [.string x.Prefix, .string x.Protocol, .string x.To]
structure Tbridge_Bridge where
  c_Routes : Sl
  c_Origins : Sl
  c_Table : Int
  c_Message : Int
  c_Frame : Int
  c_Count : Int
  c_Bytes : Int
  c_Out : Int
  c_Shake : Int
  c_Idle : Int
  c_Pong : Int
  c_Close : Int
  s_e0_leg : Option Addr
  s_e0_q : Option Addr
  s_e0_lost : Bool
  s_e0_last : Int
  s_e0_heard : Int
  s_e0_asked : Bool
  s_e0_ending : Int
  s_e1_leg : Option Addr
  s_e1_q : Option Addr
  s_e1_lost : Bool
  s_e1_last : Int
  s_e1_heard : Int
  s_e1_asked : Bool
  s_e1_ending : Int
instance : Agg Tbridge_Bridge where
  size := 26
  cells x := [.slice x.c_Routes.a x.c_Routes.n x.c_Routes.c, .slice x.c_Origins.a x.c_Origins.n x.c_Origins.c, .int .i64 x.c_Table, .int .i64 x.c_Message, .int .i64 x.c_Frame, .int .i64 x.c_Count, .int .i64 x.c_Bytes, .int .i64 x.c_Out, .int .i64 x.c_Shake, .int .i64 x.c_Idle, .int .i64 x.c_Pong, .int .i64 x.c_Close, .pointer x.s_e0_leg, .pointer x.s_e0_q, .bool x.s_e0_lost, .int .i64 x.s_e0_last, .int .i64 x.s_e0_heard, .bool x.s_e0_asked, .int .i64 x.s_e0_ending, .pointer x.s_e1_leg, .pointer x.s_e1_q, .bool x.s_e1_lost, .int .i64 x.s_e1_last, .int .i64 x.s_e1_heard, .bool x.s_e1_asked, .int .i64 x.s_e1_ending]
structure A4i64 where
  e0 : Int
  e1 : Int
  e2 : Int
  e3 : Int
instance : Agg A4i64 where
  size := 4
  cells x := [.int .i64 x.e0, .int .i64 x.e1, .int .i64 x.e2, .int .i64 x.e3]
structure Tleg_Leg where
  c_Routes : Sl
  c_Origins : Sl
  c_Table : Int
  c_Message : Int
  c_Frame : Int
  c_Count : Int
  c_Bytes : Int
  c_Out : Int
  c_Shake : Int
  c_Idle : Int
  c_Pong : Int
  c_Close : Int
  in_ : Option Addr
  m : Option Addr
  out_Ring : Option Addr
  out_tail : Sl
  ctl : Sl
  rest : Sl
  masks : Bool
  draw : Int
  sent : Bool
  got : Bool
  wrong : Int
instance : Agg Tleg_Leg where
  size := 23
  cells x := [.slice x.c_Routes.a x.c_Routes.n x.c_Routes.c, .slice x.c_Origins.a x.c_Origins.n x.c_Origins.c, .int .i64 x.c_Table, .int .i64 x.c_Message, .int .i64 x.c_Frame, .int .i64 x.c_Count, .int .i64 x.c_Bytes, .int .i64 x.c_Out, .int .i64 x.c_Shake, .int .i64 x.c_Idle, .int .i64 x.c_Pong, .int .i64 x.c_Close, .pointer x.in_, .pointer x.m, .pointer x.out_Ring, .slice x.out_tail.a x.out_tail.n x.out_tail.c, .slice x.ctl.a x.ctl.n x.ctl.c, .slice x.rest.a x.rest.n x.rest.c, .bool x.masks, .int .u32 x.draw, .bool x.sent, .bool x.got, .int .i64 x.wrong]
structure Tstream_Stream where
  masked : Bool
  most : Int
  part : Sl
  err : Int
instance : Agg Tstream_Stream where
  size := 4
  cells x := [.bool x.masked, .int .i64 x.most, .slice x.part.a x.part.n x.part.c, .int .i64 x.err]
structure Tutf_Checker where
  left : Int
  next_e0 : Int
  next_e1 : Int
  count : Int
  bad : Bool
instance : Agg Tutf_Checker where
  size := 5
  cells x := [.int .i64 x.left, .int .u8 x.next_e0, .int .u8 x.next_e1, .int .i64 x.count, .bool x.bad]
structure Tmsg_Machine where
  most : Int
  op : Int
  part : Sl
  text : Option Addr
  over : Bool
  err : Int
instance : Agg Tmsg_Machine where
  size := 6
  cells x := [.int .i64 x.most, .int .i64 x.op, .slice x.part.a x.part.n x.part.c, .pointer x.text, .bool x.over, .int .i64 x.err]
structure Tring_Ring where
  b : Sl
  at_ : Int
  size : Int
instance : Agg Tring_Ring where
  size := 3
  cells x := [.slice x.b.a x.b.n x.b.c, .int .i64 x.at_, .int .i64 x.size]
structure Tqueue_Queue where
  count : Int
  bytes : Int
  l_l : Sl
  size : Int
instance : Agg Tqueue_Queue where
  size := 4
  cells x := [.int .i64 x.count, .int .i64 x.bytes, .slice x.l_l.a x.l_l.n x.l_l.c, .int .i64 x.size]
structure Tbridge_side where
  leg : Option Addr
  q : Option Addr
  lost : Bool
  last : Int
  heard : Int
  asked : Bool
  ending : Int
instance : Agg Tbridge_side where
  size := 7
  cells x := [.pointer x.leg, .pointer x.q, .bool x.lost, .int .i64 x.last, .int .i64 x.heard, .bool x.asked, .int .i64 x.ending]
structure Tapi_Frame where
  Fin : Bool
  Op : Int
  Masked : Bool
  Key_e0 : Int
  Key_e1 : Int
  Key_e2 : Int
  Key_e3 : Int
  Data : ByteArray
instance : Agg Tapi_Frame where
  size := 8
  cells x := [.bool x.Fin, .int .i64 x.Op, .bool x.Masked, .int .u8 x.Key_e0, .int .u8 x.Key_e1, .int .u8 x.Key_e2, .int .u8 x.Key_e3, .string x.Data]
structure A4u8 where
  e0 : Int
  e1 : Int
  e2 : Int
  e3 : Int
instance : Agg A4u8 where
  size := 4
  cells x := [.int .u8 x.e0, .int .u8 x.e1, .int .u8 x.e2, .int .u8 x.e3]
structure Tapi_Event where
  Op : Int
  Code : Int
  Data : ByteArray
instance : Agg Tapi_Event where
  size := 3
  cells x := [.int .i64 x.Op, .int .i64 x.Code, .string x.Data]
structure A2u8 where
  e0 : Int
  e1 : Int
instance : Agg A2u8 where
  size := 2
  cells x := [.int .u8 x.e0, .int .u8 x.e1]
structure Tref17_Act where
  Kind : Int
  Side : Int
  N : Int
  S : ByteArray
instance : Agg Tref17_Act where
  size := 4
  cells x := [.int .i64 x.Kind, .int .i64 x.Side, .int .i64 x.N, .string x.S]
theorem fa_25_3 : ∀ (a : Addr) (w : World), (Instr.fieldAt 25 (.pointer (some a)) 3).run Tryz.prog w = .ok (.pointer (some (a.add 3))) w := by
  intro a w
  simp [Instr.fieldAt, Tryz.runUnderlying25, Instr.sureAddr, fieldPlace, Tryz.sizeOf3]
theorem fa_25_5 : ∀ (a : Addr) (w : World), (Instr.fieldAt 25 (.pointer (some a)) 5).run Tryz.prog w = .ok (.pointer (some (a.add 5))) w := by
  intro a w
  simp [Instr.fieldAt, Tryz.runUnderlying25, Instr.sureAddr, fieldPlace, Tryz.sizeOf3]
theorem fa_25_6 : ∀ (a : Addr) (w : World), (Instr.fieldAt 25 (.pointer (some a)) 6).run Tryz.prog w = .ok (.pointer (some (a.add 6))) w := by
  intro a w
  simp [Instr.fieldAt, Tryz.runUnderlying25, Instr.sureAddr, fieldPlace, Tryz.sizeOf3]
theorem fa_25_0 : ∀ (a : Addr) (w : World), (Instr.fieldAt 25 (.pointer (some a)) 0).run Tryz.prog w = .ok (.pointer (some (a.add 0))) w := by
  intro a w
  simp [Instr.fieldAt, Tryz.runUnderlying25, Instr.sureAddr, fieldPlace, Tryz.sizeOf22]
theorem fa_25_1 : ∀ (a : Addr) (w : World), (Instr.fieldAt 25 (.pointer (some a)) 1).run Tryz.prog w = .ok (.pointer (some (a.add 1))) w := by
  intro a w
  simp [Instr.fieldAt, Tryz.runUnderlying25, Instr.sureAddr, fieldPlace, Tryz.sizeOf23]
theorem fa_25_2 : ∀ (a : Addr) (w : World), (Instr.fieldAt 25 (.pointer (some a)) 2).run Tryz.prog w = .ok (.pointer (some (a.add 2))) w := by
  intro a w
  simp [Instr.fieldAt, Tryz.runUnderlying25, Instr.sureAddr, fieldPlace, Tryz.sizeOf3]
theorem fa_25_4 : ∀ (a : Addr) (w : World), (Instr.fieldAt 25 (.pointer (some a)) 4).run Tryz.prog w = .ok (.pointer (some (a.add 4))) w := by
  intro a w
  simp [Instr.fieldAt, Tryz.runUnderlying25, Instr.sureAddr, fieldPlace, Tryz.sizeOf3]
theorem fa_25_7 : ∀ (a : Addr) (w : World), (Instr.fieldAt 25 (.pointer (some a)) 7).run Tryz.prog w = .ok (.pointer (some (a.add 7))) w := by
  intro a w
  simp [Instr.fieldAt, Tryz.runUnderlying25, Instr.sureAddr, fieldPlace, Tryz.sizeOf3]
theorem fa_25_8 : ∀ (a : Addr) (w : World), (Instr.fieldAt 25 (.pointer (some a)) 8).run Tryz.prog w = .ok (.pointer (some (a.add 8))) w := by
  intro a w
  simp [Instr.fieldAt, Tryz.runUnderlying25, Instr.sureAddr, fieldPlace, Tryz.sizeOf3]
theorem fa_25_9 : ∀ (a : Addr) (w : World), (Instr.fieldAt 25 (.pointer (some a)) 9).run Tryz.prog w = .ok (.pointer (some (a.add 9))) w := by
  intro a w
  simp [Instr.fieldAt, Tryz.runUnderlying25, Instr.sureAddr, fieldPlace, Tryz.sizeOf3]
theorem fa_25_10 : ∀ (a : Addr) (w : World), (Instr.fieldAt 25 (.pointer (some a)) 10).run Tryz.prog w = .ok (.pointer (some (a.add 10))) w := by
  intro a w
  simp [Instr.fieldAt, Tryz.runUnderlying25, Instr.sureAddr, fieldPlace, Tryz.sizeOf3]
theorem fa_25_11 : ∀ (a : Addr) (w : World), (Instr.fieldAt 25 (.pointer (some a)) 11).run Tryz.prog w = .ok (.pointer (some (a.add 11))) w := by
  intro a w
  simp [Instr.fieldAt, Tryz.runUnderlying25, Instr.sureAddr, fieldPlace, Tryz.sizeOf3]
theorem fa_100_0 : ∀ (a : Addr) (w : World), (Instr.fieldAt 100 (.pointer (some a)) 0).run Tryz.prog w = .ok (.pointer (some (a.add 0))) w := by
  intro a w
  simp [Instr.fieldAt, Tryz.runUnderlying100, Instr.sureAddr, fieldPlace, Tryz.sizeOf9]
theorem ext_186 (s : ByteArray) (c : Int) (w : World) : (callFunc 186 #[.string s, .int .u8 c]).run Tryz.prog w = .ok (.value (.int .i64 (Lib.indexByte s.data.toList c.toNat.toUInt8))) w := by
  have h1 : Extern.findNext Tryz.f186 = none := by kernel_rfl
  have h2 : Extern.find Tryz.f186 = some Extern.BytealgIndexByte.indexByte := by kernel_rfl
  have h3 : (Tryz.f186.name == "runtime.NumGoroutine") = false := by kernel_rfl
  have h4 : Tryz.f186.body.isNone = true := by kernel_rfl
  simp only [callFunc, Sem.run_bind, run_program, Result.andThen_ok, Tryz.func186, h3, h4, Bool.false_eq_true, if_false, if_true, run_mark, h1, h2, Lib.run_indexByteString]
  rfl
theorem fa_100_1 : ∀ (a : Addr) (w : World), (Instr.fieldAt 100 (.pointer (some a)) 1).run Tryz.prog w = .ok (.pointer (some (a.add 1))) w := by
  intro a w
  simp [Instr.fieldAt, Tryz.runUnderlying100, Instr.sureAddr, fieldPlace, Tryz.sizeOf9]
theorem fa_100_2 : ∀ (a : Addr) (w : World), (Instr.fieldAt 100 (.pointer (some a)) 2).run Tryz.prog w = .ok (.pointer (some (a.add 2))) w := by
  intro a w
  simp [Instr.fieldAt, Tryz.runUnderlying100, Instr.sureAddr, fieldPlace, Tryz.sizeOf9]
def Tapi_Route.eqb (x y : Tapi_Route) : Bool := sEq x.Prefix y.Prefix && sEq x.Protocol y.Protocol && sEq x.To y.To
theorem eq_100_in (d : Nat) (x y : Tapi_Route) (w : World) : (Op.equalIn (d + 1 + 1) 100 (.agg (Agg.cells x).toArray) (.agg (Agg.cells y).toArray)).run Tryz.prog w = .ok (Tapi_Route.eqb x y) w := by
  rw [run_equalIn_agg w (d + 1) 100 _ _ (by simp only [Program.fieldsOf, Tryz.underlying100]) Tryz.stoodInHeld100]
  simp [Program.fieldsOf, Tryz.underlying100, Op.eqFields, part, Tryz.isAgg9, run_equalIn_string _ _ _ _ _ Tryz.underlying9, Agg.cells, Tapi_Route.eqb, sEq]
  repeat' split
  all_goals simp_all
theorem eq_100_run (x y : Tapi_Route) : ∀ (ox oy : Operand) (w : World), ((do eqGuard .eql 100 ox oy (.agg (Agg.cells x).toArray) (.agg (Agg.cells y).toArray); binOp .eql 100 (.agg (Agg.cells x).toArray) (.agg (Agg.cells y).toArray)) : Sem Value).run Tryz.prog w = .ok (.bool (Tapi_Route.eqb x y)) w := by
  intro ox oy w
  simp only [Sem.run_bind, run_eqGuard_agg _ _ _ _ _ _ _ Tryz.eqGuardType100, Result.andThen_ok, run_eql_struct]
  rw [eq_100_in 9998]; rfl
theorem ne_100_run (x y : Tapi_Route) : ∀ (ox oy : Operand) (w : World), ((do eqGuard .neq 100 ox oy (.agg (Agg.cells x).toArray) (.agg (Agg.cells y).toArray); binOp .neq 100 (.agg (Agg.cells x).toArray) (.agg (Agg.cells y).toArray)) : Sem Value).run Tryz.prog w = .ok (.bool (!Tapi_Route.eqb x y)) w := by
  intro ox oy w
  simp only [Sem.run_bind, run_eqGuard_agg _ _ _ _ _ _ _ Tryz.eqGuardType100, Result.andThen_ok, run_neq_struct]
  rw [eq_100_in 9998]; rfl
theorem fa_109_1 : ∀ (a : Addr) (w : World), (Instr.fieldAt 109 (.pointer (some a)) 1).run Tryz.prog w = .ok (.pointer (some (a.add 12))) w := by
  intro a w
  simp [Instr.fieldAt, Tryz.runUnderlying109, Instr.sureAddr, fieldPlace, Tryz.sizeOf103]
theorem fa_109_2 : ∀ (a : Addr) (w : World), (Instr.fieldAt 109 (.pointer (some a)) 2).run Tryz.prog w = .ok (.pointer (some (a.add 13))) w := by
  intro a w
  simp [Instr.fieldAt, Tryz.runUnderlying109, Instr.sureAddr, fieldPlace, Tryz.sizeOf104]
theorem fa_109_3 : ∀ (a : Addr) (w : World), (Instr.fieldAt 109 (.pointer (some a)) 3).run Tryz.prog w = .ok (.pointer (some (a.add 14))) w := by
  intro a w
  simp [Instr.fieldAt, Tryz.runUnderlying109, Instr.sureAddr, fieldPlace, Tryz.sizeOf107]
theorem fa_107_0 : ∀ (a : Addr) (w : World), (Instr.fieldAt 107 (.pointer (some a)) 0).run Tryz.prog w = .ok (.pointer (some (a.add 0))) w := by
  intro a w
  simp [Instr.fieldAt, Tryz.runUnderlying107, Instr.sureAddr, fieldPlace, Tryz.sizeOf105]
theorem fa_141_1 : ∀ (a : Addr) (w : World), (Instr.fieldAt 141 (.pointer (some a)) 1).run Tryz.prog w = .ok (.pointer (some (a.add 12))) w := by
  intro a w
  simp [Instr.fieldAt, Tryz.runUnderlying141, Instr.sureAddr, fieldPlace, Tryz.sizeOf139]
theorem fa_138_2 : ∀ (a : Addr) (w : World), (Instr.fieldAt 138 (.pointer (some a)) 2).run Tryz.prog w = .ok (.pointer (some (a.add 2))) w := by
  intro a w
  simp [Instr.fieldAt, Tryz.runUnderlying138, Instr.sureAddr, fieldPlace, Tryz.sizeOf4]
theorem fa_138_0 : ∀ (a : Addr) (w : World), (Instr.fieldAt 138 (.pointer (some a)) 0).run Tryz.prog w = .ok (.pointer (some (a.add 0))) w := by
  intro a w
  simp [Instr.fieldAt, Tryz.runUnderlying138, Instr.sureAddr, fieldPlace, Tryz.sizeOf30]
theorem fa_109_9 : ∀ (a : Addr) (w : World), (Instr.fieldAt 109 (.pointer (some a)) 9).run Tryz.prog w = .ok (.pointer (some (a.add 21))) w := by
  intro a w
  simp [Instr.fieldAt, Tryz.runUnderlying109, Instr.sureAddr, fieldPlace, Tryz.sizeOf4]
theorem fa_109_10 : ∀ (a : Addr) (w : World), (Instr.fieldAt 109 (.pointer (some a)) 10).run Tryz.prog w = .ok (.pointer (some (a.add 22))) w := by
  intro a w
  simp [Instr.fieldAt, Tryz.runUnderlying109, Instr.sureAddr, fieldPlace, Tryz.sizeOf31]
theorem fa_138_1 : ∀ (a : Addr) (w : World), (Instr.fieldAt 138 (.pointer (some a)) 1).run Tryz.prog w = .ok (.pointer (some (a.add 1))) w := by
  intro a w
  simp [Instr.fieldAt, Tryz.runUnderlying138, Instr.sureAddr, fieldPlace, Tryz.sizeOf136]
theorem fa_141_0 : ∀ (a : Addr) (w : World), (Instr.fieldAt 141 (.pointer (some a)) 0).run Tryz.prog w = .ok (.pointer (some (a.add 0))) w := by
  intro a w
  simp [Instr.fieldAt, Tryz.runUnderlying141, Instr.sureAddr, fieldPlace, Tryz.sizeOf25]
theorem fa_188_0 : ∀ (a : Addr) (w : World), (Instr.fieldAt 188 (.pointer (some a)) 0).run Tryz.prog w = .ok (.pointer (some (a.add 0))) w := by
  intro a w
  simp [Instr.fieldAt, Tryz.runUnderlying188, Instr.sureAddr, fieldPlace, Tryz.sizeOf3]
theorem fa_188_2 : ∀ (a : Addr) (w : World), (Instr.fieldAt 188 (.pointer (some a)) 2).run Tryz.prog w = .ok (.pointer (some (a.add 2))) w := by
  intro a w
  simp [Instr.fieldAt, Tryz.runUnderlying188, Instr.sureAddr, fieldPlace, Tryz.sizeOf186]
theorem fa_186_0 : ∀ (a : Addr) (w : World), (Instr.fieldAt 186 (.pointer (some a)) 0).run Tryz.prog w = .ok (.pointer (some (a.add 0))) w := by
  intro a w
  simp [Instr.fieldAt, Tryz.runUnderlying186, Instr.sureAddr, fieldPlace, Tryz.sizeOf47]
theorem fa_188_1 : ∀ (a : Addr) (w : World), (Instr.fieldAt 188 (.pointer (some a)) 1).run Tryz.prog w = .ok (.pointer (some (a.add 1))) w := by
  intro a w
  simp [Instr.fieldAt, Tryz.runUnderlying188, Instr.sureAddr, fieldPlace, Tryz.sizeOf3]
theorem fa_188_3 : ∀ (a : Addr) (w : World), (Instr.fieldAt 188 (.pointer (some a)) 3).run Tryz.prog w = .ok (.pointer (some (a.add 3))) w := by
  intro a w
  simp [Instr.fieldAt, Tryz.runUnderlying188, Instr.sureAddr, fieldPlace, Tryz.sizeOf3]
theorem fa_138_4 : ∀ (a : Addr) (w : World), (Instr.fieldAt 138 (.pointer (some a)) 4).run Tryz.prog w = .ok (.pointer (some (a.add 4))) w := by
  intro a w
  simp [Instr.fieldAt, Tryz.runUnderlying138, Instr.sureAddr, fieldPlace, Tryz.sizeOf3]
theorem fa_138_5 : ∀ (a : Addr) (w : World), (Instr.fieldAt 138 (.pointer (some a)) 5).run Tryz.prog w = .ok (.pointer (some (a.add 5))) w := by
  intro a w
  simp [Instr.fieldAt, Tryz.runUnderlying138, Instr.sureAddr, fieldPlace, Tryz.sizeOf4]
theorem fa_159_3 : ∀ (a : Addr) (w : World), (Instr.fieldAt 159 (.pointer (some a)) 3).run Tryz.prog w = .ok (.pointer (some (a.add 3))) w := by
  intro a w
  simp [Instr.fieldAt, Tryz.runUnderlying159, Instr.sureAddr, fieldPlace, Tryz.sizeOf31]
theorem fa_159_2 : ∀ (a : Addr) (w : World), (Instr.fieldAt 159 (.pointer (some a)) 2).run Tryz.prog w = .ok (.pointer (some (a.add 2))) w := by
  intro a w
  simp [Instr.fieldAt, Tryz.runUnderlying159, Instr.sureAddr, fieldPlace, Tryz.sizeOf49]
theorem fa_159_1 : ∀ (a : Addr) (w : World), (Instr.fieldAt 159 (.pointer (some a)) 1).run Tryz.prog w = .ok (.pointer (some (a.add 1))) w := by
  intro a w
  simp [Instr.fieldAt, Tryz.runUnderlying159, Instr.sureAddr, fieldPlace, Tryz.sizeOf3]
theorem fa_61_1 : ∀ (a : Addr) (w : World), (Instr.fieldAt 61 (.pointer (some a)) 1).run Tryz.prog w = .ok (.pointer (some (a.add 1))) w := by
  intro a w
  simp [Instr.fieldAt, Tryz.runUnderlying61, Instr.sureAddr, fieldPlace, Tryz.sizeOf3]
theorem fa_61_0 : ∀ (a : Addr) (w : World), (Instr.fieldAt 61 (.pointer (some a)) 0).run Tryz.prog w = .ok (.pointer (some (a.add 0))) w := by
  intro a w
  simp [Instr.fieldAt, Tryz.runUnderlying61, Instr.sureAddr, fieldPlace, Tryz.sizeOf4]
theorem fa_61_2 : ∀ (a : Addr) (w : World), (Instr.fieldAt 61 (.pointer (some a)) 2).run Tryz.prog w = .ok (.pointer (some (a.add 2))) w := by
  intro a w
  simp [Instr.fieldAt, Tryz.runUnderlying61, Instr.sureAddr, fieldPlace, Tryz.sizeOf4]
theorem fa_61_3 : ∀ (a : Addr) (w : World), (Instr.fieldAt 61 (.pointer (some a)) 3).run Tryz.prog w = .ok (.pointer (some (a.add 3))) w := by
  intro a w
  simp [Instr.fieldAt, Tryz.runUnderlying61, Instr.sureAddr, fieldPlace, Tryz.sizeOf59]
theorem fa_61_4 : ∀ (a : Addr) (w : World), (Instr.fieldAt 61 (.pointer (some a)) 4).run Tryz.prog w = .ok (.pointer (some (a.add 7))) w := by
  intro a w
  simp [Instr.fieldAt, Tryz.runUnderlying61, Instr.sureAddr, fieldPlace, Tryz.sizeOf9]
theorem fa_159_0 : ∀ (a : Addr) (w : World), (Instr.fieldAt 159 (.pointer (some a)) 0).run Tryz.prog w = .ok (.pointer (some (a.add 0))) w := by
  intro a w
  simp [Instr.fieldAt, Tryz.runUnderlying159, Instr.sureAddr, fieldPlace, Tryz.sizeOf4]
theorem fa_163_5 : ∀ (a : Addr) (w : World), (Instr.fieldAt 163 (.pointer (some a)) 5).run Tryz.prog w = .ok (.pointer (some (a.add 5))) w := by
  intro a w
  simp [Instr.fieldAt, Tryz.runUnderlying163, Instr.sureAddr, fieldPlace, Tryz.sizeOf31]
theorem fa_163_4 : ∀ (a : Addr) (w : World), (Instr.fieldAt 163 (.pointer (some a)) 4).run Tryz.prog w = .ok (.pointer (some (a.add 4))) w := by
  intro a w
  simp [Instr.fieldAt, Tryz.runUnderlying163, Instr.sureAddr, fieldPlace, Tryz.sizeOf4]
def A4u8.eqb (x y : A4u8) : Bool := (x.e0 == y.e0) && (x.e1 == y.e1) && (x.e2 == y.e2) && (x.e3 == y.e3)
theorem eq_59_in (d : Nat) (x y : A4u8) (w : World) : (Op.equalIn (d + 1 + 1) 59 (.agg (Agg.cells x).toArray) (.agg (Agg.cells y).toArray)).run Tryz.prog w = .ok (A4u8.eqb x y) w := by
  have hf : Tryz.prog.cellsOf 5 = 1 := by kernel_rfl
  rw [run_equalIn_array w (d + 1) _ _ Tryz.underlying59 (i := Tryz.t5) (by kernel_rfl), hf]
  simp [Op.eqItems, List.range_succ, part, Tryz.isAgg5, run_equalIn_int _ _ _ _ _ _ _ Tryz.underlying5, Agg.cells, A4u8.eqb]
  repeat' split
  all_goals simp_all
theorem eq_59_run (x y : A4u8) : ∀ (ox oy : Operand) (w : World), ((do eqGuard .eql 59 ox oy (.agg (Agg.cells x).toArray) (.agg (Agg.cells y).toArray); binOp .eql 59 (.agg (Agg.cells x).toArray) (.agg (Agg.cells y).toArray)) : Sem Value).run Tryz.prog w = .ok (.bool (A4u8.eqb x y)) w := by
  intro ox oy w
  simp only [Sem.run_bind, run_eqGuard_agg _ _ _ _ _ _ _ Tryz.eqGuardType59, Result.andThen_ok, run_eql_struct]
  rw [eq_59_in 9998]; rfl
theorem ne_59_run (x y : A4u8) : ∀ (ox oy : Operand) (w : World), ((do eqGuard .neq 59 ox oy (.agg (Agg.cells x).toArray) (.agg (Agg.cells y).toArray); binOp .neq 59 (.agg (Agg.cells x).toArray) (.agg (Agg.cells y).toArray)) : Sem Value).run Tryz.prog w = .ok (.bool (!A4u8.eqb x y)) w := by
  intro ox oy w
  simp only [Sem.run_bind, run_eqGuard_agg _ _ _ _ _ _ _ Tryz.eqGuardType59, Result.andThen_ok, run_neq_struct]
  rw [eq_59_in 9998]; rfl
theorem fa_163_1 : ∀ (a : Addr) (w : World), (Instr.fieldAt 163 (.pointer (some a)) 1).run Tryz.prog w = .ok (.pointer (some (a.add 1))) w := by
  intro a w
  simp [Instr.fieldAt, Tryz.runUnderlying163, Instr.sureAddr, fieldPlace, Tryz.sizeOf3]
theorem fa_163_2 : ∀ (a : Addr) (w : World), (Instr.fieldAt 163 (.pointer (some a)) 2).run Tryz.prog w = .ok (.pointer (some (a.add 2))) w := by
  intro a w
  simp [Instr.fieldAt, Tryz.runUnderlying163, Instr.sureAddr, fieldPlace, Tryz.sizeOf49]
theorem fa_200_3 : ∀ (a : Addr) (w : World), (Instr.fieldAt 200 (.pointer (some a)) 3).run Tryz.prog w = .ok (.pointer (some (a.add 4))) w := by
  intro a w
  simp [Instr.fieldAt, Tryz.runUnderlying200, Instr.sureAddr, fieldPlace, Tryz.sizeOf4]
theorem fa_200_0 : ∀ (a : Addr) (w : World), (Instr.fieldAt 200 (.pointer (some a)) 0).run Tryz.prog w = .ok (.pointer (some (a.add 0))) w := by
  intro a w
  simp [Instr.fieldAt, Tryz.runUnderlying200, Instr.sureAddr, fieldPlace, Tryz.sizeOf3]
theorem fa_200_1 : ∀ (a : Addr) (w : World), (Instr.fieldAt 200 (.pointer (some a)) 1).run Tryz.prog w = .ok (.pointer (some (a.add 1))) w := by
  intro a w
  simp [Instr.fieldAt, Tryz.runUnderlying200, Instr.sureAddr, fieldPlace, Tryz.sizeOf198]
theorem fa_200_2 : ∀ (a : Addr) (w : World), (Instr.fieldAt 200 (.pointer (some a)) 2).run Tryz.prog w = .ok (.pointer (some (a.add 3))) w := by
  intro a w
  simp [Instr.fieldAt, Tryz.runUnderlying200, Instr.sureAddr, fieldPlace, Tryz.sizeOf3]
theorem fa_163_3 : ∀ (a : Addr) (w : World), (Instr.fieldAt 163 (.pointer (some a)) 3).run Tryz.prog w = .ok (.pointer (some (a.add 3))) w := by
  intro a w
  simp [Instr.fieldAt, Tryz.runUnderlying163, Instr.sureAddr, fieldPlace, Tryz.sizeOf160]
theorem fa_163_0 : ∀ (a : Addr) (w : World), (Instr.fieldAt 163 (.pointer (some a)) 0).run Tryz.prog w = .ok (.pointer (some (a.add 0))) w := by
  intro a w
  simp [Instr.fieldAt, Tryz.runUnderlying163, Instr.sureAddr, fieldPlace, Tryz.sizeOf3]
theorem fa_109_8 : ∀ (a : Addr) (w : World), (Instr.fieldAt 109 (.pointer (some a)) 8).run Tryz.prog w = .ok (.pointer (some (a.add 20))) w := by
  intro a w
  simp [Instr.fieldAt, Tryz.runUnderlying109, Instr.sureAddr, fieldPlace, Tryz.sizeOf4]
theorem fa_109_5 : ∀ (a : Addr) (w : World), (Instr.fieldAt 109 (.pointer (some a)) 5).run Tryz.prog w = .ok (.pointer (some (a.add 17))) w := by
  intro a w
  simp [Instr.fieldAt, Tryz.runUnderlying109, Instr.sureAddr, fieldPlace, Tryz.sizeOf34]
theorem fa_109_4 : ∀ (a : Addr) (w : World), (Instr.fieldAt 109 (.pointer (some a)) 4).run Tryz.prog w = .ok (.pointer (some (a.add 16))) w := by
  intro a w
  simp [Instr.fieldAt, Tryz.runUnderlying109, Instr.sureAddr, fieldPlace, Tryz.sizeOf34]
theorem fa_107_1 : ∀ (a : Addr) (w : World), (Instr.fieldAt 107 (.pointer (some a)) 1).run Tryz.prog w = .ok (.pointer (some (a.add 1))) w := by
  intro a w
  simp [Instr.fieldAt, Tryz.runUnderlying107, Instr.sureAddr, fieldPlace, Tryz.sizeOf49]
theorem fa_165_0 : ∀ (a : Addr) (w : World), (Instr.fieldAt 165 (.pointer (some a)) 0).run Tryz.prog w = .ok (.pointer (some (a.add 0))) w := by
  intro a w
  simp [Instr.fieldAt, Tryz.runUnderlying165, Instr.sureAddr, fieldPlace, Tryz.sizeOf49]
theorem fa_165_2 : ∀ (a : Addr) (w : World), (Instr.fieldAt 165 (.pointer (some a)) 2).run Tryz.prog w = .ok (.pointer (some (a.add 2))) w := by
  intro a w
  simp [Instr.fieldAt, Tryz.runUnderlying165, Instr.sureAddr, fieldPlace, Tryz.sizeOf3]
theorem fa_165_1 : ∀ (a : Addr) (w : World), (Instr.fieldAt 165 (.pointer (some a)) 1).run Tryz.prog w = .ok (.pointer (some (a.add 1))) w := by
  intro a w
  simp [Instr.fieldAt, Tryz.runUnderlying165, Instr.sureAddr, fieldPlace, Tryz.sizeOf3]
theorem fa_109_6 : ∀ (a : Addr) (w : World), (Instr.fieldAt 109 (.pointer (some a)) 6).run Tryz.prog w = .ok (.pointer (some (a.add 18))) w := by
  intro a w
  simp [Instr.fieldAt, Tryz.runUnderlying109, Instr.sureAddr, fieldPlace, Tryz.sizeOf4]
theorem fa_109_7 : ∀ (a : Addr) (w : World), (Instr.fieldAt 109 (.pointer (some a)) 7).run Tryz.prog w = .ok (.pointer (some (a.add 19))) w := by
  intro a w
  simp [Instr.fieldAt, Tryz.runUnderlying109, Instr.sureAddr, fieldPlace, Tryz.sizeOf26]
theorem fa_52_0 : ∀ (a : Addr) (w : World), (Instr.fieldAt 52 (.pointer (some a)) 0).run Tryz.prog w = .ok (.pointer (some (a.add 0))) w := by
  intro a w
  simp [Instr.fieldAt, Tryz.runUnderlying52, Instr.sureAddr, fieldPlace, Tryz.sizeOf3]
theorem fa_52_2 : ∀ (a : Addr) (w : World), (Instr.fieldAt 52 (.pointer (some a)) 2).run Tryz.prog w = .ok (.pointer (some (a.add 2))) w := by
  intro a w
  simp [Instr.fieldAt, Tryz.runUnderlying52, Instr.sureAddr, fieldPlace, Tryz.sizeOf9]
theorem fa_52_1 : ∀ (a : Addr) (w : World), (Instr.fieldAt 52 (.pointer (some a)) 1).run Tryz.prog w = .ok (.pointer (some (a.add 1))) w := by
  intro a w
  simp [Instr.fieldAt, Tryz.runUnderlying52, Instr.sureAddr, fieldPlace, Tryz.sizeOf3]
theorem fa_138_3 : ∀ (a : Addr) (w : World), (Instr.fieldAt 138 (.pointer (some a)) 3).run Tryz.prog w = .ok (.pointer (some (a.add 3))) w := by
  intro a w
  simp [Instr.fieldAt, Tryz.runUnderlying138, Instr.sureAddr, fieldPlace, Tryz.sizeOf3]
theorem fa_109_0 : ∀ (a : Addr) (w : World), (Instr.fieldAt 109 (.pointer (some a)) 0).run Tryz.prog w = .ok (.pointer (some (a.add 0))) w := by
  intro a w
  simp [Instr.fieldAt, Tryz.runUnderlying109, Instr.sureAddr, fieldPlace, Tryz.sizeOf25]
theorem fa_90_3 : ∀ (a : Addr) (w : World), (Instr.fieldAt 90 (.pointer (some a)) 3).run Tryz.prog w = .ok (.pointer (some (a.add 3))) w := by
  intro a w
  simp [Instr.fieldAt, Tryz.runUnderlying90, Instr.sureAddr, fieldPlace, Tryz.sizeOf9]
theorem fa_90_0 : ∀ (a : Addr) (w : World), (Instr.fieldAt 90 (.pointer (some a)) 0).run Tryz.prog w = .ok (.pointer (some (a.add 0))) w := by
  intro a w
  simp [Instr.fieldAt, Tryz.runUnderlying90, Instr.sureAddr, fieldPlace, Tryz.sizeOf3]
theorem fa_90_1 : ∀ (a : Addr) (w : World), (Instr.fieldAt 90 (.pointer (some a)) 1).run Tryz.prog w = .ok (.pointer (some (a.add 1))) w := by
  intro a w
  simp [Instr.fieldAt, Tryz.runUnderlying90, Instr.sureAddr, fieldPlace, Tryz.sizeOf3]
theorem fa_90_2 : ∀ (a : Addr) (w : World), (Instr.fieldAt 90 (.pointer (some a)) 2).run Tryz.prog w = .ok (.pointer (some (a.add 2))) w := by
  intro a w
  simp [Instr.fieldAt, Tryz.runUnderlying90, Instr.sureAddr, fieldPlace, Tryz.sizeOf3]
theorem fa_138_6 : ∀ (a : Addr) (w : World), (Instr.fieldAt 138 (.pointer (some a)) 6).run Tryz.prog w = .ok (.pointer (some (a.add 6))) w := by
  intro a w
  simp [Instr.fieldAt, Tryz.runUnderlying138, Instr.sureAddr, fieldPlace, Tryz.sizeOf3]
end Go.Proofs.YtjdnjlnfcbaokaaGreat
