/-
  Go functions as programs over the world, and that the model's code does what they say. Printed by gen.py (own work).
-/
import Derived.Test.YtjdnjlnfcbaokaaGreatFn4
set_option linter.unusedVariables false
set_option linter.unusedSimpArgs false
namespace Go.Proofs.YtjdnjlnfcbaokaaGreat
open Go Go.Lg

def leg_output_push (K : Nat) (a0 : Option Addr) : G (Bool) :=
  drw <|
  nn a0 fun x1 =>
  wld fun w3 =>
  ldSl (x1.add 1) fun x2 =>
  nn a0 fun x4 =>
  ldP (x4.add 0) fun x5 =>
  nn a0 fun x6 =>
  ldSl (x6.add 1) fun x7 =>
  bnd (ring_Ring_Put K x5 x7) fun x8 =>
  agr (like (x1.add 1) 1 w3) <|
  slS x2 (some x8) none none 1 fun x9 =>
  nn a0 fun x10 =>
  st (x10.add 1) (.slice x9.a x9.n x9.c) <|
  nn a0 fun x11 =>
  ldSl (x11.add 1) fun x12 =>
  lt ((x12.n : Int) == (0 : Int)) fun x13 =>
  ret x13
set_option maxRecDepth 100000 in
theorem leg_output_push_ref (K : Nat) (a0 : Option Addr) : Does Tryz.prog 116 [.pointer a0] (leg_output_push K a0) (fun r => .bool r) := by
  refine Does.of Tryz.func116 rfl rfl rfl ?_
  unfold leg_output_push
  refine RefC.seq ?_
  refine RefC.region ?_
  refine RefL.pure rfl rfl (RanP.assign rfl) ?_
  refine RefL.nil ?_
  refine RefE.next ?_
  refine RefC.seq ?_
  refine RefC.draw mixed [0, 0, 2, 6, 14, 0, 32, 96, 224, 0, 512, 1536, 3584, 8160, 16382, 32767, 65535, 131071] [.lp 0, .lp 1, .lp 2, .lp 3, .li 4, .lp 5, .lp 6, .lp 7, .li 8, .lp 9, .lp 10, .lp 11, .li 12, .hv 13, .re 4, .lp 14, .lp 15, .lp 16, .hv 17] (by kernel_rfl) ?_
  refine RefD.pure (at_ rfl) rfl (RanP.move rfl) ?_
  refine RefD.pure (at_ rfl) rfl (RanP.move rfl) ?_
  refine RefD.any (at_ rfl) rfl (Lt.nn rfl fun x1 => ?_)
  refine RefD.pure (at_ rfl) rfl (RanP.fieldAddr fa_107_1 rfl) ?_
  refine RefD.li (at_ rfl) rfl fun w3 => (Lt.ldSl Tryz.isAgg49 rfl fun x2 => ?_)
  refine RefD.pure (at_ rfl) rfl (RanP.move rfl) ?_
  refine RefD.any (at_ rfl) rfl (Lt.nn rfl fun x4 => ?_)
  refine RefD.pure (at_ rfl) rfl (RanP.fieldAddr fa_107_0 rfl) ?_
  refine RefD.li0 (at_ rfl) rfl (Lt.ldP Tryz.isAgg105 rfl fun x5 => ?_)
  refine RefD.pure (at_ rfl) rfl (RanP.move rfl) ?_
  refine RefD.any (at_ rfl) rfl (Lt.nn rfl fun x6 => ?_)
  refine RefD.pure (at_ rfl) rfl (RanP.fieldAddr fa_107_1 rfl) ?_
  refine RefD.li0 (at_ rfl) rfl (Lt.ldSl Tryz.isAgg49 rfl fun x7 => ?_)
  refine RefD.hv (at_ rfl) rfl (Hv.call (ring_Ring_Put_ref K x5 x7) Tryz.call148 rfl rfl rfl fun x8 => ?_)
  refine RefD.re rfl ?_
  refine RefD.any (at_ rfl) rfl (Lt.slS (kl := .i64) (kh := .i64) (km := .i64) Tryz.underlying49 Tryz.sizeOf5 rfl rfl rfl rfl (by simp) fun x9 => ?_)
  refine RefD.any (at_ rfl) rfl (Lt.nn rfl fun x10 => ?_)
  refine RefD.pure (at_ rfl) rfl (RanP.fieldAddr fa_107_1 rfl) ?_
  refine RefD.hv (at_ rfl) rfl (Hv.st Tryz.sizeOf49 rfl rfl rfl ?_)
  refine RefD.nil ?_
  refine RefE.next ?_
  refine RefC.seq ?_
  refine RefC.region ?_
  refine RefL.pure rfl rfl (RanP.move rfl) ?_
  refine RefL.li rfl rfl (Lt.nn rfl fun x11 => ?_)
  refine RefL.pure rfl rfl (RanP.fieldAddr fa_107_1 rfl) ?_
  refine RefL.li rfl rfl (Lt.ldSl Tryz.isAgg49 rfl fun x12 => ?_)
  refine RefL.pure rfl rfl (RanP.lenSl rfl Tryz.underlying49 rfl) ?_
  refine RefL.pure rfl rfl (RanP.eql rfl rfl) ?_
  refine RefL.pure rfl rfl (RanP.assign rfl) ?_
  refine RefL.lt 2 (fun y => .bool y) rfl fun x13 => ?_
  refine RefL.nil ?_
  refine RefE.next ?_
  refine RefC.ret ?_
  refine RefE.retV rfl ?_
  refine RefV.tmp rfl ?_
  exact RefV.nil rfl

def mask_Key (K : Nat) (a0 : Int) : G (A4u8) :=
  new [.int .u8 (0 : Int), .int .u8 (0 : Int), .int .u8 (0 : Int), .int .u8 (0 : Int)] 59 fun x1 =>
  st x1 (.agg (Agg.cells (A4u8.mk (IntKind.wrap .u8 (shrI .u32 a0 (24 : Int))) (IntKind.wrap .u8 (shrI .u32 a0 (16 : Int))) (IntKind.wrap .u8 (shrI .u32 a0 (8 : Int))) (IntKind.wrap .u8 a0))).toArray) <|
  ldG (α := A4u8) x1 fun r2 =>
  ret r2
set_option maxRecDepth 100000 in
theorem mask_Key_ref (K : Nat) (a0 : Int) : Does Tryz.prog 149 [.int .u32 a0] (mask_Key K a0) (fun r => .agg (Agg.cells r).toArray) := by
  refine Does.of Tryz.func149 rfl rfl rfl ?_
  unfold mask_Key
  refine RefC.seq ?_
  refine RefC.region ?_
  refine RefL.hv rfl rfl (Hv.newZ Tryz.zeroValue59 rfl fun x1 => ?_)
  refine RefL.nil ?_
  refine RefE.next ?_
  refine RefC.seq ?_
  refine RefC.region ?_
  refine RefL.pure rfl rfl (RanP.move rfl) ?_
  refine RefL.pure rfl rfl (RanP.shr (by decide) rfl rfl) ?_
  refine RefL.pure rfl rfl (RanP.conv Tryz.underlying26 Tryz.underlying5 rfl) ?_
  refine RefL.pure rfl rfl (RanP.move rfl) ?_
  refine RefL.pure rfl rfl (RanP.shr (by decide) rfl rfl) ?_
  refine RefL.pure rfl rfl (RanP.conv Tryz.underlying26 Tryz.underlying5 rfl) ?_
  refine RefL.pure rfl rfl (RanP.move rfl) ?_
  refine RefL.pure rfl rfl (RanP.shr (by decide) rfl rfl) ?_
  refine RefL.pure rfl rfl (RanP.conv Tryz.underlying26 Tryz.underlying5 rfl) ?_
  refine RefL.pure rfl rfl (RanP.move rfl) ?_
  refine RefL.pure rfl rfl (RanP.conv Tryz.underlying26 Tryz.underlying5 rfl) ?_
  refine RefL.pure rfl rfl (RanP.build rfl (v := .agg (Agg.cells (A4u8.mk (IntKind.wrap .u8 (shrI .u32 a0 (24 : Int))) (IntKind.wrap .u8 (shrI .u32 a0 (16 : Int))) (IntKind.wrap .u8 (shrI .u32 a0 (8 : Int))) (IntKind.wrap .u8 a0))).toArray) (fun _ => by kernel_rfl)) ?_
  refine RefL.hv rfl rfl (Hv.st Tryz.sizeOf59 rfl rfl rfl ?_)
  refine RefL.nil ?_
  refine RefE.next ?_
  refine RefC.ret ?_
  refine RefE.retV rfl ?_
  refine RefV.cellG Tryz.isAgg59 Tryz.sizeOf59 rfl fun r2 => ?_
  exact RefV.nil rfl

def leg_Leg_next (K : Nat) (a0 : Option Addr) : G (Tapi_Frame × Bool) :=
  new [.bool false, .int .i64 (0 : Int), .bool false, .int .u8 (0 : Int), .int .u8 (0 : Int), .int .u8 (0 : Int), .int .u8 (0 : Int), .string (ByteArray.mk #[])] 61 fun x1 =>
  nn a0 fun x2 =>
  nn a0 fun x3 =>
  ldSl (x3.add 16) fun x4 =>
  bnd (
    if ((x4.n : Int) == (0 : Int)) = true then
      nn a0 fun x6 =>
      ret ((x6.add 17))
    else
      ret ((x2.add 16))) fun (s7 : Addr) =>
  ldSl s7 fun x8 =>
  if ((x8.n : Int) == (0 : Int)) = true then
    st x1 (.agg (Agg.cells (Tapi_Frame.mk false (0 : Int) false (0 : Int) (0 : Int) (0 : Int) (0 : Int) (ByteArray.mk #[]))).toArray) <|
    ldG (α := Tapi_Frame) x1 fun r9 =>
    ret (r9, false)
  else
    ldSl s7 fun x10 =>
    ixA x10 (0 : Int) 8 fun x11 =>
    ldG (α := Tapi_Frame) x11 fun x12 =>
    new [.bool false, .int .i64 (0 : Int), .bool false, .int .u8 (0 : Int), .int .u8 (0 : Int), .int .u8 (0 : Int), .int .u8 (0 : Int), .string (ByteArray.mk #[])] 61 fun x13 =>
    st x13 (.agg (Agg.cells x12).toArray) <|
    ldSl s7 fun x14 =>
    slS x14 (some (1 : Int)) none none 8 fun x15 =>
    st s7 (.slice x15.a x15.n x15.c) <|
    nn a0 fun x16 =>
    ldB (x16.add 18) fun x17 =>
    bnd (
      if x17 = true then
        nn a0 fun x24 =>
        ldI .u32 (x24.add 19) fun x25 =>
        nn a0 fun x26 =>
        st (x26.add 19) (.int .u32 (IntKind.wrap .u32 ((IntKind.wrap .u32 (x25 * (1664525 : Int))) + (1013904223 : Int)))) <|
        nn a0 fun x27 =>
        ldI .u32 (x27.add 19) fun x28 =>
        bnd (mask_Key K x28) fun x29 =>
        st (x13.add 2) (.bool true) <|
        st (x13.add 3) (.agg (Agg.cells x29).toArray) <|
        ret ()
      else
        ret ()) fun (s30 : Unit) =>
    ldG (α := Tapi_Frame) x13 fun x31 =>
    st x1 (.agg (Agg.cells x31).toArray) <|
    ldG (α := Tapi_Frame) x1 fun r32 =>
    ret (r32, true)
set_option maxRecDepth 100000 in
theorem leg_Leg_next_ref (K : Nat) (a0 : Option Addr) : Does Tryz.prog 117 [.pointer a0] (leg_Leg_next K a0) (fun r => .tuple #[.agg (Agg.cells r.1).toArray, .bool r.2]) := by
  refine Does.of Tryz.func117 rfl rfl rfl ?_
  unfold leg_Leg_next
  refine RefC.seq ?_
  refine RefC.region ?_
  refine RefL.hv rfl rfl (Hv.newZ Tryz.zeroValue61 rfl fun x1 => ?_)
  refine RefL.pure rfl rfl (RanP.assign rfl) ?_
  refine RefL.nil ?_
  refine RefE.next ?_
  refine RefC.seq ?_
  refine RefC.region ?_
  refine RefL.pure rfl rfl (RanP.move rfl) ?_
  refine RefL.li rfl rfl (Lt.nn rfl fun x2 => ?_)
  refine RefL.pure rfl rfl (RanP.fieldAddr fa_109_4 rfl) ?_
  refine RefL.pure rfl rfl (RanP.assign rfl) ?_
  refine RefL.nil ?_
  refine RefE.next ?_
  refine RefC.seq ?_
  refine RefC.seq ?_
  refine RefC.region ?_
  refine RefL.pure rfl rfl (RanP.move rfl) ?_
  refine RefL.li rfl rfl (Lt.nn rfl fun x3 => ?_)
  refine RefL.pure rfl rfl (RanP.fieldAddr fa_109_4 rfl) ?_
  refine RefL.li rfl rfl (Lt.ldSl Tryz.isAgg34 rfl fun x4 => ?_)
  refine RefL.pure rfl rfl (RanP.lenSl rfl Tryz.underlying34 rfl) ?_
  refine RefL.pure rfl rfl (RanP.eql rfl rfl) ?_
  refine RefL.nil ?_
  refine RefE.next ?_
  refine RefC.cut (enc := fun (s7 : Addr) => ([(4, .pointer (some s7)), (0, .pointer a0), (2, .pointer (some x1))] : Env)) ?_ ?_
  · refine RefC.cond rfl ?_ ?_
    · refine RefC.region ?_
      refine RefL.pure rfl rfl (RanP.move rfl) ?_
      refine RefL.li rfl rfl (Lt.nn rfl fun x6 => ?_)
      refine RefL.pure rfl rfl (RanP.fieldAddr fa_109_5 rfl) ?_
      refine RefL.pure rfl rfl (RanP.assign rfl) ?_
      refine RefL.nil ?_
      exact RefE.fin (s := ((x6.add 17))) ⟨rfl, rfl, rfl, trivial⟩
    · refine RefC.skip ?_
      exact RefE.fin (s := ((x2.add 16))) ⟨rfl, rfl, rfl, trivial⟩
  · intro s7
    refine RefE.next ?_
    refine RefC.seq ?_
    refine RefC.seq ?_
    refine RefC.region ?_
    refine RefL.pure rfl rfl (RanP.move rfl) ?_
    refine RefL.pure rfl rfl (RanP.nilCheck rfl) ?_
    refine RefL.li rfl rfl (Lt.ldSl Tryz.isAgg34 rfl fun x8 => ?_)
    refine RefL.pure rfl rfl (RanP.lenSl rfl Tryz.underlying34 rfl) ?_
    refine RefL.pure rfl rfl (RanP.eql rfl rfl) ?_
    refine RefL.nil ?_
    refine RefE.next ?_
    refine RefC.cond rfl ?_ ?_
    · refine RefC.seq ?_
      refine RefC.region ?_
      refine RefL.pure rfl rfl (RanP.build rfl (v := .agg (Agg.cells (Tapi_Frame.mk false (0 : Int) false (0 : Int) (0 : Int) (0 : Int) (0 : Int) (ByteArray.mk #[]))).toArray) (fun _ => by kernel_rfl)) ?_
      refine RefL.hv rfl rfl (Hv.st Tryz.sizeOf61 rfl rfl rfl ?_)
      refine RefL.pure rfl rfl (RanP.assign rfl) ?_
      refine RefL.nil ?_
      refine RefE.next ?_
      refine RefC.ret ?_
      refine RefE.thenRet ?_
      refine RefE.retV rfl ?_
      refine RefV.cellG Tryz.isAgg61 Tryz.sizeOf61 rfl fun r9 => ?_
      refine RefV.tmp rfl ?_
      exact RefV.nil rfl
    · refine RefC.skip ?_
      refine RefE.next ?_
      refine RefC.seq ?_
      refine RefC.region ?_
      refine RefL.pure rfl rfl (RanP.move rfl) ?_
      refine RefL.pure rfl rfl (RanP.nilCheck rfl) ?_
      refine RefL.li rfl rfl (Lt.ldSl Tryz.isAgg34 rfl fun x10 => ?_)
      refine RefL.li rfl rfl (Lt.ixA Tryz.underlying34 Tryz.sizeOf61 rfl rfl fun x11 => ?_)
      refine RefL.li rfl rfl (Lt.ldG (τ := Tapi_Frame) Tryz.isAgg61 Tryz.sizeOf61 rfl fun x12 => ?_)
      refine RefL.hv rfl rfl (Hv.newZ Tryz.zeroValue61 rfl fun x13 => ?_)
      refine RefL.hv rfl rfl (Hv.st Tryz.sizeOf61 rfl rfl rfl ?_)
      refine RefL.nil ?_
      refine RefE.next ?_
      refine RefC.seq ?_
      refine RefC.region ?_
      refine RefL.pure rfl rfl (RanP.move rfl) ?_
      refine RefL.pure rfl rfl (RanP.move rfl) ?_
      refine RefL.pure rfl rfl (RanP.nilCheck rfl) ?_
      refine RefL.li rfl rfl (Lt.ldSl Tryz.isAgg34 rfl fun x14 => ?_)
      refine RefL.li rfl rfl (Lt.slS (kl := .i64) (kh := .i64) (km := .i64) Tryz.underlying34 Tryz.sizeOf61 rfl rfl rfl rfl (by simp) fun x15 => ?_)
      refine RefL.pure rfl rfl (RanP.nilCheck rfl) ?_
      refine RefL.hv rfl rfl (Hv.st Tryz.sizeOf34 rfl rfl rfl ?_)
      refine RefL.nil ?_
      refine RefE.next ?_
      refine RefC.seq ?_
      refine RefC.seq ?_
      refine RefC.region ?_
      refine RefL.pure rfl rfl (RanP.move rfl) ?_
      refine RefL.li rfl rfl (Lt.nn rfl fun x16 => ?_)
      refine RefL.pure rfl rfl (RanP.fieldAddr fa_109_6 rfl) ?_
      refine RefL.li rfl rfl (Lt.ldB Tryz.isAgg4 rfl fun x17 => ?_)
      refine RefL.nil ?_
      refine RefE.next ?_
      refine RefC.cut (enc := fun (s30 : Unit) => ([(2, .pointer (some x1)), (5, .pointer (some x13))] : Env)) ?_ ?_
      · refine RefC.cond rfl ?_ ?_
        · refine RefC.seq ?_
          refine RefC.region ?_
          refine RefL.pure rfl rfl (RanP.move rfl) ?_
          refine RefL.pure rfl rfl (RanP.move rfl) ?_
          refine RefL.li rfl rfl (Lt.nn rfl fun x24 => ?_)
          refine RefL.pure rfl rfl (RanP.fieldAddr fa_109_7 rfl) ?_
          refine RefL.li rfl rfl (Lt.ldI Tryz.isAgg26 rfl fun x25 => ?_)
          refine RefL.pure rfl rfl (RanP.mul rfl rfl) ?_
          refine RefL.pure rfl rfl (RanP.add rfl rfl) ?_
          refine RefL.li rfl rfl (Lt.nn rfl fun x26 => ?_)
          refine RefL.pure rfl rfl (RanP.fieldAddr fa_109_7 rfl) ?_
          refine RefL.hv rfl rfl (Hv.st Tryz.sizeOf26 rfl rfl rfl ?_)
          refine RefL.nil ?_
          refine RefE.next ?_
          refine RefC.region ?_
          refine RefL.pure rfl rfl (RanP.move rfl) ?_
          refine RefL.li rfl rfl (Lt.nn rfl fun x27 => ?_)
          refine RefL.pure rfl rfl (RanP.fieldAddr fa_109_7 rfl) ?_
          refine RefL.li rfl rfl (Lt.ldI Tryz.isAgg26 rfl fun x28 => ?_)
          refine RefL.hv rfl rfl (Hv.call (mask_Key_ref K x28) Tryz.call149 rfl rfl rfl fun x29 => ?_)
          refine RefL.pure rfl rfl (RanP.fieldAddr fa_61_2 rfl) ?_
          refine RefL.hv rfl rfl (Hv.st Tryz.sizeOf4 rfl rfl rfl ?_)
          refine RefL.pure rfl rfl (RanP.fieldAddr fa_61_3 rfl) ?_
          refine RefL.hv rfl rfl (Hv.st Tryz.sizeOf59 rfl rfl rfl ?_)
          refine RefL.nil ?_
          exact RefE.fin (s := ()) ⟨rfl, rfl, trivial⟩
        · refine RefC.skip ?_
          exact RefE.fin (s := ()) ⟨rfl, rfl, trivial⟩
      · intro s30
        refine RefE.next ?_
        refine RefC.seq ?_
        refine RefC.region ?_
        refine RefL.li rfl rfl (Lt.ldG (τ := Tapi_Frame) Tryz.isAgg61 Tryz.sizeOf61 rfl fun x31 => ?_)
        refine RefL.hv rfl rfl (Hv.st Tryz.sizeOf61 rfl rfl rfl ?_)
        refine RefL.pure rfl rfl (RanP.assign rfl) ?_
        refine RefL.nil ?_
        refine RefE.next ?_
        refine RefC.ret ?_
        refine RefE.retV rfl ?_
        refine RefV.cellG Tryz.isAgg61 Tryz.sizeOf61 rfl fun r32 => ?_
        refine RefV.tmp rfl ?_
        exact RefV.nil rfl

def mask_number_l0 (K : Nat) (a1 : Int) (x1 : Sl) (a0 : Int) (again : Int → G (Unit)) (s11 : Int) : G (Unit) :=
  if (decide (s11 < a1)) = true then
    chk ((0 : Int) ≤ (IntKind.wrap .u64 (IntKind.wrap .i64 ((8 : Int) * s11)))) <|
    ixA x1 (IntKind.wrap .i64 ((IntKind.wrap .i64 (a1 - (1 : Int))) - s11)) 1 fun x13 =>
    st x13 (.int .u8 (IntKind.wrap .u8 (shrI .u64 a0 (IntKind.wrap .u64 (IntKind.wrap .i64 ((8 : Int) * s11)))))) <|
    again ((IntKind.wrap .i64 (s11 + (1 : Int))))
  else
    ret ()
def mask_number (K : Nat) (a0 : Int) (a1 : Int) : G (Sl) :=
  mk 5 1 1 [.int .u8 (0 : Int)] a1 a1 fun x1 =>
  bnd (
    loopG (mask_number_l0 K a1 x1 a0) K ((0 : Int))) fun (s14 : Unit) =>
  ret x1
set_option maxRecDepth 100000 in
theorem mask_number_ref (K : Nat) (a0 : Int) (a1 : Int) : Does Tryz.prog 173 [.int .u64 a0, .int .i64 a1] (mask_number K a0 a1) (fun r => .slice r.a r.n r.c) := by
  refine Does.of Tryz.func173 rfl rfl rfl ?_
  unfold mask_number
  refine RefC.seq ?_
  refine RefC.region ?_
  refine RefL.pure rfl rfl (RanP.assign rfl) ?_
  refine RefL.nil ?_
  refine RefE.next ?_
  refine RefC.seq ?_
  refine RefC.region ?_
  refine RefL.pure rfl rfl (RanP.move rfl) ?_
  refine RefL.hv rfl rfl (Hv.mk (i := Tryz.t5) Tryz.underlying49 rfl rfl rfl rfl rfl rfl fun x1 => ?_)
  refine RefL.pure rfl rfl (RanP.assign rfl) ?_
  refine RefL.nil ?_
  refine RefE.next ?_
  refine RefC.seq ?_
  refine RefC.seq ?_
  refine RefC.region ?_
  refine RefL.pure rfl rfl (RanP.move rfl) ?_
  refine RefL.pure rfl rfl (RanP.move rfl) ?_
  refine RefL.nil ?_
  refine RefE.next ?_
  refine RefC.cut (enc := fun (s14 : Unit) => ([(5, .slice x1.a x1.n x1.c)] : Env)) ?_ ?_
  · refine RefC.block ?_
    refine RefC.loopW (enc := fun (s11 : Int) => ([(10, .int .i64 s11), (0, .int .u64 a0), (1, .int .i64 a1), (5, .slice x1.a x1.n x1.c), (9, .int .i64 a1)] : Env)) ⟨rfl, rfl, rfl, rfl, rfl, trivial⟩ ?_ _
    intro again k ih s11
    unfold mask_number_l0
    refine RefC.seq ?_
    refine RefC.region ?_
    refine RefL.pure rfl rfl (RanP.lss rfl rfl) ?_
    refine RefL.nil ?_
    refine RefE.next ?_
    refine RefC.seq ?_
    refine RefC.cond rfl ?_ ?_
    · refine RefC.skip ?_
      refine RefE.next ?_
      refine RefC.seq ?_
      refine RefC.block ?_
      refine RefC.seq ?_
      refine RefC.region ?_
      refine RefL.pure rfl rfl (RanP.move rfl) ?_
      refine RefL.pure rfl rfl (RanP.assign rfl) ?_
      refine RefL.nil ?_
      refine RefE.next ?_
      refine RefC.region ?_
      refine RefL.pure rfl rfl (RanP.move rfl) ?_
      refine RefL.pure rfl rfl (RanP.move rfl) ?_
      refine RefL.pure rfl rfl (RanP.sub rfl rfl) ?_
      refine RefL.pure rfl rfl (RanP.move rfl) ?_
      refine RefL.pure rfl rfl (RanP.sub rfl rfl) ?_
      refine RefL.pure rfl rfl (RanP.move rfl) ?_
      refine RefL.pure rfl rfl (RanP.move rfl) ?_
      refine RefL.pure rfl rfl (RanP.mul rfl rfl) ?_
      refine RefL.pure rfl rfl (RanP.conv Tryz.underlying3 Tryz.underlying72 rfl) ?_
      refine RefL.chk fun h12 => ?_
      refine RefL.pure rfl rfl (RanP.shr h12 rfl rfl) ?_
      refine RefL.pure rfl rfl (RanP.conv Tryz.underlying146 Tryz.underlying5 rfl) ?_
      refine RefL.li rfl rfl (Lt.ixA Tryz.underlying49 Tryz.sizeOf5 rfl rfl fun x13 => ?_)
      refine RefL.hv rfl rfl (Hv.st Tryz.sizeOf5 rfl rfl rfl ?_)
      refine RefL.nil ?_
      refine RefE.blockNormal ?_
      refine RefE.next ?_
      refine RefC.region ?_
      refine RefL.pure rfl rfl (RanP.add rfl rfl) ?_
      refine RefL.pure rfl rfl (RanP.move rfl) ?_
      refine RefL.nil ?_
      exact RefE.again (ih ((IntKind.wrap .i64 (s11 + (1 : Int))))) ⟨rfl, rfl, rfl, rfl, rfl, trivial⟩
    · refine RefC.exit ?_
      refine RefE.thenExit ?_
      refine RefE.roundExit ?_
      refine RefE.blockExit ?_
      exact RefE.fin (s := ()) ⟨rfl, trivial⟩
  · intro s14
    refine RefE.next ?_
    refine RefC.seq ?_
    refine RefC.region ?_
    refine RefL.pure rfl rfl (RanP.move rfl) ?_
    refine RefL.pure rfl rfl (RanP.assign rfl) ?_
    refine RefL.nil ?_
    refine RefE.next ?_
    refine RefC.ret ?_
    refine RefE.retV rfl ?_
    refine RefV.tmp rfl ?_
    exact RefV.nil rfl

def mask_Put (K : Nat) (a0 : Int) : G (Sl × Int) :=
  lt (decide ((9223372036854775807 : Int) < a0)) fun x1 =>
  if x1 = true then
    ret (Sl.nil, (81 : Int))
  else
    lt (decide (a0 < (126 : Int))) fun x2 =>
    if x2 = true then
      new [.int .u8 (IntKind.wrap .u8 a0)] 5 fun x3 =>
      ret ((Sl.mk (some x3) 1 1), (0 : Int))
    else
      lt (decide (a0 < (65536 : Int))) fun x4 =>
      if x4 = true then
        new [.int .u8 (126 : Int)] 5 fun x5 =>
        bnd (mask_number K a0 (2 : Int)) fun x6 =>
        appS 5 1 1 [.int .u8 (0 : Int)] (Sl.mk (some x5) 1 1) x6 fun x7 =>
        ret (x7, (0 : Int))
      else
        new [.int .u8 (127 : Int)] 5 fun x8 =>
        bnd (mask_number K a0 (8 : Int)) fun x9 =>
        appS 5 1 1 [.int .u8 (0 : Int)] (Sl.mk (some x8) 1 1) x9 fun x10 =>
        ret (x10, (0 : Int))
set_option maxRecDepth 100000 in
theorem mask_Put_ref (K : Nat) (a0 : Int) : Does Tryz.prog 150 [.int .u64 a0] (mask_Put K a0) (fun r => .tuple #[.slice r.1.a r.1.n r.1.c, .int .i64 r.2]) := by
  refine Does.of Tryz.func150 rfl rfl rfl ?_
  unfold mask_Put
  refine RefC.seq ?_
  refine RefC.region ?_
  refine RefL.pure rfl rfl (RanP.assign rfl) ?_
  refine RefL.pure rfl rfl (RanP.assign rfl) ?_
  refine RefL.nil ?_
  refine RefE.next ?_
  refine RefC.seq ?_
  refine RefC.block ?_
  refine RefC.seq ?_
  refine RefC.region ?_
  refine RefL.pure rfl rfl (RanP.move rfl) ?_
  refine RefL.pure rfl rfl (RanP.gtr rfl rfl) ?_
  refine RefL.pure rfl rfl (RanP.assign rfl) ?_
  refine RefL.lt 4 (fun y => .bool y) rfl fun x1 => ?_
  refine RefL.nil ?_
  refine RefE.next ?_
  refine RefC.cond rfl ?_ ?_
  · refine RefC.seq ?_
    refine RefC.region ?_
    refine RefL.pure rfl rfl (RanP.assign rfl) ?_
    refine RefL.pure rfl rfl (RanP.assign rfl) ?_
    refine RefL.nil ?_
    refine RefE.next ?_
    refine RefC.ret ?_
    refine RefE.blockRet ?_
    refine RefE.thenRet ?_
    refine RefE.retV rfl ?_
    refine RefV.tmp rfl ?_
    refine RefV.tmp rfl ?_
    exact RefV.nil rfl
  · refine RefC.seq ?_
    refine RefC.region ?_
    refine RefL.pure rfl rfl (RanP.move rfl) ?_
    refine RefL.pure rfl rfl (RanP.lss rfl rfl) ?_
    refine RefL.pure rfl rfl (RanP.assign rfl) ?_
    refine RefL.lt 7 (fun y => .bool y) rfl fun x2 => ?_
    refine RefL.nil ?_
    refine RefE.next ?_
    refine RefC.cond rfl ?_ ?_
    · refine RefC.seq ?_
      refine RefC.region ?_
      refine RefL.pure rfl rfl (RanP.move rfl) ?_
      refine RefL.pure rfl rfl (RanP.conv Tryz.underlying146 Tryz.underlying5 rfl) ?_
      refine RefL.hv rfl rfl (Hv.buildSlice rfl (cs := [.int .u8 (IntKind.wrap .u8 a0)]) (e := 5) (fun _ => by kernel_rfl) fun x3 => ?_)
      refine RefL.pure rfl rfl (RanP.assign rfl) ?_
      refine RefL.pure rfl rfl (RanP.assign rfl) ?_
      refine RefL.nil ?_
      refine RefE.next ?_
      refine RefC.ret ?_
      refine RefE.blockRet ?_
      refine RefE.thenRet ?_
      refine RefE.retV rfl ?_
      refine RefV.tmp rfl ?_
      refine RefV.tmp rfl ?_
      exact RefV.nil rfl
    · refine RefC.seq ?_
      refine RefC.region ?_
      refine RefL.pure rfl rfl (RanP.move rfl) ?_
      refine RefL.pure rfl rfl (RanP.lss rfl rfl) ?_
      refine RefL.pure rfl rfl (RanP.assign rfl) ?_
      refine RefL.lt 13 (fun y => .bool y) rfl fun x4 => ?_
      refine RefL.nil ?_
      refine RefE.next ?_
      refine RefC.cond rfl ?_ ?_
      · refine RefC.seq ?_
        refine RefC.region ?_
        refine RefL.hv rfl rfl (Hv.buildSlice rfl (cs := [.int .u8 (126 : Int)]) (e := 5) (fun _ => by kernel_rfl) fun x5 => ?_)
        refine RefL.pure rfl rfl (RanP.move rfl) ?_
        refine RefL.hv rfl rfl (Hv.call (mask_number_ref K a0 (2 : Int)) Tryz.call173 rfl rfl rfl fun x6 => ?_)
        refine RefL.hv rfl rfl (Hv.appS (i := Tryz.t5) rfl Tryz.underlying49 Tryz.underlying49 rfl rfl rfl rfl fun x7 => ?_)
        refine RefL.pure rfl rfl (RanP.assign rfl) ?_
        refine RefL.pure rfl rfl (RanP.assign rfl) ?_
        refine RefL.nil ?_
        refine RefE.next ?_
        refine RefC.ret ?_
        refine RefE.blockRet ?_
        refine RefE.thenRet ?_
        refine RefE.retV rfl ?_
        refine RefV.tmp rfl ?_
        refine RefV.tmp rfl ?_
        exact RefV.nil rfl
      · refine RefC.skip ?_
        refine RefE.blockNormal ?_
        refine RefE.next ?_
        refine RefC.seq ?_
        refine RefC.region ?_
        refine RefL.hv rfl rfl (Hv.buildSlice rfl (cs := [.int .u8 (127 : Int)]) (e := 5) (fun _ => by kernel_rfl) fun x8 => ?_)
        refine RefL.pure rfl rfl (RanP.move rfl) ?_
        refine RefL.hv rfl rfl (Hv.call (mask_number_ref K a0 (8 : Int)) Tryz.call173 rfl rfl rfl fun x9 => ?_)
        refine RefL.hv rfl rfl (Hv.appS (i := Tryz.t5) rfl Tryz.underlying49 Tryz.underlying49 rfl rfl rfl rfl fun x10 => ?_)
        refine RefL.pure rfl rfl (RanP.assign rfl) ?_
        refine RefL.pure rfl rfl (RanP.assign rfl) ?_
        refine RefL.nil ?_
        refine RefE.next ?_
        refine RefC.ret ?_
        refine RefE.retV rfl ?_
        refine RefV.tmp rfl ?_
        refine RefV.tmp rfl ?_
        exact RefV.nil rfl

def slices_Grow_byte (K : Nat) (a0 : Sl) (a1 : Int) : G (Sl) :=
  if (decide (a1 < (0 : Int))) = true then
    fail
  else
    lt (IntKind.wrap .i64 (a1 - (IntKind.wrap .i64 ((a0.c : Int) - (a0.n : Int))))) fun x1 =>
    bnd (
      if (decide ((0 : Int) < x1)) = true then
        slS a0 none (some (a0.c : Int)) none 1 fun x5 =>
        appZ 5 1 1 [.int .u8 (0 : Int)] x5 x1 fun x6 =>
        slS x6 none (some (a0.n : Int)) none 1 fun x7 =>
        ret (x7)
      else
        ret (a0)) fun (s8 : Sl) =>
    ret s8
set_option maxRecDepth 100000 in
theorem slices_Grow_byte_ref (K : Nat) (a0 : Sl) (a1 : Int) : Does Tryz.prog 174 [.slice a0.a a0.n a0.c, .int .i64 a1] (slices_Grow_byte K a0 a1) (fun r => .slice r.a r.n r.c) := by
  refine Does.of Tryz.func174 rfl rfl rfl ?_
  unfold slices_Grow_byte
  refine RefC.seq ?_
  refine RefC.region ?_
  refine RefL.pure rfl rfl (RanP.assign rfl) ?_
  refine RefL.nil ?_
  refine RefE.next ?_
  refine RefC.seq ?_
  refine RefC.seq ?_
  refine RefC.region ?_
  refine RefL.pure rfl rfl (RanP.move rfl) ?_
  refine RefL.pure rfl rfl (RanP.lss rfl rfl) ?_
  refine RefL.nil ?_
  refine RefE.next ?_
  refine RefC.cond rfl ?_ ?_
  · exact RefC.fails
  · refine RefC.skip ?_
    refine RefE.next ?_
    refine RefC.seq ?_
    refine RefC.seq ?_
    refine RefC.region ?_
    refine RefL.pure rfl rfl (RanP.move rfl) ?_
    refine RefL.pure rfl rfl (RanP.move rfl) ?_
    refine RefL.pure rfl rfl (RanP.capSl rfl Tryz.underlying49 rfl) ?_
    refine RefL.pure rfl rfl (RanP.move rfl) ?_
    refine RefL.pure rfl rfl (RanP.lenSl rfl Tryz.underlying49 rfl) ?_
    refine RefL.pure rfl rfl (RanP.sub rfl rfl) ?_
    refine RefL.pure rfl rfl (RanP.sub rfl rfl) ?_
    refine RefL.pure rfl rfl (RanP.assign rfl) ?_
    refine RefL.lt 1 (fun y => .int .i64 y) rfl fun x1 => ?_
    refine RefL.nil ?_
    refine RefE.next ?_
    refine RefC.seq ?_
    refine RefC.region ?_
    refine RefL.pure rfl rfl (RanP.move rfl) ?_
    refine RefL.pure rfl rfl (RanP.gtr rfl rfl) ?_
    refine RefL.nil ?_
    refine RefE.next ?_
    refine RefC.cut (enc := fun (s8 : Sl) => ([(0, .slice s8.a s8.n s8.c)] : Env)) ?_ ?_
    · refine RefC.cond rfl ?_ ?_
      · refine RefC.region ?_
        refine RefL.pure rfl rfl (RanP.move rfl) ?_
        refine RefL.pure rfl rfl (RanP.move rfl) ?_
        refine RefL.pure rfl rfl (RanP.capSl rfl Tryz.underlying49 rfl) ?_
        refine RefL.li rfl rfl (Lt.slS (kl := .i64) (kh := .i64) (km := .i64) Tryz.underlying49 Tryz.sizeOf5 rfl rfl rfl rfl (by simp) fun x5 => ?_)
        refine RefL.pure rfl rfl (RanP.move rfl) ?_
        refine RefL.hv rfl rfl (Hv.appZ (i := Tryz.t5) rfl Tryz.underlying49 Tryz.underlying3 rfl rfl rfl rfl rfl rfl fun x6 => ?_)
        refine RefL.pure rfl rfl (RanP.move rfl) ?_
        refine RefL.pure rfl rfl (RanP.lenSl rfl Tryz.underlying49 rfl) ?_
        refine RefL.li rfl rfl (Lt.slS (kl := .i64) (kh := .i64) (km := .i64) Tryz.underlying49 Tryz.sizeOf5 rfl rfl rfl rfl (by simp) fun x7 => ?_)
        refine RefL.pure rfl rfl (RanP.assign rfl) ?_
        refine RefL.nil ?_
        exact RefE.fin (s := (x7)) ⟨rfl, trivial⟩
      · refine RefC.skip ?_
        exact RefE.fin (s := (a0)) ⟨rfl, trivial⟩
    · intro s8
      refine RefE.next ?_
      refine RefC.seq ?_
      refine RefC.region ?_
      refine RefL.pure rfl rfl (RanP.move rfl) ?_
      refine RefL.pure rfl rfl (RanP.assign rfl) ?_
      refine RefL.nil ?_
      refine RefE.next ?_
      refine RefC.ret ?_
      refine RefE.retV rfl ?_
      refine RefV.tmp rfl ?_
      exact RefV.nil rfl

def slices_Concat_byte_l0 (K : Nat) (a0 : Sl) (again : (Int × Int) → G (Int)) (s13 : Int × Int) : G (Int) :=
  if (decide (s13.2 < (a0.n : Int))) = true then
    ixA a0 s13.2 1 fun x14 =>
    ldSl x14 fun x15 =>
    lt (IntKind.wrap .i64 (s13.1 + (x15.n : Int))) fun x16 =>
    if (decide (x16 < (0 : Int))) = true then
      fail
    else
      again (x16, (IntKind.wrap .i64 (s13.2 + (1 : Int))))
  else
    ret (s13.1)
def slices_Concat_byte_l1 (K : Nat) (a0 : Sl) (again : (Sl × Int) → G (Sl)) (s31 : Sl × Int) : G (Sl) :=
  if (decide (s31.2 < (a0.n : Int))) = true then
    ixA a0 s31.2 1 fun x32 =>
    ldSl x32 fun x33 =>
    appS 5 1 1 [.int .u8 (0 : Int)] s31.1 x33 fun x34 =>
    again (x34, (IntKind.wrap .i64 (s31.2 + (1 : Int))))
  else
    ret (s31.1)
def slices_Concat_byte (K : Nat) (a0 : Sl) : G (Sl) :=
  bnd (
    loopG (slices_Concat_byte_l0 K a0) K ((0 : Int), (0 : Int))) fun (s17 : Int) =>
  bnd (slices_Grow_byte K Sl.nil s17) fun x18 =>
  bnd (
    loopG (slices_Concat_byte_l1 K a0) K (x18, (0 : Int))) fun (s35 : Sl) =>
  ret s35
set_option maxRecDepth 100000 in
theorem slices_Concat_byte_ref (K : Nat) (a0 : Sl) : Does Tryz.prog 152 [.slice a0.a a0.n a0.c] (slices_Concat_byte K a0) (fun r => .slice r.a r.n r.c) := by
  refine Does.of Tryz.func152 rfl rfl rfl ?_
  unfold slices_Concat_byte
  refine RefC.seq ?_
  refine RefC.region ?_
  refine RefL.pure rfl rfl (RanP.assign rfl) ?_
  refine RefL.nil ?_
  refine RefE.next ?_
  refine RefC.seq ?_
  refine RefC.region ?_
  refine RefL.pure rfl rfl (RanP.assign rfl) ?_
  refine RefL.nil ?_
  refine RefE.next ?_
  refine RefC.seq ?_
  refine RefC.seq ?_
  refine RefC.region ?_
  refine RefL.pure rfl rfl (RanP.move rfl) ?_
  refine RefL.pure rfl rfl (RanP.lenSl rfl Tryz.underlying227 rfl) ?_
  refine RefL.pure rfl rfl (RanP.move rfl) ?_
  refine RefL.nil ?_
  refine RefE.next ?_
  refine RefC.cut (enc := fun (s17 : Int) => ([(3, .int .i64 s17), (0, .slice a0.a a0.n a0.c)] : Env)) ?_ ?_
  · refine RefC.block ?_
    refine RefC.loopW (enc := fun (s13 : Int × Int) => ([(3, .int .i64 s13.1), (11, .int .i64 s13.2), (0, .slice a0.a a0.n a0.c), (9, .slice a0.a a0.n a0.c), (10, .int .i64 (a0.n : Int))] : Env)) ⟨rfl, rfl, rfl, rfl, rfl, trivial⟩ ?_ _
    intro again k ih s13
    unfold slices_Concat_byte_l0
    refine RefC.seq ?_
    refine RefC.region ?_
    refine RefL.pure rfl rfl (RanP.lss rfl rfl) ?_
    refine RefL.nil ?_
    refine RefE.next ?_
    refine RefC.seq ?_
    refine RefC.cond rfl ?_ ?_
    · refine RefC.skip ?_
      refine RefE.next ?_
      refine RefC.seq ?_
      refine RefC.block ?_
      refine RefC.seq ?_
      refine RefC.region ?_
      refine RefL.li rfl rfl (Lt.ixA Tryz.underlying227 Tryz.sizeOf49 rfl rfl fun x14 => ?_)
      refine RefL.li rfl rfl (Lt.ldSl Tryz.isAgg49 rfl fun x15 => ?_)
      refine RefL.pure rfl rfl (RanP.assign rfl) ?_
      refine RefL.nil ?_
      refine RefE.next ?_
      refine RefC.seq ?_
      refine RefC.region ?_
      refine RefL.pure rfl rfl (RanP.move rfl) ?_
      refine RefL.pure rfl rfl (RanP.move rfl) ?_
      refine RefL.pure rfl rfl (RanP.lenSl rfl Tryz.underlying49 rfl) ?_
      refine RefL.pure rfl rfl (RanP.add rfl rfl) ?_
      refine RefL.pure rfl rfl (RanP.assign rfl) ?_
      refine RefL.lt 3 (fun y => .int .i64 y) rfl fun x16 => ?_
      refine RefL.nil ?_
      refine RefE.next ?_
      refine RefC.seq ?_
      refine RefC.region ?_
      refine RefL.pure rfl rfl (RanP.move rfl) ?_
      refine RefL.pure rfl rfl (RanP.lss rfl rfl) ?_
      refine RefL.nil ?_
      refine RefE.next ?_
      refine RefC.cond rfl ?_ ?_
      · exact RefC.fails
      · refine RefC.skip ?_
        refine RefE.blockNormal ?_
        refine RefE.next ?_
        refine RefC.region ?_
        refine RefL.pure rfl rfl (RanP.add rfl rfl) ?_
        refine RefL.pure rfl rfl (RanP.move rfl) ?_
        refine RefL.nil ?_
        exact RefE.again (ih (x16, (IntKind.wrap .i64 (s13.2 + (1 : Int))))) ⟨rfl, rfl, rfl, rfl, rfl, trivial⟩
    · refine RefC.exit ?_
      refine RefE.thenExit ?_
      refine RefE.roundExit ?_
      refine RefE.blockExit ?_
      exact RefE.fin (s := (s13.1)) ⟨rfl, rfl, trivial⟩
  · intro s17
    refine RefE.next ?_
    refine RefC.seq ?_
    refine RefC.region ?_
    refine RefL.pure rfl rfl (RanP.move rfl) ?_
    refine RefL.hv rfl rfl (Hv.call (slices_Grow_byte_ref K Sl.nil s17) Tryz.call174 rfl rfl rfl fun x18 => ?_)
    refine RefL.pure rfl rfl (RanP.assign rfl) ?_
    refine RefL.nil ?_
    refine RefE.next ?_
    refine RefC.seq ?_
    refine RefC.seq ?_
    refine RefC.region ?_
    refine RefL.pure rfl rfl (RanP.move rfl) ?_
    refine RefL.pure rfl rfl (RanP.lenSl rfl Tryz.underlying227 rfl) ?_
    refine RefL.pure rfl rfl (RanP.move rfl) ?_
    refine RefL.nil ?_
    refine RefE.next ?_
    refine RefC.cut (enc := fun (s35 : Sl) => ([(6, .slice s35.a s35.n s35.c)] : Env)) ?_ ?_
    · refine RefC.block ?_
      refine RefC.loopW (enc := fun (s31 : Sl × Int) => ([(6, .slice s31.1.a s31.1.n s31.1.c), (27, .int .i64 s31.2), (25, .slice a0.a a0.n a0.c), (26, .int .i64 (a0.n : Int))] : Env)) ⟨rfl, rfl, rfl, rfl, trivial⟩ ?_ _
      intro again k ih s31
      unfold slices_Concat_byte_l1
      refine RefC.seq ?_
      refine RefC.region ?_
      refine RefL.pure rfl rfl (RanP.lss rfl rfl) ?_
      refine RefL.nil ?_
      refine RefE.next ?_
      refine RefC.seq ?_
      refine RefC.cond rfl ?_ ?_
      · refine RefC.skip ?_
        refine RefE.next ?_
        refine RefC.seq ?_
        refine RefC.block ?_
        refine RefC.seq ?_
        refine RefC.region ?_
        refine RefL.li rfl rfl (Lt.ixA Tryz.underlying227 Tryz.sizeOf49 rfl rfl fun x32 => ?_)
        refine RefL.li rfl rfl (Lt.ldSl Tryz.isAgg49 rfl fun x33 => ?_)
        refine RefL.pure rfl rfl (RanP.assign rfl) ?_
        refine RefL.nil ?_
        refine RefE.next ?_
        refine RefC.region ?_
        refine RefL.pure rfl rfl (RanP.move rfl) ?_
        refine RefL.pure rfl rfl (RanP.move rfl) ?_
        refine RefL.hv rfl rfl (Hv.appS (i := Tryz.t5) rfl Tryz.underlying49 Tryz.underlying49 rfl rfl rfl rfl fun x34 => ?_)
        refine RefL.pure rfl rfl (RanP.assign rfl) ?_
        refine RefL.nil ?_
        refine RefE.blockNormal ?_
        refine RefE.next ?_
        refine RefC.region ?_
        refine RefL.pure rfl rfl (RanP.add rfl rfl) ?_
        refine RefL.pure rfl rfl (RanP.move rfl) ?_
        refine RefL.nil ?_
        exact RefE.again (ih (x34, (IntKind.wrap .i64 (s31.2 + (1 : Int))))) ⟨rfl, rfl, rfl, rfl, trivial⟩
      · refine RefC.exit ?_
        refine RefE.thenExit ?_
        refine RefE.roundExit ?_
        refine RefE.blockExit ?_
        exact RefE.fin (s := (s31.1)) ⟨rfl, trivial⟩
    · intro s35
      refine RefE.next ?_
      refine RefC.seq ?_
      refine RefC.region ?_
      refine RefL.pure rfl rfl (RanP.move rfl) ?_
      refine RefL.pure rfl rfl (RanP.assign rfl) ?_
      refine RefL.nil ?_
      refine RefE.next ?_
      refine RefC.ret ?_
      refine RefE.retV rfl ?_
      refine RefV.tmp rfl ?_
      exact RefV.nil rfl

def frame_Put (K : Nat) (a0 : Tapi_Frame) : G (Sl × Int) :=
  new (Agg.cells a0) 61 fun x1 =>
  ldG (α := Tapi_Frame) x1 fun x2 =>
  bnd (frame_Check K x2) fun x3 =>
  if (x3 != (0 : Int)) = true then
    ret (Sl.nil, x3)
  else
    ldI .i64 (x1.add 1) fun x4 =>
    lt (IntKind.wrap .u8 x4) fun x5 =>
    ldB (x1.add 0) fun x6 =>
    bnd (
      if x6 = true then
        lt (orI .u8 x5 (128 : Int)) fun x8 =>
        ret (x8)
      else
        ret (x5)) fun (s9 : Int) =>
    ldS (x1.add 7) fun x10 =>
    bnd (mask_Put K (IntKind.wrap .u64 (x10.size : Int))) fun x11 =>
    ldS (x1.add 7) fun x12 =>
    bytesOf 5 x12 fun x13 =>
    ldB (x1.add 2) fun x14 =>
    bnd (
      if x14 = true then
        ixA x11.1 (0 : Int) 1 fun x21 =>
        ldI .u8 x21 fun x22 =>
        ixA x11.1 (0 : Int) 1 fun x23 =>
        st x23 (.int .u8 (orI .u8 x22 (128 : Int))) <|
        drw <|
        slA (x1.add 3) 4 none none 1 fun x24 =>
        ldG (α := A4u8) (x1.add 3) fun x25 =>
        bnd (mask_Apply K x25 (0 : Int) x13) fun x26 =>
        ret (x26, x24)
      else
        ret (x13, Sl.nil)) fun (s27 : Sl × Sl) =>
    new [.int .u8 s9] 5 fun x28 =>
    new [.slice (Sl.mk (some x28) 1 1).a (Sl.mk (some x28) 1 1).n (Sl.mk (some x28) 1 1).c, .slice x11.1.a x11.1.n x11.1.c, .slice s27.2.a s27.2.n s27.2.c, .slice s27.1.a s27.1.n s27.1.c] 49 fun x29 =>
    bnd (slices_Concat_byte K (Sl.mk (some x29) 4 4)) fun x30 =>
    ret (x30, (0 : Int))
set_option maxRecDepth 100000 in
theorem frame_Put_ref (K : Nat) (a0 : Tapi_Frame) : Does Tryz.prog 118 [.agg (Agg.cells a0).toArray] (frame_Put K a0) (fun r => .tuple #[.slice r.1.a r.1.n r.1.c, .int .i64 r.2]) := by
  refine Does.of Tryz.func118 rfl rfl rfl ?_
  unfold frame_Put
  refine RefC.seq ?_
  refine RefC.region ?_
  refine RefL.hv rfl rfl (Hv.box rfl rfl fun x1 => ?_)
  refine RefL.pure rfl rfl (RanP.assign rfl) ?_
  refine RefL.pure rfl rfl (RanP.assign rfl) ?_
  refine RefL.nil ?_
  refine RefE.next ?_
  refine RefC.seq ?_
  refine RefC.seq ?_
  refine RefC.region ?_
  refine RefL.li rfl rfl (Lt.ldG (τ := Tapi_Frame) Tryz.isAgg61 Tryz.sizeOf61 rfl fun x2 => ?_)
  refine RefL.hv rfl rfl (Hv.call (frame_Check_ref K x2) Tryz.call139 rfl rfl rfl fun x3 => ?_)
  refine RefL.pure rfl rfl (RanP.assign rfl) ?_
  refine RefL.nil ?_
  refine RefE.next ?_
  refine RefC.seq ?_
  refine RefC.region ?_
  refine RefL.pure rfl rfl (RanP.move rfl) ?_
  refine RefL.pure rfl rfl (RanP.neq rfl rfl) ?_
  refine RefL.nil ?_
  refine RefE.next ?_
  refine RefC.cond rfl ?_ ?_
  · refine RefC.seq ?_
    refine RefC.region ?_
    refine RefL.pure rfl rfl (RanP.move rfl) ?_
    refine RefL.pure rfl rfl (RanP.assign rfl) ?_
    refine RefL.pure rfl rfl (RanP.assign rfl) ?_
    refine RefL.nil ?_
    refine RefE.next ?_
    refine RefC.ret ?_
    refine RefE.thenRet ?_
    refine RefE.retV rfl ?_
    refine RefV.tmp rfl ?_
    refine RefV.tmp rfl ?_
    exact RefV.nil rfl
  · refine RefC.skip ?_
    refine RefE.next ?_
    refine RefC.seq ?_
    refine RefC.region ?_
    refine RefL.pure rfl rfl (RanP.fieldAddr fa_61_1 rfl) ?_
    refine RefL.li rfl rfl (Lt.ldI Tryz.isAgg3 rfl fun x4 => ?_)
    refine RefL.pure rfl rfl (RanP.conv Tryz.underlying3 Tryz.underlying5 rfl) ?_
    refine RefL.pure rfl rfl (RanP.assign rfl) ?_
    refine RefL.lt 5 (fun y => .int .u8 y) rfl fun x5 => ?_
    refine RefL.nil ?_
    refine RefE.next ?_
    refine RefC.seq ?_
    refine RefC.seq ?_
    refine RefC.region ?_
    refine RefL.pure rfl rfl (RanP.fieldAddr fa_61_0 rfl) ?_
    refine RefL.li rfl rfl (Lt.ldB Tryz.isAgg4 rfl fun x6 => ?_)
    refine RefL.nil ?_
    refine RefE.next ?_
    refine RefC.cut (enc := fun (s9 : Int) => ([(5, .int .u8 s9), (1, .pointer (some x1))] : Env)) ?_ ?_
    · refine RefC.cond rfl ?_ ?_
      · refine RefC.region ?_
        refine RefL.pure rfl rfl (RanP.move rfl) ?_
        refine RefL.pure rfl rfl (RanP.or rfl rfl) ?_
        refine RefL.pure rfl rfl (RanP.assign rfl) ?_
        refine RefL.lt 5 (fun y => .int .u8 y) rfl fun x8 => ?_
        refine RefL.nil ?_
        exact RefE.fin (s := (x8)) ⟨rfl, rfl, trivial⟩
      · refine RefC.skip ?_
        exact RefE.fin (s := (x5)) ⟨rfl, rfl, trivial⟩
    · intro s9
      refine RefE.next ?_
      refine RefC.seq ?_
      refine RefC.region ?_
      refine RefL.pure rfl rfl (RanP.fieldAddr fa_61_4 rfl) ?_
      refine RefL.li rfl rfl (Lt.ldS Tryz.isAgg9 rfl fun x10 => ?_)
      refine RefL.pure rfl rfl (RanP.lenS rfl Tryz.underlying9 rfl) ?_
      refine RefL.pure rfl rfl (RanP.conv Tryz.underlying3 Tryz.underlying146 rfl) ?_
      refine RefL.hv rfl rfl (Hv.call (mask_Put_ref K (IntKind.wrap .u64 (x10.size : Int))) Tryz.call150 rfl rfl rfl fun x11 => ?_)
      refine RefL.pure rfl rfl (RanP.move rfl) ?_
      refine RefL.pure rfl rfl (RanP.extract rfl rfl) ?_
      refine RefL.pure rfl rfl (RanP.extract rfl rfl) ?_
      refine RefL.pure rfl rfl (RanP.assign rfl) ?_
      refine RefL.pure rfl rfl (RanP.assign rfl) ?_
      refine RefL.nil ?_
      refine RefE.next ?_
      refine RefC.seq ?_
      refine RefC.region ?_
      refine RefL.pure rfl rfl (RanP.fieldAddr fa_61_4 rfl) ?_
      refine RefL.li rfl rfl (Lt.ldS Tryz.isAgg9 rfl fun x12 => ?_)
      refine RefL.hv rfl rfl (Hv.bytesOf Tryz.underlying9 Tryz.underlying49 Tryz.underlying5 rfl fun x13 => ?_)
      refine RefL.pure rfl rfl (RanP.assign rfl) ?_
      refine RefL.nil ?_
      refine RefE.next ?_
      refine RefC.seq ?_
      refine RefC.region ?_
      refine RefL.pure rfl rfl (RanP.assign rfl) ?_
      refine RefL.nil ?_
      refine RefE.next ?_
      refine RefC.seq ?_
      refine RefC.seq ?_
      refine RefC.region ?_
      refine RefL.pure rfl rfl (RanP.fieldAddr fa_61_2 rfl) ?_
      refine RefL.li rfl rfl (Lt.ldB Tryz.isAgg4 rfl fun x14 => ?_)
      refine RefL.nil ?_
      refine RefE.next ?_
      refine RefC.cut (enc := fun (s27 : Sl × Sl) => ([(8, .slice s27.1.a s27.1.n s27.1.c), (9, .slice s27.2.a s27.2.n s27.2.c), (5, .int .u8 s9), (6, .slice x11.1.a x11.1.n x11.1.c)] : Env)) ?_ ?_
      · refine RefC.cond rfl ?_ ?_
        · refine RefC.seq ?_
          refine RefC.region ?_
          refine RefL.pure rfl rfl (RanP.move rfl) ?_
          refine RefL.li rfl rfl (Lt.ixA Tryz.underlying49 Tryz.sizeOf5 rfl rfl fun x21 => ?_)
          refine RefL.li rfl rfl (Lt.ldI Tryz.isAgg5 rfl fun x22 => ?_)
          refine RefL.pure rfl rfl (RanP.or rfl rfl) ?_
          refine RefL.li rfl rfl (Lt.ixA Tryz.underlying49 Tryz.sizeOf5 rfl rfl fun x23 => ?_)
          refine RefL.hv rfl rfl (Hv.st Tryz.sizeOf5 rfl rfl rfl ?_)
          refine RefL.nil ?_
          refine RefE.next ?_
          refine RefC.draw mixed [0, 1, 0, 4, 0, 28, 63, 127] [.lp 0, .lp 1, .lp 2, .li 3, .lp 4, .hv 5, .lp 6, .lp 7] (by kernel_rfl) ?_
          refine RefD.pure (at_ rfl) rfl (RanP.fieldAddr fa_61_3 rfl) ?_
          refine RefD.any (at_ rfl) rfl (Lt.slA (kl := .i64) (kh := .i64) Tryz.underlying59 Tryz.sizeOf5 rfl rfl rfl fun x24 => ?_)
          refine RefD.pure (at_ rfl) rfl (RanP.fieldAddr fa_61_3 rfl) ?_
          refine RefD.li0 (at_ rfl) rfl (Lt.ldG (τ := A4u8) Tryz.isAgg59 Tryz.sizeOf59 rfl fun x25 => ?_)
          refine RefD.pure (at_ rfl) rfl (RanP.move rfl) ?_
          refine RefD.hv (at_ rfl) rfl (Hv.call (mask_Apply_ref K x25 (0 : Int) x13) Tryz.call151 rfl rfl rfl fun x26 => ?_)
          refine RefD.pure (at_ rfl) rfl (RanP.assign rfl) ?_
          refine RefD.pure (at_ rfl) rfl (RanP.assign rfl) ?_
          refine RefD.nil ?_
          exact RefE.fin (s := (x26, x24)) ⟨rfl, rfl, rfl, rfl, trivial⟩
        · refine RefC.skip ?_
          exact RefE.fin (s := (x13, Sl.nil)) ⟨rfl, rfl, rfl, rfl, trivial⟩
      · intro s27
        refine RefE.next ?_
        refine RefC.seq ?_
        refine RefC.region ?_
        refine RefL.pure rfl rfl (RanP.move rfl) ?_
        refine RefL.hv rfl rfl (Hv.buildSlice rfl (cs := [.int .u8 s9]) (e := 5) (fun _ => by kernel_rfl) fun x28 => ?_)
        refine RefL.pure rfl rfl (RanP.move rfl) ?_
        refine RefL.pure rfl rfl (RanP.move rfl) ?_
        refine RefL.pure rfl rfl (RanP.move rfl) ?_
        refine RefL.hv rfl rfl (Hv.buildSlice rfl (cs := [.slice (Sl.mk (some x28) 1 1).a (Sl.mk (some x28) 1 1).n (Sl.mk (some x28) 1 1).c, .slice x11.1.a x11.1.n x11.1.c, .slice s27.2.a s27.2.n s27.2.c, .slice s27.1.a s27.1.n s27.1.c]) (e := 49) (fun _ => by kernel_rfl) fun x29 => ?_)
        refine RefL.hv rfl rfl (Hv.call (slices_Concat_byte_ref K (Sl.mk (some x29) 4 4)) Tryz.call152 rfl rfl rfl fun x30 => ?_)
        refine RefL.pure rfl rfl (RanP.assign rfl) ?_
        refine RefL.pure rfl rfl (RanP.assign rfl) ?_
        refine RefL.nil ?_
        refine RefE.next ?_
        refine RefC.ret ?_
        refine RefE.retV rfl ?_
        refine RefV.tmp rfl ?_
        refine RefV.tmp rfl ?_
        exact RefV.nil rfl

def leg_Leg_move_l0 (K : Nat) (a0 : Option Addr) (again : Unit → G (Unit)) (s9 : Unit) : G (Unit) :=
  nn a0 fun x10 =>
  bnd (leg_output_push K (some (x10.add 14))) fun x11 =>
  if x11 = true then
    bnd (leg_Leg_next K a0) fun x12 =>
    new [.bool false, .int .i64 (0 : Int), .bool false, .int .u8 (0 : Int), .int .u8 (0 : Int), .int .u8 (0 : Int), .int .u8 (0 : Int), .string (ByteArray.mk #[])] 61 fun x13 =>
    st x13 (.agg (Agg.cells x12.1).toArray) <|
    if (!x12.2) = true then
      ret ()
    else
      ldG (α := Tapi_Frame) x13 fun x14 =>
      bnd (frame_Put K x14) fun x15 =>
      nn a0 fun x16 =>
      st ((x16.add 14).add 1) (.slice x15.1.a x15.1.n x15.1.c) <|
      again ()
  else
    ret ()
def leg_Leg_move (K : Nat) (a0 : Option Addr) : G (Unit) :=
  loopG (leg_Leg_move_l0 K a0) K ()
set_option maxRecDepth 100000 in
theorem leg_Leg_move_ref (K : Nat) (a0 : Option Addr) : Does Tryz.prog 75 [.pointer a0] (leg_Leg_move K a0) (fun _ => .tuple #[]) := by
  refine Does.of Tryz.func75 rfl rfl rfl ?_
  unfold leg_Leg_move
  refine RefC.block ?_
  refine RefC.loopW (enc := fun (s9 : Unit) => ([(0, .pointer a0)] : Env)) ⟨rfl, trivial⟩ ?_ _
  intro again k ih s9
  unfold leg_Leg_move_l0
  refine RefC.seq ?_
  refine RefC.seq ?_
  refine RefC.region ?_
  refine RefL.pure rfl rfl (RanP.move rfl) ?_
  refine RefL.li rfl rfl (Lt.nn rfl fun x10 => ?_)
  refine RefL.pure rfl rfl (RanP.fieldAddr fa_109_3 rfl) ?_
  refine RefL.hv rfl rfl (Hv.call (leg_output_push_ref K (some (x10.add 14))) Tryz.call116 rfl rfl rfl fun x11 => ?_)
  refine RefL.nil ?_
  refine RefE.next ?_
  refine RefC.cond rfl ?_ ?_
  · refine RefC.skip ?_
    refine RefE.next ?_
    refine RefC.block ?_
    refine RefC.seq ?_
    refine RefC.region ?_
    refine RefL.pure rfl rfl (RanP.move rfl) ?_
    refine RefL.hv rfl rfl (Hv.call (leg_Leg_next_ref K a0) Tryz.call117 rfl rfl rfl fun x12 => ?_)
    refine RefL.pure rfl rfl (RanP.move rfl) ?_
    refine RefL.pure rfl rfl (RanP.extract rfl rfl) ?_
    refine RefL.pure rfl rfl (RanP.extract rfl rfl) ?_
    refine RefL.hv rfl rfl (Hv.newZ Tryz.zeroValue61 rfl fun x13 => ?_)
    refine RefL.hv rfl rfl (Hv.st Tryz.sizeOf61 rfl rfl rfl ?_)
    refine RefL.pure rfl rfl (RanP.assign rfl) ?_
    refine RefL.nil ?_
    refine RefE.next ?_
    refine RefC.seq ?_
    refine RefC.seq ?_
    refine RefC.region ?_
    refine RefL.pure rfl rfl (RanP.move rfl) ?_
    refine RefL.pure rfl rfl (RanP.not rfl) ?_
    refine RefL.nil ?_
    refine RefE.next ?_
    refine RefC.cond rfl ?_ ?_
    · refine RefC.ret ?_
      refine RefE.thenRet ?_
      refine RefE.blockRet ?_
      refine RefE.roundRet ?_
      refine RefE.blockRet ?_
      refine RefE.retV rfl ?_
      exact RefV.nil rfl
    · refine RefC.skip ?_
      refine RefE.next ?_
      refine RefC.region ?_
      refine RefL.pure rfl rfl (RanP.move rfl) ?_
      refine RefL.li rfl rfl (Lt.ldG (τ := Tapi_Frame) Tryz.isAgg61 Tryz.sizeOf61 rfl fun x14 => ?_)
      refine RefL.hv rfl rfl (Hv.call (frame_Put_ref K x14) Tryz.call118 rfl rfl rfl fun x15 => ?_)
      refine RefL.pure rfl rfl (RanP.move rfl) ?_
      refine RefL.pure rfl rfl (RanP.extract rfl rfl) ?_
      refine RefL.pure rfl rfl (RanP.extract rfl rfl) ?_
      refine RefL.li rfl rfl (Lt.nn rfl fun x16 => ?_)
      refine RefL.pure rfl rfl (RanP.fieldAddr fa_109_3 rfl) ?_
      refine RefL.pure rfl rfl (RanP.fieldAddr fa_107_1 rfl) ?_
      refine RefL.hv rfl rfl (Hv.st Tryz.sizeOf49 rfl rfl rfl ?_)
      refine RefL.nil ?_
      refine RefE.blockNormal ?_
      exact RefE.again (ih ()) ⟨rfl, trivial⟩
  · refine RefC.exit ?_
    refine RefE.thenExit ?_
    refine RefE.roundExit ?_
    refine RefE.blockExit ?_
    refine RefE.endV rfl ?_
    exact RefV.nil rfl

def leg_Leg_Close (K : Nat) (a0 : Option Addr) (a1 : Int) (a2 : ByteArray) : G (Bool) :=
  bnd (close_Put K a1 a2) fun x1 =>
  nn a0 fun x2 =>
  ldB (x2.add 20) fun x3 =>
  bnd (
    if x3 = true then
      ret true
    else
      ret (x1.2 != (0 : Int))) fun (x4 : Bool) =>
  if x4 = true then
    ret false
  else
    nn a0 fun x5 =>
    st (x5.add 20) (.bool true) <|
    nn a0 fun x6 =>
    st (x6.add 17) (.slice Sl.nil.a Sl.nil.n Sl.nil.c) <|
    nn a0 fun x7 =>
    ldSl (x7.add 16) fun x8 =>
    new (Agg.cells (Tapi_Frame.mk true (8 : Int) false (0 : Int) (0 : Int) (0 : Int) (0 : Int) x1.1)) 61 fun x9 =>
    appS 61 8 40 [.bool false, .int .i64 (0 : Int), .bool false, .int .u8 (0 : Int), .int .u8 (0 : Int), .int .u8 (0 : Int), .int .u8 (0 : Int), .string (ByteArray.mk #[])] x8 (Sl.mk (some x9) 1 1) fun x10 =>
    nn a0 fun x11 =>
    st (x11.add 16) (.slice x10.a x10.n x10.c) <|
    bnd (leg_Leg_move K a0) fun x12 =>
    ret true
set_option maxRecDepth 100000 in
theorem leg_Leg_Close_ref (K : Nat) (a0 : Option Addr) (a1 : Int) (a2 : ByteArray) : Does Tryz.prog 27 [.pointer a0, .int .i64 a1, .string a2] (leg_Leg_Close K a0 a1 a2) (fun r => .bool r) := by
  refine Does.of Tryz.func27 rfl rfl rfl ?_
  unfold leg_Leg_Close
  refine RefC.seq ?_
  refine RefC.region ?_
  refine RefL.pure rfl rfl (RanP.assign rfl) ?_
  refine RefL.nil ?_
  refine RefE.next ?_
  refine RefC.seq ?_
  refine RefC.region ?_
  refine RefL.pure rfl rfl (RanP.move rfl) ?_
  refine RefL.pure rfl rfl (RanP.move rfl) ?_
  refine RefL.hv rfl rfl (Hv.call (close_Put_ref K a1 a2) Tryz.call76 rfl rfl rfl fun x1 => ?_)
  refine RefL.pure rfl rfl (RanP.move rfl) ?_
  refine RefL.pure rfl rfl (RanP.extract rfl rfl) ?_
  refine RefL.pure rfl rfl (RanP.extract rfl rfl) ?_
  refine RefL.pure rfl rfl (RanP.assign rfl) ?_
  refine RefL.pure rfl rfl (RanP.assign rfl) ?_
  refine RefL.nil ?_
  refine RefE.next ?_
  refine RefC.seq ?_
  refine RefC.seq ?_
  refine RefC.region ?_
  refine RefL.pure rfl rfl (RanP.move rfl) ?_
  refine RefL.li rfl rfl (Lt.nn rfl fun x2 => ?_)
  refine RefL.pure rfl rfl (RanP.fieldAddr fa_109_8 rfl) ?_
  refine RefL.li rfl rfl (Lt.ldB Tryz.isAgg4 rfl fun x3 => ?_)
  refine RefL.pure rfl rfl (RanP.move rfl) ?_
  refine RefL.cut (enc := fun (x4 : Bool) => ([(22, .bool x4), (0, .pointer a0), (7, .string x1.1)] : Env)) 3 ?_ ?_
  · refine RefL.ite (s := 19) rfl ?_ ?_
    · refine RefL.skip rfl rfl ?_
      refine RefL.skip rfl rfl ?_
      refine RefL.pure rfl rfl (RanP.pickT rfl rfl) ?_
      refine RefL.nil ?_
      exact RefE.fin (s := true) ⟨rfl, rfl, rfl, trivial⟩
    · refine RefL.pure rfl rfl (RanP.move rfl) ?_
      refine RefL.pure rfl rfl (RanP.neq rfl rfl) ?_
      refine RefL.pure rfl rfl (RanP.pickF rfl rfl) ?_
      refine RefL.nil ?_
      exact RefE.fin (s := (x1.2 != (0 : Int))) ⟨rfl, rfl, rfl, trivial⟩
  · intro x4
    refine RefL.nil ?_
    refine RefE.next ?_
    refine RefC.cond rfl ?_ ?_
    · refine RefC.seq ?_
      refine RefC.region ?_
      refine RefL.pure rfl rfl (RanP.assign rfl) ?_
      refine RefL.nil ?_
      refine RefE.next ?_
      refine RefC.ret ?_
      refine RefE.thenRet ?_
      refine RefE.retV rfl ?_
      refine RefV.tmp rfl ?_
      exact RefV.nil rfl
    · refine RefC.skip ?_
      refine RefE.next ?_
      refine RefC.seq ?_
      refine RefC.region ?_
      refine RefL.pure rfl rfl (RanP.move rfl) ?_
      refine RefL.pure rfl rfl (RanP.move rfl) ?_
      refine RefL.li rfl rfl (Lt.nn rfl fun x5 => ?_)
      refine RefL.pure rfl rfl (RanP.fieldAddr fa_109_8 rfl) ?_
      refine RefL.hv rfl rfl (Hv.st Tryz.sizeOf4 rfl rfl rfl ?_)
      refine RefL.li rfl rfl (Lt.nn rfl fun x6 => ?_)
      refine RefL.pure rfl rfl (RanP.fieldAddr fa_109_5 rfl) ?_
      refine RefL.hv rfl rfl (Hv.st Tryz.sizeOf34 rfl rfl rfl ?_)
      refine RefL.nil ?_
      refine RefE.next ?_
      refine RefC.seq ?_
      refine RefC.region ?_
      refine RefL.pure rfl rfl (RanP.move rfl) ?_
      refine RefL.pure rfl rfl (RanP.move rfl) ?_
      refine RefL.li rfl rfl (Lt.nn rfl fun x7 => ?_)
      refine RefL.pure rfl rfl (RanP.fieldAddr fa_109_4 rfl) ?_
      refine RefL.li rfl rfl (Lt.ldSl Tryz.isAgg34 rfl fun x8 => ?_)
      refine RefL.pure rfl rfl (RanP.move rfl) ?_
      refine RefL.pure rfl rfl (RanP.build rfl (v := .agg (Agg.cells (Tapi_Frame.mk true (8 : Int) false (0 : Int) (0 : Int) (0 : Int) (0 : Int) x1.1)).toArray) (fun _ => by kernel_rfl)) ?_
      refine RefL.hv rfl rfl (Hv.buildSlice rfl (cs := (Agg.cells (Tapi_Frame.mk true (8 : Int) false (0 : Int) (0 : Int) (0 : Int) (0 : Int) x1.1))) (e := 61) (fun _ => by kernel_rfl) fun x9 => ?_)
      refine RefL.hv rfl rfl (Hv.appS (i := Tryz.t61) rfl Tryz.underlying34 Tryz.underlying34 rfl rfl rfl rfl fun x10 => ?_)
      refine RefL.li rfl rfl (Lt.nn rfl fun x11 => ?_)
      refine RefL.pure rfl rfl (RanP.fieldAddr fa_109_4 rfl) ?_
      refine RefL.hv rfl rfl (Hv.st Tryz.sizeOf34 rfl rfl rfl ?_)
      refine RefL.nil ?_
      refine RefE.next ?_
      refine RefC.seq ?_
      refine RefC.region ?_
      refine RefL.pure rfl rfl (RanP.move rfl) ?_
      refine RefL.hv rfl rfl (Hv.call (leg_Leg_move_ref K a0) Tryz.call75 rfl rfl rfl fun x12 => ?_)
      refine RefL.nil ?_
      refine RefE.next ?_
      refine RefC.seq ?_
      refine RefC.region ?_
      refine RefL.pure rfl rfl (RanP.assign rfl) ?_
      refine RefL.nil ?_
      refine RefE.next ?_
      refine RefC.ret ?_
      refine RefE.retV rfl ?_
      refine RefV.tmp rfl ?_
      exact RefV.nil rfl

def leg_Leg_fail (K : Nat) (a0 : Option Addr) (a1 : Int) : G (Unit) :=
  nn a0 fun x1 =>
  st (x1.add 22) (.int .i64 a1) <|
  bnd (close_Code K a1) fun x2 =>
  bnd (leg_Leg_Close K a0 x2 (ByteArray.mk #[])) fun x3 =>
  ret ()
set_option maxRecDepth 100000 in
theorem leg_Leg_fail_ref (K : Nat) (a0 : Option Addr) (a1 : Int) : Does Tryz.prog 73 [.pointer a0, .int .i64 a1] (leg_Leg_fail K a0 a1) (fun _ => .tuple #[]) := by
  refine Does.of Tryz.func73 rfl rfl rfl ?_
  unfold leg_Leg_fail
  refine RefC.seq ?_
  refine RefC.region ?_
  refine RefL.pure rfl rfl (RanP.move rfl) ?_
  refine RefL.pure rfl rfl (RanP.move rfl) ?_
  refine RefL.li rfl rfl (Lt.nn rfl fun x1 => ?_)
  refine RefL.pure rfl rfl (RanP.fieldAddr fa_109_10 rfl) ?_
  refine RefL.hv rfl rfl (Hv.st Tryz.sizeOf31 rfl rfl rfl ?_)
  refine RefL.nil ?_
  refine RefE.next ?_
  refine RefC.region ?_
  refine RefL.pure rfl rfl (RanP.move rfl) ?_
  refine RefL.pure rfl rfl (RanP.move rfl) ?_
  refine RefL.hv rfl rfl (Hv.call (close_Code_ref K a1) Tryz.call114 rfl rfl rfl fun x2 => ?_)
  refine RefL.hv rfl rfl (Hv.call (leg_Leg_Close_ref K a0 x2 (ByteArray.mk #[])) Tryz.call27 rfl rfl rfl fun x3 => ?_)
  refine RefL.nil ?_
  refine RefE.endV rfl ?_
  exact RefV.nil rfl

def leg_Leg_pong_1 (K : Nat) (a0 : Tapi_Frame) : G (Bool) :=
  new (Agg.cells a0) 61 fun x1 =>
  ldI .i64 (x1.add 1) fun x2 =>
  lt (x2 == (10 : Int)) fun x3 =>
  ret x3
set_option maxRecDepth 100000 in
theorem leg_Leg_pong_1_ref (K : Nat) (a0 : Tapi_Frame) : Does Tryz.prog 145 [.agg (Agg.cells a0).toArray] (leg_Leg_pong_1 K a0) (fun r => .bool r) := by
  refine Does.of Tryz.func145 rfl rfl rfl ?_
  unfold leg_Leg_pong_1
  refine RefC.seq ?_
  refine RefC.region ?_
  refine RefL.hv rfl rfl (Hv.box rfl rfl fun x1 => ?_)
  refine RefL.pure rfl rfl (RanP.assign rfl) ?_
  refine RefL.nil ?_
  refine RefE.next ?_
  refine RefC.seq ?_
  refine RefC.region ?_
  refine RefL.pure rfl rfl (RanP.fieldAddr fa_61_1 rfl) ?_
  refine RefL.li rfl rfl (Lt.ldI Tryz.isAgg3 rfl fun x2 => ?_)
  refine RefL.pure rfl rfl (RanP.eql rfl rfl) ?_
  refine RefL.pure rfl rfl (RanP.assign rfl) ?_
  refine RefL.lt 2 (fun y => .bool y) rfl fun x3 => ?_
  refine RefL.nil ?_
  refine RefE.next ?_
  refine RefC.ret ?_
  refine RefE.retV rfl ?_
  refine RefV.tmp rfl ?_
  exact RefV.nil rfl

def slices_IndexFunc_Frame_l0 (K : Nat) (a0 : Sl) (again : Int → G (Unit ⊕ Int)) (s13 : Int) : G (Unit ⊕ Int) :=
  if (decide (s13 < (a0.n : Int))) = true then
    ixA a0 s13 8 fun x14 =>
    ldG (α := Tapi_Frame) x14 fun x15 =>
    bnd (leg_Leg_pong_1 K x15) fun x16 =>
    if x16 = true then
      inr (ret s13)
    else
      again ((IntKind.wrap .i64 (s13 + (1 : Int))))
  else
    ret (.inl ())
def slices_IndexFunc_Frame (K : Nat) (a0 : Sl) : G (Int) :=
  bnd (
    loopG (slices_IndexFunc_Frame_l0 K a0) K ((0 : Int))) (sumK fun (s17 : Unit) =>
  ret (-1 : Int))
set_option maxRecDepth 100000 in
theorem slices_IndexFunc_Frame_ref (K : Nat) (a0 : Sl) : Does Tryz.prog 144 [.slice a0.a a0.n a0.c, .func (.func 145) #[] #[]] (slices_IndexFunc_Frame K a0) (fun r => .int .i64 r) := by
  refine Does.of Tryz.func144 rfl rfl rfl ?_
  unfold slices_IndexFunc_Frame
  refine RefC.seq ?_
  refine RefC.region ?_
  refine RefL.pure rfl rfl (RanP.assign rfl) ?_
  refine RefL.nil ?_
  refine RefE.next ?_
  refine RefC.seq ?_
  refine RefC.seq ?_
  refine RefC.region ?_
  refine RefL.pure rfl rfl (RanP.move rfl) ?_
  refine RefL.pure rfl rfl (RanP.lenSl rfl Tryz.underlying34 rfl) ?_
  refine RefL.pure rfl rfl (RanP.move rfl) ?_
  refine RefL.nil ?_
  refine RefE.next ?_
  refine RefC.cutSum (enc := fun (s17 : Unit) => ([] : Env)) (KThen.mono KRet.mono) ?_ ?_
  · refine RefC.block ?_
    refine RefC.loopW (enc := fun (s13 : Int) => ([(8, .int .i64 s13), (0, .slice a0.a a0.n a0.c), (1, .func (.func 145) #[] #[]), (7, .int .i64 (a0.n : Int))] : Env)) ⟨rfl, rfl, rfl, rfl, trivial⟩ ?_ _
    intro again k ih s13
    unfold slices_IndexFunc_Frame_l0
    refine RefC.seq ?_
    refine RefC.region ?_
    refine RefL.pure rfl rfl (RanP.lss rfl rfl) ?_
    refine RefL.nil ?_
    refine RefE.next ?_
    refine RefC.seq ?_
    refine RefC.cond rfl ?_ ?_
    · refine RefC.skip ?_
      refine RefE.next ?_
      refine RefC.seq ?_
      refine RefC.block ?_
      refine RefC.seq ?_
      refine RefC.region ?_
      refine RefL.pure rfl rfl (RanP.move rfl) ?_
      refine RefL.pure rfl rfl (RanP.assign rfl) ?_
      refine RefL.nil ?_
      refine RefE.next ?_
      refine RefC.seq ?_
      refine RefC.region ?_
      refine RefL.pure rfl rfl (RanP.move rfl) ?_
      refine RefL.pure rfl rfl (RanP.move rfl) ?_
      refine RefL.pure rfl rfl (RanP.move rfl) ?_
      refine RefL.li rfl rfl (Lt.ixA Tryz.underlying34 Tryz.sizeOf61 rfl rfl fun x14 => ?_)
      refine RefL.li rfl rfl (Lt.ldG (τ := Tapi_Frame) Tryz.isAgg61 Tryz.sizeOf61 rfl fun x15 => ?_)
      refine RefL.hv rfl rfl (Hv.call (leg_Leg_pong_1_ref K x15) Tryz.call145 rfl rfl rfl fun x16 => ?_)
      refine RefL.nil ?_
      refine RefE.next ?_
      refine RefC.cond rfl ?_ ?_
      · refine RefC.seq ?_
        refine RefC.region ?_
        refine RefL.pure rfl rfl (RanP.move rfl) ?_
        refine RefL.pure rfl rfl (RanP.assign rfl) ?_
        refine RefL.nil ?_
        refine RefE.next ?_
        refine RefC.ret ?_
        refine RefE.blockRet ?_
        refine RefE.thenRet ?_
        refine RefE.roundRet ?_
        refine RefE.blockRet ?_
        refine RefE.finR ?_
        refine RefE.thenRet ?_
        refine RefE.retV rfl ?_
        refine RefV.tmp rfl ?_
        exact RefV.nil rfl
      · refine RefC.skip ?_
        refine RefE.blockNormal ?_
        refine RefE.next ?_
        refine RefC.region ?_
        refine RefL.pure rfl rfl (RanP.add rfl rfl) ?_
        refine RefL.pure rfl rfl (RanP.move rfl) ?_
        refine RefL.nil ?_
        exact RefE.again (ih ((IntKind.wrap .i64 (s13 + (1 : Int))))) ⟨rfl, rfl, rfl, rfl, trivial⟩
    · refine RefC.exit ?_
      refine RefE.thenExit ?_
      refine RefE.roundExit ?_
      refine RefE.blockExit ?_
      exact RefE.finL (s := ()) trivial
  · intro s17
    refine RefE.next ?_
    refine RefC.seq ?_
    refine RefC.region ?_
    refine RefL.pure rfl rfl (RanP.assign rfl) ?_
    refine RefL.nil ?_
    refine RefE.next ?_
    refine RefC.ret ?_
    refine RefE.retV rfl ?_
    refine RefV.tmp rfl ?_
    exact RefV.nil rfl

def leg_Leg_pong (K : Nat) (a0 : Option Addr) (a1 : ByteArray) : G (Unit) :=
  nn a0 fun x1 =>
  ldB (x1.add 20) fun x2 =>
  if x2 = true then
    ret ()
  else
    nn a0 fun x3 =>
    ldSl (x3.add 16) fun x4 =>
    bnd (slices_IndexFunc_Frame K x4) fun x5 =>
    bnd (
      if (decide (x5 < (0 : Int))) = true then
        nn a0 fun x14 =>
        ldSl (x14.add 16) fun x15 =>
        new (Agg.cells (Tapi_Frame.mk true (10 : Int) false (0 : Int) (0 : Int) (0 : Int) (0 : Int) (ByteArray.mk #[]))) 61 fun x16 =>
        appS 61 8 40 [.bool false, .int .i64 (0 : Int), .bool false, .int .u8 (0 : Int), .int .u8 (0 : Int), .int .u8 (0 : Int), .int .u8 (0 : Int), .string (ByteArray.mk #[])] x15 (Sl.mk (some x16) 1 1) fun x17 =>
        nn a0 fun x18 =>
        st (x18.add 16) (.slice x17.a x17.n x17.c) <|
        nn a0 fun x19 =>
        ldSl (x19.add 16) fun x20 =>
        lt (IntKind.wrap .i64 ((x20.n : Int) - (1 : Int))) fun x21 =>
        ret (x21)
      else
        ret (x5)) fun (s22 : Int) =>
    nn a0 fun x23 =>
    ldSl (x23.add 16) fun x24 =>
    ixA x24 s22 8 fun x25 =>
    st (x25.add 7) (.string a1) <|
    bnd (leg_Leg_move K a0) fun x26 =>
    ret ()
set_option maxRecDepth 100000 in
theorem leg_Leg_pong_ref (K : Nat) (a0 : Option Addr) (a1 : ByteArray) : Does Tryz.prog 112 [.pointer a0, .string a1] (leg_Leg_pong K a0 a1) (fun _ => .tuple #[]) := by
  refine Does.of Tryz.func112 rfl rfl rfl ?_
  unfold leg_Leg_pong
  refine RefC.seq ?_
  refine RefC.seq ?_
  refine RefC.region ?_
  refine RefL.pure rfl rfl (RanP.move rfl) ?_
  refine RefL.li rfl rfl (Lt.nn rfl fun x1 => ?_)
  refine RefL.pure rfl rfl (RanP.fieldAddr fa_109_8 rfl) ?_
  refine RefL.li rfl rfl (Lt.ldB Tryz.isAgg4 rfl fun x2 => ?_)
  refine RefL.nil ?_
  refine RefE.next ?_
  refine RefC.cond rfl ?_ ?_
  · refine RefC.ret ?_
    refine RefE.thenRet ?_
    refine RefE.retV rfl ?_
    exact RefV.nil rfl
  · refine RefC.skip ?_
    refine RefE.next ?_
    refine RefC.seq ?_
    refine RefC.region ?_
    refine RefL.pure rfl rfl (RanP.move rfl) ?_
    refine RefL.li rfl rfl (Lt.nn rfl fun x3 => ?_)
    refine RefL.pure rfl rfl (RanP.fieldAddr fa_109_4 rfl) ?_
    refine RefL.li rfl rfl (Lt.ldSl Tryz.isAgg34 rfl fun x4 => ?_)
    refine RefL.hv rfl rfl (Hv.call (slices_IndexFunc_Frame_ref K x4) Tryz.call144 rfl rfl rfl fun x5 => ?_)
    refine RefL.pure rfl rfl (RanP.assign rfl) ?_
    refine RefL.nil ?_
    refine RefE.next ?_
    refine RefC.seq ?_
    refine RefC.seq ?_
    refine RefC.region ?_
    refine RefL.pure rfl rfl (RanP.move rfl) ?_
    refine RefL.pure rfl rfl (RanP.lss rfl rfl) ?_
    refine RefL.nil ?_
    refine RefE.next ?_
    refine RefC.cut (enc := fun (s22 : Int) => ([(4, .int .i64 s22), (0, .pointer a0), (1, .string a1)] : Env)) ?_ ?_
    · refine RefC.cond rfl ?_ ?_
      · refine RefC.seq ?_
        refine RefC.region ?_
        refine RefL.pure rfl rfl (RanP.move rfl) ?_
        refine RefL.pure rfl rfl (RanP.move rfl) ?_
        refine RefL.li rfl rfl (Lt.nn rfl fun x14 => ?_)
        refine RefL.pure rfl rfl (RanP.fieldAddr fa_109_4 rfl) ?_
        refine RefL.li rfl rfl (Lt.ldSl Tryz.isAgg34 rfl fun x15 => ?_)
        refine RefL.pure rfl rfl (RanP.build rfl (v := .agg (Agg.cells (Tapi_Frame.mk true (10 : Int) false (0 : Int) (0 : Int) (0 : Int) (0 : Int) (ByteArray.mk #[]))).toArray) (fun _ => by kernel_rfl)) ?_
        refine RefL.hv rfl rfl (Hv.buildSlice rfl (cs := (Agg.cells (Tapi_Frame.mk true (10 : Int) false (0 : Int) (0 : Int) (0 : Int) (0 : Int) (ByteArray.mk #[])))) (e := 61) (fun _ => by kernel_rfl) fun x16 => ?_)
        refine RefL.hv rfl rfl (Hv.appS (i := Tryz.t61) rfl Tryz.underlying34 Tryz.underlying34 rfl rfl rfl rfl fun x17 => ?_)
        refine RefL.li rfl rfl (Lt.nn rfl fun x18 => ?_)
        refine RefL.pure rfl rfl (RanP.fieldAddr fa_109_4 rfl) ?_
        refine RefL.hv rfl rfl (Hv.st Tryz.sizeOf34 rfl rfl rfl ?_)
        refine RefL.nil ?_
        refine RefE.next ?_
        refine RefC.region ?_
        refine RefL.pure rfl rfl (RanP.move rfl) ?_
        refine RefL.li rfl rfl (Lt.nn rfl fun x19 => ?_)
        refine RefL.pure rfl rfl (RanP.fieldAddr fa_109_4 rfl) ?_
        refine RefL.li rfl rfl (Lt.ldSl Tryz.isAgg34 rfl fun x20 => ?_)
        refine RefL.pure rfl rfl (RanP.lenSl rfl Tryz.underlying34 rfl) ?_
        refine RefL.pure rfl rfl (RanP.sub rfl rfl) ?_
        refine RefL.pure rfl rfl (RanP.assign rfl) ?_
        refine RefL.lt 4 (fun y => .int .i64 y) rfl fun x21 => ?_
        refine RefL.nil ?_
        exact RefE.fin (s := (x21)) ⟨rfl, rfl, rfl, trivial⟩
      · refine RefC.skip ?_
        exact RefE.fin (s := (x5)) ⟨rfl, rfl, rfl, trivial⟩
    · intro s22
      refine RefE.next ?_
      refine RefC.seq ?_
      refine RefC.region ?_
      refine RefL.pure rfl rfl (RanP.move rfl) ?_
      refine RefL.li rfl rfl (Lt.nn rfl fun x23 => ?_)
      refine RefL.pure rfl rfl (RanP.fieldAddr fa_109_4 rfl) ?_
      refine RefL.li rfl rfl (Lt.ldSl Tryz.isAgg34 rfl fun x24 => ?_)
      refine RefL.pure rfl rfl (RanP.move rfl) ?_
      refine RefL.pure rfl rfl (RanP.move rfl) ?_
      refine RefL.li rfl rfl (Lt.ixA Tryz.underlying34 Tryz.sizeOf61 rfl rfl fun x25 => ?_)
      refine RefL.pure rfl rfl (RanP.fieldAddr fa_61_4 rfl) ?_
      refine RefL.hv rfl rfl (Hv.st Tryz.sizeOf9 rfl rfl rfl ?_)
      refine RefL.nil ?_
      refine RefE.next ?_
      refine RefC.region ?_
      refine RefL.pure rfl rfl (RanP.move rfl) ?_
      refine RefL.hv rfl rfl (Hv.call (leg_Leg_move_ref K a0) Tryz.call75 rfl rfl rfl fun x26 => ?_)
      refine RefL.nil ?_
      refine RefE.endV rfl ?_
      exact RefV.nil rfl

end Go.Proofs.YtjdnjlnfcbaokaaGreat
