/-
  Go functions as programs over the world, and that the model's code does what they say. Printed by gen.py (own work).
-/
import Derived.Test.YtjdnjlnfcbaokaaGreatFn1
set_option linter.unusedVariables false
set_option linter.unusedSimpArgs false
namespace Go.Proofs.YtjdnjlnfcbaokaaGreat
open Go Go.Lg

def mask_Apply_l0 (K : Nat) (a2 : Sl) (x3 : Int) (x1 : Addr) (x2 : Sl) (again : Int → G (Unit)) (s22 : Int) : G (Unit) :=
  if (decide (s22 < (a2.n : Int))) = true then
    drw <|
    ixA a2 s22 1 fun x23 =>
    ldI .u8 x23 fun x24 =>
    chk (0 ≤ (andI .i64 (IntKind.wrap .i64 (x3 + s22)) (3 : Int)) ∧ (andI .i64 (IntKind.wrap .i64 (x3 + s22)) (3 : Int)) < ((4 : Nat) : Int)) <|
    ldI .u8 (x1.add ((andI .i64 (IntKind.wrap .i64 (x3 + s22)) (3 : Int)).toNat * 1)) fun x26 =>
    ixA x2 s22 1 fun x27 =>
    st x27 (.int .u8 (xorI .u8 x24 x26)) <|
    again ((IntKind.wrap .i64 (s22 + (1 : Int))))
  else
    ret ()
def mask_Apply (K : Nat) (a0 : A4u8) (a1 : Int) (a2 : Sl) : G (Sl) :=
  new (Agg.cells a0) 59 fun x1 =>
  mk 5 1 1 [.int .u8 (0 : Int)] (a2.n : Int) (a2.n : Int) fun x2 =>
  lt (andI .i64 a1 (3 : Int)) fun x3 =>
  bnd (
    loopG (mask_Apply_l0 K a2 x3 x1 x2) K ((0 : Int))) fun (s28 : Unit) =>
  ret x2
set_option maxRecDepth 100000 in
theorem mask_Apply_ref (K : Nat) (a0 : A4u8) (a1 : Int) (a2 : Sl) : Does Tryz.prog 151 [.agg (Agg.cells a0).toArray, .int .i64 a1, .slice a2.a a2.n a2.c] (mask_Apply K a0 a1 a2) (fun r => .slice r.a r.n r.c) := by
  refine Does.of Tryz.func151 rfl rfl rfl ?_
  unfold mask_Apply
  refine RefC.seq ?_
  refine RefC.region ?_
  refine RefL.hv rfl rfl (Hv.box rfl rfl fun x1 => ?_)
  refine RefL.pure rfl rfl (RanP.assign rfl) ?_
  refine RefL.nil ?_
  refine RefE.next ?_
  refine RefC.seq ?_
  refine RefC.region ?_
  refine RefL.pure rfl rfl (RanP.move rfl) ?_
  refine RefL.pure rfl rfl (RanP.lenSl rfl Tryz.underlying49 rfl) ?_
  refine RefL.hv rfl rfl (Hv.mk (i := Tryz.t5) Tryz.underlying49 rfl rfl rfl rfl rfl rfl fun x2 => ?_)
  refine RefL.pure rfl rfl (RanP.assign rfl) ?_
  refine RefL.nil ?_
  refine RefE.next ?_
  refine RefC.seq ?_
  refine RefC.region ?_
  refine RefL.pure rfl rfl (RanP.move rfl) ?_
  refine RefL.pure rfl rfl (RanP.and rfl rfl) ?_
  refine RefL.pure rfl rfl (RanP.assign rfl) ?_
  refine RefL.lt 1 (fun y => .int .i64 y) rfl fun x3 => ?_
  refine RefL.nil ?_
  refine RefE.next ?_
  refine RefC.seq ?_
  refine RefC.seq ?_
  refine RefC.region ?_
  refine RefL.pure rfl rfl (RanP.move rfl) ?_
  refine RefL.pure rfl rfl (RanP.lenSl rfl Tryz.underlying49 rfl) ?_
  refine RefL.pure rfl rfl (RanP.move rfl) ?_
  refine RefL.nil ?_
  refine RefE.next ?_
  refine RefC.cut (enc := fun (s28 : Unit) => ([(7, .slice x2.a x2.n x2.c)] : Env)) ?_ ?_
  · refine RefC.block ?_
    refine RefC.loopW (enc := fun (s22 : Int) => ([(16, .int .i64 s22), (1, .int .i64 x3), (2, .slice a2.a a2.n a2.c), (3, .pointer (some x1)), (7, .slice x2.a x2.n x2.c), (15, .int .i64 (a2.n : Int))] : Env)) ⟨rfl, rfl, rfl, rfl, rfl, rfl, trivial⟩ ?_ _
    intro again k ih s22
    unfold mask_Apply_l0
    refine RefC.seq ?_
    refine RefC.region ?_
    refine RefL.pure rfl rfl (RanP.lss rfl rfl) ?_
    refine RefL.nil ?_
    refine RefE.next ?_
    refine RefC.seq ?_
    refine RefC.cond rfl ?_ ?_
    · refine RefC.skip ?_
      refine RefE.next ?_
      refine RefC.seq ?_
      refine RefC.block ?_
      refine RefC.seq ?_
      refine RefC.region ?_
      refine RefL.pure rfl rfl (RanP.move rfl) ?_
      refine RefL.pure rfl rfl (RanP.assign rfl) ?_
      refine RefL.nil ?_
      refine RefE.next ?_
      refine RefC.draw mixed [0, 0, 0, 0, 12, 28, 0, 0, 192, 448, 960, 1984, 4092, 8191, 16383] [.lp 0, .lp 1, .lp 2, .lp 3, .lp 4, .li 5, .lp 6, .lp 7, .lp 8, .lp 9, .lp 10, .li 11, .lp 12, .lp 13, .hv 14] (by kernel_rfl) ?_
      refine RefD.pure (at_ rfl) rfl (RanP.move rfl) ?_
      refine RefD.pure (at_ rfl) rfl (RanP.move rfl) ?_
      refine RefD.pure (at_ rfl) rfl (RanP.move rfl) ?_
      refine RefD.pure (at_ rfl) rfl (RanP.move rfl) ?_
      refine RefD.any (at_ rfl) rfl (Lt.ixA Tryz.underlying49 Tryz.sizeOf5 rfl rfl fun x23 => ?_)
      refine RefD.li0 (at_ rfl) rfl (Lt.ldI Tryz.isAgg5 rfl fun x24 => ?_)
      refine RefD.pure (at_ rfl) rfl (RanP.move rfl) ?_
      refine RefD.pure (at_ rfl) rfl (RanP.move rfl) ?_
      refine RefD.pure (at_ rfl) rfl (RanP.add rfl rfl) ?_
      refine RefD.pure (at_ rfl) rfl (RanP.and rfl rfl) ?_
      refine RefD.chk fun h25 => ?_
      refine RefD.pure (at_ rfl) rfl (RanP.ixArr (len := 4) h25 Tryz.underlying59 Tryz.sizeOf5 rfl rfl) ?_
      refine RefD.li0 (at_ rfl) rfl (Lt.ldI Tryz.isAgg5 rfl fun x26 => ?_)
      refine RefD.pure (at_ rfl) rfl (RanP.xor rfl rfl) ?_
      refine RefD.any (at_ rfl) rfl (Lt.ixA Tryz.underlying49 Tryz.sizeOf5 rfl rfl fun x27 => ?_)
      refine RefD.hv (at_ rfl) rfl (Hv.st Tryz.sizeOf5 rfl rfl rfl ?_)
      refine RefD.nil ?_
      refine RefE.blockNormal ?_
      refine RefE.next ?_
      refine RefC.region ?_
      refine RefL.pure rfl rfl (RanP.add rfl rfl) ?_
      refine RefL.pure rfl rfl (RanP.move rfl) ?_
      refine RefL.nil ?_
      exact RefE.again (ih ((IntKind.wrap .i64 (s22 + (1 : Int))))) ⟨rfl, rfl, rfl, rfl, rfl, rfl, trivial⟩
    · refine RefC.exit ?_
      refine RefE.thenExit ?_
      refine RefE.roundExit ?_
      refine RefE.blockExit ?_
      exact RefE.fin (s := ()) ⟨rfl, trivial⟩
  · intro s28
    refine RefE.next ?_
    refine RefC.seq ?_
    refine RefC.region ?_
    refine RefL.pure rfl rfl (RanP.move rfl) ?_
    refine RefL.pure rfl rfl (RanP.assign rfl) ?_
    refine RefL.nil ?_
    refine RefE.next ?_
    refine RefC.ret ?_
    refine RefE.retV rfl ?_
    refine RefV.tmp rfl ?_
    exact RefV.nil rfl

def frame_Get (K : Nat) (a0 : Sl) (a1 : Int) : G (Tapi_Frame × Int × Int) :=
  new [.bool false, .int .i64 (0 : Int), .bool false, .int .u8 (0 : Int), .int .u8 (0 : Int), .int .u8 (0 : Int), .int .u8 (0 : Int), .string (ByteArray.mk #[])] 61 fun x1 =>
  if ((a0.n : Int) == (0 : Int)) = true then
    st x1 (.agg (Agg.cells (Tapi_Frame.mk false (0 : Int) false (0 : Int) (0 : Int) (0 : Int) (0 : Int) (ByteArray.mk #[]))).toArray) <|
    ldG (α := Tapi_Frame) x1 fun r2 =>
    ret (r2, (0 : Int), (90 : Int))
  else
    drw <|
    ixA a0 (0 : Int) 1 fun x3 =>
    wld fun w5 =>
    ldI .u8 x3 fun x4 =>
    ixA a0 (0 : Int) 1 fun x6 =>
    wld fun w8 =>
    ldI .u8 x6 fun x7 =>
    new [.bool false, .int .i64 (0 : Int), .bool false, .int .u8 (0 : Int), .int .u8 (0 : Int), .int .u8 (0 : Int), .int .u8 (0 : Int), .string (ByteArray.mk #[])] 61 fun x9 =>
    agr (like x3 1 w5) <|
    agr (like x6 1 w8) <|
    st x9 (.agg (Agg.cells (Tapi_Frame.mk ((andI .u8 x4 (128 : Int)) != (0 : Int)) (IntKind.wrap .i64 (andI .u8 x7 (15 : Int))) false (0 : Int) (0 : Int) (0 : Int) (0 : Int) (ByteArray.mk #[]))).toArray) <|
    ldI .i64 (x9.add 1) fun x10 =>
    bnd (frame_Control K x10) fun x11 =>
    ixA a0 (0 : Int) 1 fun x12 =>
    ldI .u8 x12 fun x13 =>
    bnd (
      if ((andI .u8 x13 (112 : Int)) != (0 : Int)) = true then
        ret true
      else
        ldI .i64 (x9.add 1) fun x15 =>
        bnd (frame_known K x15) fun x16 =>
        ret (!x16)) fun (x14 : Bool) =>
    bnd (
      if x14 = true then
        ret true
      else
        bnd (
          if x11 = true then
            ldB (x9.add 0) fun x19 =>
            ret (!x19)
          else
            ret false) fun (x18 : Bool) =>
        ret x18) fun (x17 : Bool) =>
    bnd (
      if x17 = true then
        ret true
      else
        bnd (
          if x11 = true then
            ret (decide ((1 : Int) < (a0.n : Int)))
          else
            ret false) fun (x21 : Bool) =>
        bnd (
          if x21 = true then
            ixA a0 (1 : Int) 1 fun x23 =>
            ldI .u8 x23 fun x24 =>
            ret (decide ((125 : Int) < (andI .u8 x24 (127 : Int))))
          else
            ret false) fun (x22 : Bool) =>
        ret x22) fun (x20 : Bool) =>
    if x20 = true then
      st x1 (.agg (Agg.cells (Tapi_Frame.mk false (0 : Int) false (0 : Int) (0 : Int) (0 : Int) (0 : Int) (ByteArray.mk #[]))).toArray) <|
      ldG (α := Tapi_Frame) x1 fun r25 =>
      ret (r25, (0 : Int), (91 : Int))
    else
      slS a0 (some (1 : Int)) none none 1 fun x26 =>
      bnd (mask_Get K x26) fun x27 =>
      lt (x27.2.2 == (81 : Int)) fun x28 =>
      if x28 = true then
        st x1 (.agg (Agg.cells (Tapi_Frame.mk false (0 : Int) false (0 : Int) (0 : Int) (0 : Int) (0 : Int) (ByteArray.mk #[]))).toArray) <|
        ldG (α := Tapi_Frame) x1 fun r29 =>
        ret (r29, (0 : Int), (91 : Int))
      else
        lt (x27.2.2 != (0 : Int)) fun x30 =>
        if x30 = true then
          st x1 (.agg (Agg.cells (Tapi_Frame.mk false (0 : Int) false (0 : Int) (0 : Int) (0 : Int) (0 : Int) (ByteArray.mk #[]))).toArray) <|
          ldG (α := Tapi_Frame) x1 fun r31 =>
          ret (r31, (0 : Int), (90 : Int))
        else
          bnd (
            if (decide (a1 < (0 : Int))) = true then
              ret true
            else
              ret (decide ((IntKind.wrap .u64 a1) < x27.1))) fun (x32 : Bool) =>
          if x32 = true then
            st x1 (.agg (Agg.cells (Tapi_Frame.mk false (0 : Int) false (0 : Int) (0 : Int) (0 : Int) (0 : Int) (ByteArray.mk #[]))).toArray) <|
            ldG (α := Tapi_Frame) x1 fun r33 =>
            ret (r33, (0 : Int), (92 : Int))
          else
            lt (IntKind.wrap .i64 ((1 : Int) + x27.2.1)) fun x34 =>
            ixA a0 (1 : Int) 1 fun x35 =>
            ldI .u8 x35 fun x36 =>
            st (x9.add 2) (.bool ((andI .u8 x36 (128 : Int)) != (0 : Int))) <|
            ldB (x9.add 2) fun x37 =>
            bnd (
              if x37 = true then
                if (decide ((a0.n : Int) < (IntKind.wrap .i64 (x34 + (4 : Int))))) = true then
                  st x1 (.agg (Agg.cells (Tapi_Frame.mk false (0 : Int) false (0 : Int) (0 : Int) (0 : Int) (0 : Int) (ByteArray.mk #[]))).toArray) <|
                  inr (
                    ldG (α := Tapi_Frame) x1 fun r43 =>
                    ret (r43, (0 : Int), (90 : Int)))
                else
                  drw <|
                  slA (x9.add 3) 4 none none 1 fun x44 =>
                  slS a0 (some x34) none none 1 fun x45 =>
                  cpy 1 x44 x45 fun x46 =>
                  lt (IntKind.wrap .i64 (x34 + x46)) fun x47 =>
                  ret (.inl (x47))
              else
                ret (.inl (x34))) (sumK fun (s48 : Int) =>
            if (decide ((IntKind.wrap .u64 (IntKind.wrap .i64 ((a0.n : Int) - s48))) < x27.1)) = true then
              st x1 (.agg (Agg.cells (Tapi_Frame.mk false (0 : Int) false (0 : Int) (0 : Int) (0 : Int) (0 : Int) (ByteArray.mk #[]))).toArray) <|
              ldG (α := Tapi_Frame) x1 fun r49 =>
              ret (r49, (0 : Int), (90 : Int))
            else
              lt (IntKind.wrap .i64 (s48 + (IntKind.wrap .i64 x27.1))) fun x50 =>
              drw <|
              ldG (α := A4u8) (x9.add 3) fun x51 =>
              slS a0 (some s48) (some x50) none 1 fun x52 =>
              bnd (mask_Apply K x51 (0 : Int) x52) fun x53 =>
              strOf x53 fun x54 =>
              st (x9.add 7) (.string x54) <|
              ldG (α := Tapi_Frame) x9 fun x55 =>
              st x1 (.agg (Agg.cells x55).toArray) <|
              ldG (α := Tapi_Frame) x1 fun r56 =>
              ret (r56, x50, (0 : Int)))
set_option maxRecDepth 100000 in
theorem frame_Get_ref (K : Nat) (a0 : Sl) (a1 : Int) : Does Tryz.prog 138 [.slice a0.a a0.n a0.c, .int .i64 a1] (frame_Get K a0 a1) (fun r => .tuple #[.agg (Agg.cells r.1).toArray, .int .i64 r.2.1, .int .i64 r.2.2]) := by
  refine Does.of Tryz.func138 rfl rfl rfl ?_
  unfold frame_Get
  refine RefC.seq ?_
  refine RefC.region ?_
  refine RefL.hv rfl rfl (Hv.newZ Tryz.zeroValue61 rfl fun x1 => ?_)
  refine RefL.pure rfl rfl (RanP.assign rfl) ?_
  refine RefL.pure rfl rfl (RanP.assign rfl) ?_
  refine RefL.nil ?_
  refine RefE.next ?_
  refine RefC.seq ?_
  refine RefC.seq ?_
  refine RefC.region ?_
  refine RefL.pure rfl rfl (RanP.move rfl) ?_
  refine RefL.pure rfl rfl (RanP.lenSl rfl Tryz.underlying49 rfl) ?_
  refine RefL.pure rfl rfl (RanP.eql rfl rfl) ?_
  refine RefL.nil ?_
  refine RefE.next ?_
  refine RefC.cond rfl ?_ ?_
  · refine RefC.seq ?_
    refine RefC.region ?_
    refine RefL.pure rfl rfl (RanP.build rfl (v := .agg (Agg.cells (Tapi_Frame.mk false (0 : Int) false (0 : Int) (0 : Int) (0 : Int) (0 : Int) (ByteArray.mk #[]))).toArray) (fun _ => by kernel_rfl)) ?_
    refine RefL.hv rfl rfl (Hv.st Tryz.sizeOf61 rfl rfl rfl ?_)
    refine RefL.pure rfl rfl (RanP.assign rfl) ?_
    refine RefL.pure rfl rfl (RanP.assign rfl) ?_
    refine RefL.nil ?_
    refine RefE.next ?_
    refine RefC.ret ?_
    refine RefE.thenRet ?_
    refine RefE.retV rfl ?_
    refine RefV.cellG Tryz.isAgg61 Tryz.sizeOf61 rfl fun r2 => ?_
    refine RefV.tmp rfl ?_
    refine RefV.tmp rfl ?_
    exact RefV.nil rfl
  · refine RefC.skip ?_
    refine RefE.next ?_
    refine RefC.seq ?_
    refine RefC.draw mixed [0, 1, 3, 7, 15, 0, 32, 96, 224, 480, 1023, 0, 4095] [.lp 0, .lp 1, .li 2, .lp 3, .lp 4, .lp 5, .lp 6, .li 7, .lp 8, .lp 9, .lp 10, .hv 11, .re 2, .re 7, .hv 12] (by kernel_rfl) ?_
    refine RefD.pure (at_ rfl) rfl (RanP.move rfl) ?_
    refine RefD.any (at_ rfl) rfl (Lt.ixA Tryz.underlying49 Tryz.sizeOf5 rfl rfl fun x3 => ?_)
    refine RefD.li (at_ rfl) rfl fun w5 => (Lt.ldI Tryz.isAgg5 rfl fun x4 => ?_)
    refine RefD.pure (at_ rfl) rfl (RanP.and rfl rfl) ?_
    refine RefD.pure (at_ rfl) rfl (RanP.neq rfl rfl) ?_
    refine RefD.pure (at_ rfl) rfl (RanP.move rfl) ?_
    refine RefD.any (at_ rfl) rfl (Lt.ixA Tryz.underlying49 Tryz.sizeOf5 rfl rfl fun x6 => ?_)
    refine RefD.li (at_ rfl) rfl fun w8 => (Lt.ldI Tryz.isAgg5 rfl fun x7 => ?_)
    refine RefD.pure (at_ rfl) rfl (RanP.and rfl rfl) ?_
    refine RefD.pure (at_ rfl) rfl (RanP.conv Tryz.underlying5 Tryz.underlying3 rfl) ?_
    refine RefD.pure (at_ rfl) rfl (RanP.build rfl (v := .agg (Agg.cells (Tapi_Frame.mk ((andI .u8 x4 (128 : Int)) != (0 : Int)) (IntKind.wrap .i64 (andI .u8 x7 (15 : Int))) false (0 : Int) (0 : Int) (0 : Int) (0 : Int) (ByteArray.mk #[]))).toArray) (fun _ => by kernel_rfl)) ?_
    refine RefD.hv (at_ rfl) rfl (Hv.newZ Tryz.zeroValue61 rfl fun x9 => ?_)
    refine RefD.re rfl ?_
    refine RefD.re rfl ?_
    refine RefD.hv (at_ rfl) rfl (Hv.st Tryz.sizeOf61 rfl rfl rfl ?_)
    refine RefD.nil ?_
    refine RefE.next ?_
    refine RefC.seq ?_
    refine RefC.region ?_
    refine RefL.pure rfl rfl (RanP.fieldAddr fa_61_1 rfl) ?_
    refine RefL.li rfl rfl (Lt.ldI Tryz.isAgg3 rfl fun x10 => ?_)
    refine RefL.hv rfl rfl (Hv.call (frame_Control_ref K x10) Tryz.call142 rfl rfl rfl fun x11 => ?_)
    refine RefL.pure rfl rfl (RanP.assign rfl) ?_
    refine RefL.nil ?_
    refine RefE.next ?_
    refine RefC.seq ?_
    refine RefC.seq ?_
    refine RefC.region ?_
    refine RefL.pure rfl rfl (RanP.move rfl) ?_
    refine RefL.li rfl rfl (Lt.ixA Tryz.underlying49 Tryz.sizeOf5 rfl rfl fun x12 => ?_)
    refine RefL.li rfl rfl (Lt.ldI Tryz.isAgg5 rfl fun x13 => ?_)
    refine RefL.pure rfl rfl (RanP.and rfl rfl) ?_
    refine RefL.pure rfl rfl (RanP.neq rfl rfl) ?_
    refine RefL.pure rfl rfl (RanP.move rfl) ?_
    refine RefL.cut (enc := fun (x14 : Bool) => ([(42, .bool x14), (0, .slice a0.a a0.n a0.c), (1, .int .i64 a1), (4, .pointer (some x1)), (7, .pointer (some x9)), (8, .bool x11)] : Env)) 5 ?_ ?_
    · refine RefL.ite (s := 37) rfl ?_ ?_
      · refine RefL.skip rfl rfl ?_
        refine RefL.skip rfl rfl ?_
        refine RefL.skip rfl rfl ?_
        refine RefL.skip rfl rfl ?_
        refine RefL.pure rfl rfl (RanP.pickT rfl rfl) ?_
        refine RefL.nil ?_
        exact RefE.fin (s := true) ⟨rfl, rfl, rfl, rfl, rfl, rfl, trivial⟩
      · refine RefL.pure rfl rfl (RanP.fieldAddr fa_61_1 rfl) ?_
        refine RefL.li rfl rfl (Lt.ldI Tryz.isAgg3 rfl fun x15 => ?_)
        refine RefL.hv rfl rfl (Hv.call (frame_known_ref K x15) Tryz.call163 rfl rfl rfl fun x16 => ?_)
        refine RefL.pure rfl rfl (RanP.not rfl) ?_
        refine RefL.pure rfl rfl (RanP.pickF rfl rfl) ?_
        refine RefL.nil ?_
        exact RefE.fin (s := (!x16)) ⟨rfl, rfl, rfl, rfl, rfl, rfl, trivial⟩
    · intro x14
      refine RefL.pure rfl rfl (RanP.move rfl) ?_
      refine RefL.cut (enc := fun (x17 : Bool) => ([(50, .bool x17), (0, .slice a0.a a0.n a0.c), (1, .int .i64 a1), (4, .pointer (some x1)), (7, .pointer (some x9)), (8, .bool x11)] : Env)) 7 ?_ ?_
      · refine RefL.ite (s := 43) rfl ?_ ?_
        · refine RefL.skip rfl rfl ?_
          refine RefL.skip rfl rfl ?_
          refine RefL.skip rfl rfl ?_
          refine RefL.skip rfl rfl ?_
          refine RefL.skip rfl rfl ?_
          refine RefL.skip rfl rfl ?_
          refine RefL.pure rfl rfl (RanP.pickT rfl rfl) ?_
          refine RefL.nil ?_
          exact RefE.fin (s := true) ⟨rfl, rfl, rfl, rfl, rfl, rfl, trivial⟩
        · refine RefL.pure rfl rfl (RanP.move rfl) ?_
          refine RefL.pure rfl rfl (RanP.move rfl) ?_
          refine RefL.cut (enc := fun (x18 : Bool) => ([(49, .bool x18), (0, .slice a0.a a0.n a0.c), (1, .int .i64 a1), (4, .pointer (some x1)), (7, .pointer (some x9)), (8, .bool x11), (43, .bool false)] : Env)) 4 ?_ ?_
          · refine RefL.ite (s := 45) rfl ?_ ?_
            · refine RefL.pure rfl rfl (RanP.fieldAddr fa_61_0 rfl) ?_
              refine RefL.li rfl rfl (Lt.ldB Tryz.isAgg4 rfl fun x19 => ?_)
              refine RefL.pure rfl rfl (RanP.not rfl) ?_
              refine RefL.pure rfl rfl (RanP.pickT rfl rfl) ?_
              refine RefL.nil ?_
              exact RefE.fin (s := (!x19)) ⟨rfl, rfl, rfl, rfl, rfl, rfl, rfl, trivial⟩
            · refine RefL.skip rfl rfl ?_
              refine RefL.skip rfl rfl ?_
              refine RefL.skip rfl rfl ?_
              refine RefL.pure rfl rfl (RanP.pickF rfl rfl) ?_
              refine RefL.nil ?_
              exact RefE.fin (s := false) ⟨rfl, rfl, rfl, rfl, rfl, rfl, rfl, trivial⟩
          · intro x18
            refine RefL.pure rfl rfl (RanP.pickF rfl rfl) ?_
            refine RefL.nil ?_
            exact RefE.fin (s := x18) ⟨rfl, rfl, rfl, rfl, rfl, rfl, trivial⟩
      · intro x17
        refine RefL.pure rfl rfl (RanP.move rfl) ?_
        refine RefL.cut (enc := fun (x20 : Bool) => ([(65, .bool x20), (0, .slice a0.a a0.n a0.c), (1, .int .i64 a1), (4, .pointer (some x1)), (7, .pointer (some x9))] : Env)) 14 ?_ ?_
        · refine RefL.ite (s := 51) rfl ?_ ?_
          · refine RefL.skip rfl rfl ?_
            refine RefL.skip rfl rfl ?_
            refine RefL.skip rfl rfl ?_
            refine RefL.skip rfl rfl ?_
            refine RefL.skip rfl rfl ?_
            refine RefL.skip rfl rfl ?_
            refine RefL.skip rfl rfl ?_
            refine RefL.skip rfl rfl ?_
            refine RefL.skip rfl rfl ?_
            refine RefL.skip rfl rfl ?_
            refine RefL.skip rfl rfl ?_
            refine RefL.skip rfl rfl ?_
            refine RefL.skip rfl rfl ?_
            refine RefL.pure rfl rfl (RanP.pickT rfl rfl) ?_
            refine RefL.nil ?_
            exact RefE.fin (s := true) ⟨rfl, rfl, rfl, rfl, rfl, trivial⟩
          · refine RefL.pure rfl rfl (RanP.move rfl) ?_
            refine RefL.pure rfl rfl (RanP.move rfl) ?_
            refine RefL.cut (enc := fun (x21 : Bool) => ([(57, .bool x21), (0, .slice a0.a a0.n a0.c), (1, .int .i64 a1), (4, .pointer (some x1)), (7, .pointer (some x9)), (51, .bool false)] : Env)) 4 ?_ ?_
            · refine RefL.ite (s := 53) rfl ?_ ?_
              · refine RefL.pure rfl rfl (RanP.move rfl) ?_
                refine RefL.pure rfl rfl (RanP.lenSl rfl Tryz.underlying49 rfl) ?_
                refine RefL.pure rfl rfl (RanP.gtr rfl rfl) ?_
                refine RefL.pure rfl rfl (RanP.pickT rfl rfl) ?_
                refine RefL.nil ?_
                exact RefE.fin (s := (decide ((1 : Int) < (a0.n : Int)))) ⟨rfl, rfl, rfl, rfl, rfl, rfl, trivial⟩
              · refine RefL.skip rfl rfl ?_
                refine RefL.skip rfl rfl ?_
                refine RefL.skip rfl rfl ?_
                refine RefL.pure rfl rfl (RanP.pickF rfl rfl) ?_
                refine RefL.nil ?_
                exact RefE.fin (s := false) ⟨rfl, rfl, rfl, rfl, rfl, rfl, trivial⟩
            · intro x21
              refine RefL.pure rfl rfl (RanP.move rfl) ?_
              refine RefL.cut (enc := fun (x22 : Bool) => ([(64, .bool x22), (0, .slice a0.a a0.n a0.c), (1, .int .i64 a1), (4, .pointer (some x1)), (7, .pointer (some x9)), (51, .bool false)] : Env)) 6 ?_ ?_
              · refine RefL.ite (s := 58) rfl ?_ ?_
                · refine RefL.pure rfl rfl (RanP.move rfl) ?_
                  refine RefL.li rfl rfl (Lt.ixA Tryz.underlying49 Tryz.sizeOf5 rfl rfl fun x23 => ?_)
                  refine RefL.li rfl rfl (Lt.ldI Tryz.isAgg5 rfl fun x24 => ?_)
                  refine RefL.pure rfl rfl (RanP.and rfl rfl) ?_
                  refine RefL.pure rfl rfl (RanP.gtr rfl rfl) ?_
                  refine RefL.pure rfl rfl (RanP.pickT rfl rfl) ?_
                  refine RefL.nil ?_
                  exact RefE.fin (s := (decide ((125 : Int) < (andI .u8 x24 (127 : Int))))) ⟨rfl, rfl, rfl, rfl, rfl, rfl, trivial⟩
                · refine RefL.skip rfl rfl ?_
                  refine RefL.skip rfl rfl ?_
                  refine RefL.skip rfl rfl ?_
                  refine RefL.skip rfl rfl ?_
                  refine RefL.skip rfl rfl ?_
                  refine RefL.pure rfl rfl (RanP.pickF rfl rfl) ?_
                  refine RefL.nil ?_
                  exact RefE.fin (s := false) ⟨rfl, rfl, rfl, rfl, rfl, rfl, trivial⟩
              · intro x22
                refine RefL.pure rfl rfl (RanP.pickF rfl rfl) ?_
                refine RefL.nil ?_
                exact RefE.fin (s := x22) ⟨rfl, rfl, rfl, rfl, rfl, trivial⟩
        · intro x20
          refine RefL.nil ?_
          refine RefE.next ?_
          refine RefC.cond rfl ?_ ?_
          · refine RefC.seq ?_
            refine RefC.region ?_
            refine RefL.pure rfl rfl (RanP.build rfl (v := .agg (Agg.cells (Tapi_Frame.mk false (0 : Int) false (0 : Int) (0 : Int) (0 : Int) (0 : Int) (ByteArray.mk #[]))).toArray) (fun _ => by kernel_rfl)) ?_
            refine RefL.hv rfl rfl (Hv.st Tryz.sizeOf61 rfl rfl rfl ?_)
            refine RefL.pure rfl rfl (RanP.assign rfl) ?_
            refine RefL.pure rfl rfl (RanP.assign rfl) ?_
            refine RefL.nil ?_
            refine RefE.next ?_
            refine RefC.ret ?_
            refine RefE.thenRet ?_
            refine RefE.retV rfl ?_
            refine RefV.cellG Tryz.isAgg61 Tryz.sizeOf61 rfl fun r25 => ?_
            refine RefV.tmp rfl ?_
            refine RefV.tmp rfl ?_
            exact RefV.nil rfl
          · refine RefC.skip ?_
            refine RefE.next ?_
            refine RefC.seq ?_
            refine RefC.region ?_
            refine RefL.pure rfl rfl (RanP.move rfl) ?_
            refine RefL.li rfl rfl (Lt.slS (kl := .i64) (kh := .i64) (km := .i64) Tryz.underlying49 Tryz.sizeOf5 rfl rfl rfl rfl (by simp) fun x26 => ?_)
            refine RefL.hv rfl rfl (Hv.call (mask_Get_ref K x26) Tryz.call164 rfl rfl rfl fun x27 => ?_)
            refine RefL.pure rfl rfl (RanP.move rfl) ?_
            refine RefL.pure rfl rfl (RanP.extract rfl rfl) ?_
            refine RefL.pure rfl rfl (RanP.extract rfl rfl) ?_
            refine RefL.pure rfl rfl (RanP.extract rfl rfl) ?_
            refine RefL.pure rfl rfl (RanP.assign rfl) ?_
            refine RefL.pure rfl rfl (RanP.assign rfl) ?_
            refine RefL.pure rfl rfl (RanP.assign rfl) ?_
            refine RefL.nil ?_
            refine RefE.next ?_
            refine RefC.seq ?_
            refine RefC.block ?_
            refine RefC.seq ?_
            refine RefC.region ?_
            refine RefL.pure rfl rfl (RanP.move rfl) ?_
            refine RefL.pure rfl rfl (RanP.eql rfl rfl) ?_
            refine RefL.pure rfl rfl (RanP.assign rfl) ?_
            refine RefL.lt 74 (fun y => .bool y) rfl fun x28 => ?_
            refine RefL.nil ?_
            refine RefE.next ?_
            refine RefC.cond rfl ?_ ?_
            · refine RefC.seq ?_
              refine RefC.region ?_
              refine RefL.pure rfl rfl (RanP.build rfl (v := .agg (Agg.cells (Tapi_Frame.mk false (0 : Int) false (0 : Int) (0 : Int) (0 : Int) (0 : Int) (ByteArray.mk #[]))).toArray) (fun _ => by kernel_rfl)) ?_
              refine RefL.hv rfl rfl (Hv.st Tryz.sizeOf61 rfl rfl rfl ?_)
              refine RefL.pure rfl rfl (RanP.assign rfl) ?_
              refine RefL.pure rfl rfl (RanP.assign rfl) ?_
              refine RefL.nil ?_
              refine RefE.next ?_
              refine RefC.ret ?_
              refine RefE.blockRet ?_
              refine RefE.thenRet ?_
              refine RefE.retV rfl ?_
              refine RefV.cellG Tryz.isAgg61 Tryz.sizeOf61 rfl fun r29 => ?_
              refine RefV.tmp rfl ?_
              refine RefV.tmp rfl ?_
              exact RefV.nil rfl
            · refine RefC.seq ?_
              refine RefC.region ?_
              refine RefL.pure rfl rfl (RanP.move rfl) ?_
              refine RefL.pure rfl rfl (RanP.neq rfl rfl) ?_
              refine RefL.pure rfl rfl (RanP.assign rfl) ?_
              refine RefL.lt 78 (fun y => .bool y) rfl fun x30 => ?_
              refine RefL.nil ?_
              refine RefE.next ?_
              refine RefC.cond rfl ?_ ?_
              · refine RefC.seq ?_
                refine RefC.region ?_
                refine RefL.pure rfl rfl (RanP.build rfl (v := .agg (Agg.cells (Tapi_Frame.mk false (0 : Int) false (0 : Int) (0 : Int) (0 : Int) (0 : Int) (ByteArray.mk #[]))).toArray) (fun _ => by kernel_rfl)) ?_
                refine RefL.hv rfl rfl (Hv.st Tryz.sizeOf61 rfl rfl rfl ?_)
                refine RefL.pure rfl rfl (RanP.assign rfl) ?_
                refine RefL.pure rfl rfl (RanP.assign rfl) ?_
                refine RefL.nil ?_
                refine RefE.next ?_
                refine RefC.ret ?_
                refine RefE.blockRet ?_
                refine RefE.thenRet ?_
                refine RefE.retV rfl ?_
                refine RefV.cellG Tryz.isAgg61 Tryz.sizeOf61 rfl fun r31 => ?_
                refine RefV.tmp rfl ?_
                refine RefV.tmp rfl ?_
                exact RefV.nil rfl
              · refine RefC.seq ?_
                refine RefC.region ?_
                refine RefL.pure rfl rfl (RanP.move rfl) ?_
                refine RefL.pure rfl rfl (RanP.lss rfl rfl) ?_
                refine RefL.pure rfl rfl (RanP.move rfl) ?_
                refine RefL.cut (enc := fun (x32 : Bool) => ([(90, .bool x32), (0, .slice a0.a a0.n a0.c), (4, .pointer (some x1)), (7, .pointer (some x9)), (9, .int .u64 x27.1), (10, .int .i64 x27.2.1)] : Env)) 5 ?_ ?_
                · refine RefL.ite (s := 85) rfl ?_ ?_
                  · refine RefL.skip rfl rfl ?_
                    refine RefL.skip rfl rfl ?_
                    refine RefL.skip rfl rfl ?_
                    refine RefL.skip rfl rfl ?_
                    refine RefL.pure rfl rfl (RanP.pickT rfl rfl) ?_
                    refine RefL.nil ?_
                    exact RefE.fin (s := true) ⟨rfl, rfl, rfl, rfl, rfl, rfl, trivial⟩
                  · refine RefL.pure rfl rfl (RanP.move rfl) ?_
                    refine RefL.pure rfl rfl (RanP.move rfl) ?_
                    refine RefL.pure rfl rfl (RanP.conv Tryz.underlying3 Tryz.underlying146 rfl) ?_
                    refine RefL.pure rfl rfl (RanP.gtr rfl rfl) ?_
                    refine RefL.pure rfl rfl (RanP.pickF rfl rfl) ?_
                    refine RefL.nil ?_
                    exact RefE.fin (s := (decide ((IntKind.wrap .u64 a1) < x27.1))) ⟨rfl, rfl, rfl, rfl, rfl, rfl, trivial⟩
                · intro x32
                  refine RefL.pure rfl rfl (RanP.assign rfl) ?_
                  refine RefL.nil ?_
                  refine RefE.next ?_
                  refine RefC.cond rfl ?_ ?_
                  · refine RefC.seq ?_
                    refine RefC.region ?_
                    refine RefL.pure rfl rfl (RanP.build rfl (v := .agg (Agg.cells (Tapi_Frame.mk false (0 : Int) false (0 : Int) (0 : Int) (0 : Int) (0 : Int) (ByteArray.mk #[]))).toArray) (fun _ => by kernel_rfl)) ?_
                    refine RefL.hv rfl rfl (Hv.st Tryz.sizeOf61 rfl rfl rfl ?_)
                    refine RefL.pure rfl rfl (RanP.assign rfl) ?_
                    refine RefL.pure rfl rfl (RanP.assign rfl) ?_
                    refine RefL.nil ?_
                    refine RefE.next ?_
                    refine RefC.ret ?_
                    refine RefE.blockRet ?_
                    refine RefE.thenRet ?_
                    refine RefE.retV rfl ?_
                    refine RefV.cellG Tryz.isAgg61 Tryz.sizeOf61 rfl fun r33 => ?_
                    refine RefV.tmp rfl ?_
                    refine RefV.tmp rfl ?_
                    exact RefV.nil rfl
                  · refine RefC.skip ?_
                    refine RefE.blockNormal ?_
                    refine RefE.next ?_
                    refine RefC.seq ?_
                    refine RefC.region ?_
                    refine RefL.pure rfl rfl (RanP.move rfl) ?_
                    refine RefL.pure rfl rfl (RanP.add rfl rfl) ?_
                    refine RefL.pure rfl rfl (RanP.assign rfl) ?_
                    refine RefL.lt 12 (fun y => .int .i64 y) rfl fun x34 => ?_
                    refine RefL.nil ?_
                    refine RefE.next ?_
                    refine RefC.seq ?_
                    refine RefC.region ?_
                    refine RefL.pure rfl rfl (RanP.move rfl) ?_
                    refine RefL.li rfl rfl (Lt.ixA Tryz.underlying49 Tryz.sizeOf5 rfl rfl fun x35 => ?_)
                    refine RefL.li rfl rfl (Lt.ldI Tryz.isAgg5 rfl fun x36 => ?_)
                    refine RefL.pure rfl rfl (RanP.and rfl rfl) ?_
                    refine RefL.pure rfl rfl (RanP.neq rfl rfl) ?_
                    refine RefL.pure rfl rfl (RanP.fieldAddr fa_61_2 rfl) ?_
                    refine RefL.hv rfl rfl (Hv.st Tryz.sizeOf4 rfl rfl rfl ?_)
                    refine RefL.nil ?_
                    refine RefE.next ?_
                    refine RefC.seq ?_
                    refine RefC.seq ?_
                    refine RefC.region ?_
                    refine RefL.pure rfl rfl (RanP.fieldAddr fa_61_2 rfl) ?_
                    refine RefL.li rfl rfl (Lt.ldB Tryz.isAgg4 rfl fun x37 => ?_)
                    refine RefL.nil ?_
                    refine RefE.next ?_
                    refine RefC.cutSum (enc := fun (s48 : Int) => ([(12, .int .i64 s48), (0, .slice a0.a a0.n a0.c), (4, .pointer (some x1)), (7, .pointer (some x9)), (9, .int .u64 x27.1)] : Env)) (KThen.mono KRet.mono) ?_ ?_
                    · refine RefC.cond rfl ?_ ?_
                      · refine RefC.seq ?_
                        refine RefC.seq ?_
                        refine RefC.region ?_
                        refine RefL.pure rfl rfl (RanP.move rfl) ?_
                        refine RefL.pure rfl rfl (RanP.lenSl rfl Tryz.underlying49 rfl) ?_
                        refine RefL.pure rfl rfl (RanP.move rfl) ?_
                        refine RefL.pure rfl rfl (RanP.add rfl rfl) ?_
                        refine RefL.pure rfl rfl (RanP.lss rfl rfl) ?_
                        refine RefL.nil ?_
                        refine RefE.next ?_
                        refine RefC.cond rfl ?_ ?_
                        · refine RefC.seq ?_
                          refine RefC.region ?_
                          refine RefL.pure rfl rfl (RanP.build rfl (v := .agg (Agg.cells (Tapi_Frame.mk false (0 : Int) false (0 : Int) (0 : Int) (0 : Int) (0 : Int) (ByteArray.mk #[]))).toArray) (fun _ => by kernel_rfl)) ?_
                          refine RefL.hv rfl rfl (Hv.st Tryz.sizeOf61 rfl rfl rfl ?_)
                          refine RefL.pure rfl rfl (RanP.assign rfl) ?_
                          refine RefL.pure rfl rfl (RanP.assign rfl) ?_
                          refine RefL.nil ?_
                          refine RefE.next ?_
                          refine RefC.ret ?_
                          refine RefE.thenRet ?_
                          refine RefE.finR ?_
                          refine RefE.thenRet ?_
                          refine RefE.retV rfl ?_
                          refine RefV.cellG Tryz.isAgg61 Tryz.sizeOf61 rfl fun r43 => ?_
                          refine RefV.tmp rfl ?_
                          refine RefV.tmp rfl ?_
                          exact RefV.nil rfl
                        · refine RefC.skip ?_
                          refine RefE.next ?_
                          refine RefC.draw mixed [0, 0, 2, 0, 0, 24, 62, 127, 255] [.lp 0, .lp 1, .lp 2, .lp 3, .lp 4, .lp 5, .hv 6, .lp 7, .lp 8] (by kernel_rfl) ?_
                          refine RefD.pure (at_ rfl) rfl (RanP.move rfl) ?_
                          refine RefD.pure (at_ rfl) rfl (RanP.fieldAddr fa_61_3 rfl) ?_
                          refine RefD.any (at_ rfl) rfl (Lt.slA (kl := .i64) (kh := .i64) Tryz.underlying59 Tryz.sizeOf5 rfl rfl rfl fun x44 => ?_)
                          refine RefD.pure (at_ rfl) rfl (RanP.move rfl) ?_
                          refine RefD.pure (at_ rfl) rfl (RanP.move rfl) ?_
                          refine RefD.any (at_ rfl) rfl (Lt.slS (kl := .i64) (kh := .i64) (km := .i64) Tryz.underlying49 Tryz.sizeOf5 rfl rfl rfl rfl (by simp) fun x45 => ?_)
                          refine RefD.hv (at_ rfl) rfl (Hv.cpy rfl Tryz.underlying49 Tryz.sizeOf5 rfl fun x46 => ?_)
                          refine RefD.pure (at_ rfl) rfl (RanP.add rfl rfl) ?_
                          refine RefD.pure (at_ rfl) rfl (RanP.assign rfl) ?_
                          refine RefD.lt 12 (fun y => .int .i64 y) rfl fun x47 => ?_
                          refine RefD.nil ?_
                          exact RefE.finL (s := (x47)) ⟨rfl, rfl, rfl, rfl, rfl, trivial⟩
                      · refine RefC.skip ?_
                        exact RefE.finL (s := (x34)) ⟨rfl, rfl, rfl, rfl, rfl, trivial⟩
                    · intro s48
                      refine RefE.next ?_
                      refine RefC.seq ?_
                      refine RefC.seq ?_
                      refine RefC.region ?_
                      refine RefL.pure rfl rfl (RanP.move rfl) ?_
                      refine RefL.pure rfl rfl (RanP.lenSl rfl Tryz.underlying49 rfl) ?_
                      refine RefL.pure rfl rfl (RanP.move rfl) ?_
                      refine RefL.pure rfl rfl (RanP.sub rfl rfl) ?_
                      refine RefL.pure rfl rfl (RanP.conv Tryz.underlying3 Tryz.underlying146 rfl) ?_
                      refine RefL.pure rfl rfl (RanP.move rfl) ?_
                      refine RefL.pure rfl rfl (RanP.lss rfl rfl) ?_
                      refine RefL.nil ?_
                      refine RefE.next ?_
                      refine RefC.cond rfl ?_ ?_
                      · refine RefC.seq ?_
                        refine RefC.region ?_
                        refine RefL.pure rfl rfl (RanP.build rfl (v := .agg (Agg.cells (Tapi_Frame.mk false (0 : Int) false (0 : Int) (0 : Int) (0 : Int) (0 : Int) (ByteArray.mk #[]))).toArray) (fun _ => by kernel_rfl)) ?_
                        refine RefL.hv rfl rfl (Hv.st Tryz.sizeOf61 rfl rfl rfl ?_)
                        refine RefL.pure rfl rfl (RanP.assign rfl) ?_
                        refine RefL.pure rfl rfl (RanP.assign rfl) ?_
                        refine RefL.nil ?_
                        refine RefE.next ?_
                        refine RefC.ret ?_
                        refine RefE.thenRet ?_
                        refine RefE.retV rfl ?_
                        refine RefV.cellG Tryz.isAgg61 Tryz.sizeOf61 rfl fun r49 => ?_
                        refine RefV.tmp rfl ?_
                        refine RefV.tmp rfl ?_
                        exact RefV.nil rfl
                      · refine RefC.skip ?_
                        refine RefE.next ?_
                        refine RefC.seq ?_
                        refine RefC.region ?_
                        refine RefL.pure rfl rfl (RanP.move rfl) ?_
                        refine RefL.pure rfl rfl (RanP.move rfl) ?_
                        refine RefL.pure rfl rfl (RanP.conv Tryz.underlying146 Tryz.underlying3 rfl) ?_
                        refine RefL.pure rfl rfl (RanP.add rfl rfl) ?_
                        refine RefL.pure rfl rfl (RanP.assign rfl) ?_
                        refine RefL.lt 13 (fun y => .int .i64 y) rfl fun x50 => ?_
                        refine RefL.nil ?_
                        refine RefE.next ?_
                        refine RefC.seq ?_
                        refine RefC.draw mixed [0, 1, 0, 0, 0, 28, 63, 127, 255, 511] [.lp 0, .li 1, .lp 2, .lp 3, .lp 4, .lp 5, .hv 6, .li 7, .lp 8, .hv 9] (by kernel_rfl) ?_
                        refine RefD.pure (at_ rfl) rfl (RanP.fieldAddr fa_61_3 rfl) ?_
                        refine RefD.li0 (at_ rfl) rfl (Lt.ldG (τ := A4u8) Tryz.isAgg59 Tryz.sizeOf59 rfl fun x51 => ?_)
                        refine RefD.pure (at_ rfl) rfl (RanP.move rfl) ?_
                        refine RefD.pure (at_ rfl) rfl (RanP.move rfl) ?_
                        refine RefD.pure (at_ rfl) rfl (RanP.move rfl) ?_
                        refine RefD.any (at_ rfl) rfl (Lt.slS (kl := .i64) (kh := .i64) (km := .i64) Tryz.underlying49 Tryz.sizeOf5 rfl rfl rfl rfl (by simp) fun x52 => ?_)
                        refine RefD.hv (at_ rfl) rfl (Hv.call (mask_Apply_ref K x51 (0 : Int) x52) Tryz.call151 rfl rfl rfl fun x53 => ?_)
                        refine RefD.li0 (at_ rfl) rfl (Lt.strOf Tryz.underlying49 Tryz.underlying9 Tryz.underlying5 rfl fun x54 => ?_)
                        refine RefD.pure (at_ rfl) rfl (RanP.fieldAddr fa_61_4 rfl) ?_
                        refine RefD.hv (at_ rfl) rfl (Hv.st Tryz.sizeOf9 rfl rfl rfl ?_)
                        refine RefD.nil ?_
                        refine RefE.next ?_
                        refine RefC.seq ?_
                        refine RefC.region ?_
                        refine RefL.li rfl rfl (Lt.ldG (τ := Tapi_Frame) Tryz.isAgg61 Tryz.sizeOf61 rfl fun x55 => ?_)
                        refine RefL.pure rfl rfl (RanP.move rfl) ?_
                        refine RefL.hv rfl rfl (Hv.st Tryz.sizeOf61 rfl rfl rfl ?_)
                        refine RefL.pure rfl rfl (RanP.assign rfl) ?_
                        refine RefL.pure rfl rfl (RanP.assign rfl) ?_
                        refine RefL.nil ?_
                        refine RefE.next ?_
                        refine RefC.ret ?_
                        refine RefE.retV rfl ?_
                        refine RefV.cellG Tryz.isAgg61 Tryz.sizeOf61 rfl fun r56 => ?_
                        refine RefV.tmp rfl ?_
                        refine RefV.tmp rfl ?_
                        exact RefV.nil rfl

def stream_Stream_look (K : Nat) (a0 : Option Addr) : G (Tapi_Frame × Int × Int) :=
  new [.bool false, .int .i64 (0 : Int), .bool false, .int .u8 (0 : Int), .int .u8 (0 : Int), .int .u8 (0 : Int), .int .u8 (0 : Int), .string (ByteArray.mk #[])] 61 fun x1 =>
  nn a0 fun x2 =>
  ldSl (x2.add 2) fun x3 =>
  bnd (
    if (decide ((1 : Int) < (x3.n : Int))) = true then
      bnd (
        drw2 (
          nn a0 fun x61 =>
          ldSl (x61.add 2) fun x62 =>
          slS x62 none (some (1 : Int)) none 1 fun x63 =>
          nn a0 fun x64 =>
          ldI .i64 (x64.add 1) fun x65 =>
          bnd (frame_Get K x63 x65) fun x66 =>
          new [.bool false, .int .i64 (0 : Int), .bool false, .int .u8 (0 : Int), .int .u8 (0 : Int), .int .u8 (0 : Int), .int .u8 (0 : Int), .string (ByteArray.mk #[])] 61 fun x67 =>
          st x67 (.agg (Agg.cells x66.1).toArray) <|
          ret (x66.2.2)) (
          nn a0 fun x68 =>
          wld fun w70 =>
          ldSl (x68.add 2) fun x69 =>
          slS x69 none (some (1 : Int)) none 1 fun x71 =>
          nn a0 fun x72 =>
          wld fun w74 =>
          ldI .i64 (x72.add 1) fun x73 =>
          new [.bool false, .int .i64 (0 : Int), .bool false, .int .u8 (0 : Int), .int .u8 (0 : Int), .int .u8 (0 : Int), .int .u8 (0 : Int), .string (ByteArray.mk #[])] 61 fun x75 =>
          agr (like (x68.add 2) 1 w70) <|
          agr (like (x72.add 1) 1 w74) <|
          bnd (frame_Get K x71 x73) fun x76 =>
          st x75 (.agg (Agg.cells x76.1).toArray) <|
          ret (x76.2.2))) fun (s77 : Int) =>
      if (s77 == (91 : Int)) = true then
        st x1 (.agg (Agg.cells (Tapi_Frame.mk false (0 : Int) false (0 : Int) (0 : Int) (0 : Int) (0 : Int) (ByteArray.mk #[]))).toArray) <|
        inr (
          ldG (α := Tapi_Frame) x1 fun r78 =>
          ret (r78, (0 : Int), s77))
      else
        drw <|
        nn a0 fun x79 =>
        ldSl (x79.add 2) fun x80 =>
        ixA x80 (1 : Int) 1 fun x81 =>
        ldI .u8 x81 fun x82 =>
        nn a0 fun x83 =>
        ldB (x83.add 0) fun x84 =>
        if (!(((andI .u8 x82 (128 : Int)) != (0 : Int)) == x84)) = true then
          st x1 (.agg (Agg.cells (Tapi_Frame.mk false (0 : Int) false (0 : Int) (0 : Int) (0 : Int) (0 : Int) (ByteArray.mk #[]))).toArray) <|
          inr (
            ldG (α := Tapi_Frame) x1 fun r85 =>
            ret (r85, (0 : Int), (100 : Int)))
        else
          ret (.inl ())
    else
      ret (.inl ())) (sumK fun (s86 : Unit) =>
  drw <|
  nn a0 fun x87 =>
  ldSl (x87.add 2) fun x88 =>
  nn a0 fun x89 =>
  ldI .i64 (x89.add 1) fun x90 =>
  bnd (frame_Get K x88 x90) fun x91 =>
  st x1 (.agg (Agg.cells x91.1).toArray) <|
  ldG (α := Tapi_Frame) x1 fun r92 =>
  ret (r92, x91.2.1, x91.2.2))
set_option maxRecDepth 100000 in
theorem stream_Stream_look_ref (K : Nat) (a0 : Option Addr) : Does Tryz.prog 110 [.pointer a0] (stream_Stream_look K a0) (fun r => .tuple #[.agg (Agg.cells r.1).toArray, .int .i64 r.2.1, .int .i64 r.2.2]) := by
  refine Does.of Tryz.func110 rfl rfl rfl ?_
  unfold stream_Stream_look
  refine RefC.seq ?_
  refine RefC.region ?_
  refine RefL.hv rfl rfl (Hv.newZ Tryz.zeroValue61 rfl fun x1 => ?_)
  refine RefL.pure rfl rfl (RanP.assign rfl) ?_
  refine RefL.pure rfl rfl (RanP.assign rfl) ?_
  refine RefL.nil ?_
  refine RefE.next ?_
  refine RefC.seq ?_
  refine RefC.seq ?_
  refine RefC.region ?_
  refine RefL.pure rfl rfl (RanP.move rfl) ?_
  refine RefL.li rfl rfl (Lt.nn rfl fun x2 => ?_)
  refine RefL.pure rfl rfl (RanP.fieldAddr fa_159_2 rfl) ?_
  refine RefL.li rfl rfl (Lt.ldSl Tryz.isAgg49 rfl fun x3 => ?_)
  refine RefL.pure rfl rfl (RanP.lenSl rfl Tryz.underlying49 rfl) ?_
  refine RefL.pure rfl rfl (RanP.gtr rfl rfl) ?_
  refine RefL.nil ?_
  refine RefE.next ?_
  refine RefC.cutSum (enc := fun (s86 : Unit) => ([(0, .pointer a0), (2, .pointer (some x1))] : Env)) (KThen.mono KRet.mono) ?_ ?_
  · refine RefC.cond rfl ?_ ?_
    · refine RefC.seq ?_
      refine RefC.seq ?_
      refine RefC.cut (enc := fun (s77 : Int) => ([(7, .int .i64 s77), (0, .pointer a0), (2, .pointer (some x1))] : Env)) ?_ ?_
      · refine RefC.draw2 mixed [0, 1, 3, 7, 15, 0, 32, 96, 224, 511, 1023, 2047, 2047, 2047, 0, 20479, 57343, 131071] [.lp 0, .lp 1, .lp 2, .li 3, .lp 4, .lp 5, .lp 6, .lp 7, .li 8, .hv 9, .lp 10, .lp 11, .lp 12, .lp 13, .hv 14, .hv 15, .lp 16, .lp 17] [.lp 0, .lp 1, .lp 2, .li 3, .lp 4, .lp 5, .lp 6, .lp 7, .li 8, .hv 14, .re 3, .re 8, .hv 9, .lp 10, .lp 11, .lp 12, .lp 13, .hv 15, .lp 16, .lp 17] (by kernel_rfl) ?_ ?_
        · refine RefD.pure (at_ rfl) rfl (RanP.move rfl) ?_
          refine RefD.any (at_ rfl) rfl (Lt.nn rfl fun x61 => ?_)
          refine RefD.pure (at_ rfl) rfl (RanP.fieldAddr fa_159_2 rfl) ?_
          refine RefD.li0 (at_ rfl) rfl (Lt.ldSl Tryz.isAgg49 rfl fun x62 => ?_)
          refine RefD.any (at_ rfl) rfl (Lt.slS (kl := .i64) (kh := .i64) (km := .i64) Tryz.underlying49 Tryz.sizeOf5 rfl rfl rfl rfl (by simp) fun x63 => ?_)
          refine RefD.pure (at_ rfl) rfl (RanP.move rfl) ?_
          refine RefD.any (at_ rfl) rfl (Lt.nn rfl fun x64 => ?_)
          refine RefD.pure (at_ rfl) rfl (RanP.fieldAddr fa_159_1 rfl) ?_
          refine RefD.li0 (at_ rfl) rfl (Lt.ldI Tryz.isAgg3 rfl fun x65 => ?_)
          refine RefD.hv (at_ rfl) rfl (Hv.call (frame_Get_ref K x63 x65) Tryz.call138 rfl rfl rfl fun x66 => ?_)
          refine RefD.pure (at_ rfl) rfl (RanP.move rfl) ?_
          refine RefD.pure (at_ rfl) rfl (RanP.extract rfl rfl) ?_
          refine RefD.pure (at_ rfl) rfl (RanP.extract rfl rfl) ?_
          refine RefD.pure (at_ rfl) rfl (RanP.extract rfl rfl) ?_
          refine RefD.hv (at_ rfl) rfl (Hv.newZ Tryz.zeroValue61 rfl fun x67 => ?_)
          refine RefD.hv (at_ rfl) rfl (Hv.st Tryz.sizeOf61 rfl rfl rfl ?_)
          refine RefD.pure (at_ rfl) rfl (RanP.assign rfl) ?_
          refine RefD.pure (at_ rfl) rfl (RanP.assign rfl) ?_
          refine RefD.nil ?_
          exact RefE.fin (s := (x66.2.2)) ⟨rfl, rfl, rfl, trivial⟩
        · refine RefD.pure (at_ rfl) rfl (RanP.move rfl) ?_
          refine RefD.any (at_ rfl) rfl (Lt.nn rfl fun x68 => ?_)
          refine RefD.pure (at_ rfl) rfl (RanP.fieldAddr fa_159_2 rfl) ?_
          refine RefD.li (at_ rfl) rfl fun w70 => (Lt.ldSl Tryz.isAgg49 rfl fun x69 => ?_)
          refine RefD.any (at_ rfl) rfl (Lt.slS (kl := .i64) (kh := .i64) (km := .i64) Tryz.underlying49 Tryz.sizeOf5 rfl rfl rfl rfl (by simp) fun x71 => ?_)
          refine RefD.pure (at_ rfl) rfl (RanP.move rfl) ?_
          refine RefD.any (at_ rfl) rfl (Lt.nn rfl fun x72 => ?_)
          refine RefD.pure (at_ rfl) rfl (RanP.fieldAddr fa_159_1 rfl) ?_
          refine RefD.li (at_ rfl) rfl fun w74 => (Lt.ldI Tryz.isAgg3 rfl fun x73 => ?_)
          refine RefD.hv (at_ rfl) rfl (Hv.newZ Tryz.zeroValue61 rfl fun x75 => ?_)
          refine RefD.re rfl ?_
          refine RefD.re rfl ?_
          refine RefD.hv (at_ rfl) rfl (Hv.call (frame_Get_ref K x71 x73) Tryz.call138 rfl rfl rfl fun x76 => ?_)
          refine RefD.pure (at_ rfl) rfl (RanP.move rfl) ?_
          refine RefD.pure (at_ rfl) rfl (RanP.extract rfl rfl) ?_
          refine RefD.pure (at_ rfl) rfl (RanP.extract rfl rfl) ?_
          refine RefD.pure (at_ rfl) rfl (RanP.extract rfl rfl) ?_
          refine RefD.hv (at_ rfl) rfl (Hv.st Tryz.sizeOf61 rfl rfl rfl ?_)
          refine RefD.pure (at_ rfl) rfl (RanP.assign rfl) ?_
          refine RefD.pure (at_ rfl) rfl (RanP.assign rfl) ?_
          refine RefD.nil ?_
          exact RefE.fin (s := (x76.2.2)) ⟨rfl, rfl, rfl, trivial⟩
      · intro s77
        refine RefE.next ?_
        refine RefC.seq ?_
        refine RefC.region ?_
        refine RefL.pure rfl rfl (RanP.move rfl) ?_
        refine RefL.pure rfl rfl (RanP.eql rfl rfl) ?_
        refine RefL.nil ?_
        refine RefE.next ?_
        refine RefC.cond rfl ?_ ?_
        · refine RefC.seq ?_
          refine RefC.region ?_
          refine RefL.pure rfl rfl (RanP.build rfl (v := .agg (Agg.cells (Tapi_Frame.mk false (0 : Int) false (0 : Int) (0 : Int) (0 : Int) (0 : Int) (ByteArray.mk #[]))).toArray) (fun _ => by kernel_rfl)) ?_
          refine RefL.pure rfl rfl (RanP.move rfl) ?_
          refine RefL.hv rfl rfl (Hv.st Tryz.sizeOf61 rfl rfl rfl ?_)
          refine RefL.pure rfl rfl (RanP.assign rfl) ?_
          refine RefL.pure rfl rfl (RanP.assign rfl) ?_
          refine RefL.nil ?_
          refine RefE.next ?_
          refine RefC.ret ?_
          refine RefE.thenRet ?_
          refine RefE.finR ?_
          refine RefE.thenRet ?_
          refine RefE.retV rfl ?_
          refine RefV.cellG Tryz.isAgg61 Tryz.sizeOf61 rfl fun r78 => ?_
          refine RefV.tmp rfl ?_
          refine RefV.tmp rfl ?_
          exact RefV.nil rfl
        · refine RefC.skip ?_
          refine RefE.next ?_
          refine RefC.seq ?_
          refine RefC.draw mixed [0, 1, 3, 7, 15, 31, 63, 127, 0, 256, 768, 1792, 4095] [.lp 0, .lp 1, .lp 2, .li 3, .lp 4, .li 5, .lp 6, .lp 7, .lp 8, .lp 9, .lp 10, .li 11, .lp 12] (by kernel_rfl) ?_
          refine RefD.pure (at_ rfl) rfl (RanP.move rfl) ?_
          refine RefD.any (at_ rfl) rfl (Lt.nn rfl fun x79 => ?_)
          refine RefD.pure (at_ rfl) rfl (RanP.fieldAddr fa_159_2 rfl) ?_
          refine RefD.li0 (at_ rfl) rfl (Lt.ldSl Tryz.isAgg49 rfl fun x80 => ?_)
          refine RefD.any (at_ rfl) rfl (Lt.ixA Tryz.underlying49 Tryz.sizeOf5 rfl rfl fun x81 => ?_)
          refine RefD.li0 (at_ rfl) rfl (Lt.ldI Tryz.isAgg5 rfl fun x82 => ?_)
          refine RefD.pure (at_ rfl) rfl (RanP.and rfl rfl) ?_
          refine RefD.pure (at_ rfl) rfl (RanP.neq rfl rfl) ?_
          refine RefD.pure (at_ rfl) rfl (RanP.move rfl) ?_
          refine RefD.any (at_ rfl) rfl (Lt.nn rfl fun x83 => ?_)
          refine RefD.pure (at_ rfl) rfl (RanP.fieldAddr fa_159_0 rfl) ?_
          refine RefD.li0 (at_ rfl) rfl (Lt.ldB Tryz.isAgg4 rfl fun x84 => ?_)
          refine RefD.pure (at_ rfl) rfl (RanP.neqB Tryz.underlying4 rfl rfl) ?_
          refine RefD.nil ?_
          refine RefE.next ?_
          refine RefC.cond rfl ?_ ?_
          · refine RefC.seq ?_
            refine RefC.region ?_
            refine RefL.pure rfl rfl (RanP.build rfl (v := .agg (Agg.cells (Tapi_Frame.mk false (0 : Int) false (0 : Int) (0 : Int) (0 : Int) (0 : Int) (ByteArray.mk #[]))).toArray) (fun _ => by kernel_rfl)) ?_
            refine RefL.hv rfl rfl (Hv.st Tryz.sizeOf61 rfl rfl rfl ?_)
            refine RefL.pure rfl rfl (RanP.assign rfl) ?_
            refine RefL.pure rfl rfl (RanP.assign rfl) ?_
            refine RefL.nil ?_
            refine RefE.next ?_
            refine RefC.ret ?_
            refine RefE.finR ?_
            refine RefE.thenRet ?_
            refine RefE.retV rfl ?_
            refine RefV.cellG Tryz.isAgg61 Tryz.sizeOf61 rfl fun r85 => ?_
            refine RefV.tmp rfl ?_
            refine RefV.tmp rfl ?_
            exact RefV.nil rfl
          · refine RefC.skip ?_
            exact RefE.finL (s := ()) ⟨rfl, rfl, trivial⟩
    · refine RefC.skip ?_
      exact RefE.finL (s := ()) ⟨rfl, rfl, trivial⟩
  · intro s86
    refine RefE.next ?_
    refine RefC.seq ?_
    refine RefC.draw mixed [0, 1, 3, 7, 0, 16, 48, 112, 255, 511, 511, 511, 4095, 8191, 16383] [.lp 0, .lp 1, .lp 2, .li 3, .lp 4, .lp 5, .lp 6, .li 7, .hv 8, .lp 9, .lp 10, .lp 11, .hv 12, .lp 13, .lp 14] (by kernel_rfl) ?_
    refine RefD.pure (at_ rfl) rfl (RanP.move rfl) ?_
    refine RefD.any (at_ rfl) rfl (Lt.nn rfl fun x87 => ?_)
    refine RefD.pure (at_ rfl) rfl (RanP.fieldAddr fa_159_2 rfl) ?_
    refine RefD.li0 (at_ rfl) rfl (Lt.ldSl Tryz.isAgg49 rfl fun x88 => ?_)
    refine RefD.pure (at_ rfl) rfl (RanP.move rfl) ?_
    refine RefD.any (at_ rfl) rfl (Lt.nn rfl fun x89 => ?_)
    refine RefD.pure (at_ rfl) rfl (RanP.fieldAddr fa_159_1 rfl) ?_
    refine RefD.li0 (at_ rfl) rfl (Lt.ldI Tryz.isAgg3 rfl fun x90 => ?_)
    refine RefD.hv (at_ rfl) rfl (Hv.call (frame_Get_ref K x88 x90) Tryz.call138 rfl rfl rfl fun x91 => ?_)
    refine RefD.pure (at_ rfl) rfl (RanP.extract rfl rfl) ?_
    refine RefD.pure (at_ rfl) rfl (RanP.extract rfl rfl) ?_
    refine RefD.pure (at_ rfl) rfl (RanP.extract rfl rfl) ?_
    refine RefD.hv (at_ rfl) rfl (Hv.st Tryz.sizeOf61 rfl rfl rfl ?_)
    refine RefD.pure (at_ rfl) rfl (RanP.assign rfl) ?_
    refine RefD.pure (at_ rfl) rfl (RanP.assign rfl) ?_
    refine RefD.nil ?_
    refine RefE.next ?_
    refine RefC.ret ?_
    refine RefE.retV rfl ?_
    refine RefV.cellG Tryz.isAgg61 Tryz.sizeOf61 rfl fun r92 => ?_
    refine RefV.tmp rfl ?_
    refine RefV.tmp rfl ?_
    exact RefV.nil rfl

def stream_Stream_Feed_1 (K : Nat) (a0 : Addr) (a1 : Addr) : G (Bool) :=
  ldP a0 fun x1 =>
  bnd (stream_Stream_look K x1) fun x2 =>
  new [.bool false, .int .i64 (0 : Int), .bool false, .int .u8 (0 : Int), .int .u8 (0 : Int), .int .u8 (0 : Int), .int .u8 (0 : Int), .string (ByteArray.mk #[])] 61 fun x3 =>
  st x3 (.agg (Agg.cells x2.1).toArray) <|
  bnd (
    if (x2.2.2 == (0 : Int)) = true then
      ldSl a1 fun x21 =>
      ldG (α := Tapi_Frame) x3 fun x22 =>
      new (Agg.cells x22) 61 fun x23 =>
      appS 61 8 40 [.bool false, .int .i64 (0 : Int), .bool false, .int .u8 (0 : Int), .int .u8 (0 : Int), .int .u8 (0 : Int), .int .u8 (0 : Int), .string (ByteArray.mk #[])] x21 (Sl.mk (some x23) 1 1) fun x24 =>
      st a1 (.slice x24.a x24.n x24.c) <|
      drw <|
      wld fun w26 =>
      ldP a0 fun x25 =>
      ldP a0 fun x27 =>
      nn x27 fun x28 =>
      ldSl (x28.add 2) fun x29 =>
      slS x29 (some x2.2.1) none none 1 fun x30 =>
      appS 5 1 1 [.int .u8 (0 : Int)] Sl.nil x30 fun x31 =>
      agr (like a0 1 w26) <|
      nn x25 fun x32 =>
      st (x32.add 2) (.slice x31.a x31.n x31.c) <|
      ret ()
    else
      if (x2.2.2 != (90 : Int)) = true then
        drw <|
        ldP a0 fun x33 =>
        wld fun w35 =>
        ldP a0 fun x34 =>
        nn x33 fun x36 =>
        st (x36.add 3) (.int .i64 x2.2.2) <|
        agr (like a0 1 w35) <|
        nn x34 fun x37 =>
        st (x37.add 2) (.slice Sl.nil.a Sl.nil.n Sl.nil.c) <|
        ret ()
      else
        ret ()) fun (s38 : Unit) =>
  lt (x2.2.2 == (0 : Int)) fun x39 =>
  ret x39
set_option maxRecDepth 100000 in
theorem stream_Stream_Feed_1_ref (K : Nat) (a0 : Addr) (a1 : Addr) : Does Tryz.prog 109 [.pointer (some a0), .pointer (some a1)] (stream_Stream_Feed_1 K a0 a1) (fun r => .bool r) := by
  refine Does.of Tryz.func109 rfl rfl rfl ?_
  unfold stream_Stream_Feed_1
  refine RefC.seq ?_
  refine RefC.region ?_
  refine RefL.pure rfl rfl (RanP.assign rfl) ?_
  refine RefL.nil ?_
  refine RefE.next ?_
  refine RefC.seq ?_
  refine RefC.region ?_
  refine RefL.li rfl rfl (Lt.ldP Tryz.isAgg103 rfl fun x1 => ?_)
  refine RefL.hv rfl rfl (Hv.call (stream_Stream_look_ref K x1) Tryz.call110 rfl rfl rfl fun x2 => ?_)
  refine RefL.pure rfl rfl (RanP.move rfl) ?_
  refine RefL.pure rfl rfl (RanP.extract rfl rfl) ?_
  refine RefL.pure rfl rfl (RanP.extract rfl rfl) ?_
  refine RefL.pure rfl rfl (RanP.extract rfl rfl) ?_
  refine RefL.hv rfl rfl (Hv.newZ Tryz.zeroValue61 rfl fun x3 => ?_)
  refine RefL.hv rfl rfl (Hv.st Tryz.sizeOf61 rfl rfl rfl ?_)
  refine RefL.pure rfl rfl (RanP.assign rfl) ?_
  refine RefL.pure rfl rfl (RanP.assign rfl) ?_
  refine RefL.nil ?_
  refine RefE.next ?_
  refine RefC.seq ?_
  refine RefC.seq ?_
  refine RefC.region ?_
  refine RefL.pure rfl rfl (RanP.move rfl) ?_
  refine RefL.pure rfl rfl (RanP.eql rfl rfl) ?_
  refine RefL.nil ?_
  refine RefE.next ?_
  refine RefC.cut (enc := fun (s38 : Unit) => ([(5, .int .i64 x2.2.2)] : Env)) ?_ ?_
  · refine RefC.cond rfl ?_ ?_
    · refine RefC.seq ?_
      refine RefC.region ?_
      refine RefL.li rfl rfl (Lt.ldSl Tryz.isAgg34 rfl fun x21 => ?_)
      refine RefL.li rfl rfl (Lt.ldG (τ := Tapi_Frame) Tryz.isAgg61 Tryz.sizeOf61 rfl fun x22 => ?_)
      refine RefL.hv rfl rfl (Hv.buildSlice rfl (cs := (Agg.cells x22)) (e := 61) (fun _ => by kernel_rfl) fun x23 => ?_)
      refine RefL.hv rfl rfl (Hv.appS (i := Tryz.t61) rfl Tryz.underlying34 Tryz.underlying34 rfl rfl rfl rfl fun x24 => ?_)
      refine RefL.hv rfl rfl (Hv.st Tryz.sizeOf34 rfl rfl rfl ?_)
      refine RefL.nil ?_
      refine RefE.next ?_
      refine RefC.draw mixed [0, 0, 2, 6, 14, 0, 62, 126, 255, 511, 1023] [.li 0, .li 1, .lp 2, .lp 3, .li 4, .lp 5, .lp 6, .hv 7, .re 0, .lp 8, .lp 9, .hv 10] (by kernel_rfl) ?_
      refine RefD.li (at_ rfl) rfl fun w26 => (Lt.ldP Tryz.isAgg103 rfl fun x25 => ?_)
      refine RefD.li0 (at_ rfl) rfl (Lt.ldP Tryz.isAgg103 rfl fun x27 => ?_)
      refine RefD.any (at_ rfl) rfl (Lt.nn rfl fun x28 => ?_)
      refine RefD.pure (at_ rfl) rfl (RanP.fieldAddr fa_159_2 rfl) ?_
      refine RefD.li0 (at_ rfl) rfl (Lt.ldSl Tryz.isAgg49 rfl fun x29 => ?_)
      refine RefD.pure (at_ rfl) rfl (RanP.move rfl) ?_
      refine RefD.any (at_ rfl) rfl (Lt.slS (kl := .i64) (kh := .i64) (km := .i64) Tryz.underlying49 Tryz.sizeOf5 rfl rfl rfl rfl (by simp) fun x30 => ?_)
      refine RefD.hv (at_ rfl) rfl (Hv.appS (i := Tryz.t5) rfl Tryz.underlying49 Tryz.underlying49 rfl rfl rfl rfl fun x31 => ?_)
      refine RefD.re rfl ?_
      refine RefD.any (at_ rfl) rfl (Lt.nn rfl fun x32 => ?_)
      refine RefD.pure (at_ rfl) rfl (RanP.fieldAddr fa_159_2 rfl) ?_
      refine RefD.hv (at_ rfl) rfl (Hv.st Tryz.sizeOf49 rfl rfl rfl ?_)
      refine RefD.nil ?_
      exact RefE.fin (s := ()) ⟨rfl, trivial⟩
    · refine RefC.seq ?_
      refine RefC.region ?_
      refine RefL.pure rfl rfl (RanP.move rfl) ?_
      refine RefL.pure rfl rfl (RanP.neq rfl rfl) ?_
      refine RefL.nil ?_
      refine RefE.next ?_
      refine RefC.cond rfl ?_ ?_
      · refine RefC.draw mixed [0, 0, 0, 5, 13, 29, 63, 127, 255] [.li 0, .li 1, .lp 2, .lp 3, .lp 4, .hv 5, .re 1, .lp 6, .lp 7, .hv 8] (by kernel_rfl) ?_
        refine RefD.li0 (at_ rfl) rfl (Lt.ldP Tryz.isAgg103 rfl fun x33 => ?_)
        refine RefD.li (at_ rfl) rfl fun w35 => (Lt.ldP Tryz.isAgg103 rfl fun x34 => ?_)
        refine RefD.pure (at_ rfl) rfl (RanP.move rfl) ?_
        refine RefD.any (at_ rfl) rfl (Lt.nn rfl fun x36 => ?_)
        refine RefD.pure (at_ rfl) rfl (RanP.fieldAddr fa_159_3 rfl) ?_
        refine RefD.hv (at_ rfl) rfl (Hv.st Tryz.sizeOf31 rfl rfl rfl ?_)
        refine RefD.re rfl ?_
        refine RefD.any (at_ rfl) rfl (Lt.nn rfl fun x37 => ?_)
        refine RefD.pure (at_ rfl) rfl (RanP.fieldAddr fa_159_2 rfl) ?_
        refine RefD.hv (at_ rfl) rfl (Hv.st Tryz.sizeOf49 rfl rfl rfl ?_)
        refine RefD.nil ?_
        exact RefE.fin (s := ()) ⟨rfl, trivial⟩
      · refine RefC.skip ?_
        exact RefE.fin (s := ()) ⟨rfl, trivial⟩
  · intro s38
    refine RefE.next ?_
    refine RefC.seq ?_
    refine RefC.region ?_
    refine RefL.pure rfl rfl (RanP.move rfl) ?_
    refine RefL.pure rfl rfl (RanP.eql rfl rfl) ?_
    refine RefL.pure rfl rfl (RanP.assign rfl) ?_
    refine RefL.lt 2 (fun y => .bool y) rfl fun x39 => ?_
    refine RefL.nil ?_
    refine RefE.next ?_
    refine RefC.ret ?_
    refine RefE.retV rfl ?_
    refine RefV.tmp rfl ?_
    exact RefV.nil rfl

def stream_Stream_Feed_l0 (K : Nat) (x1 : Addr) (x15 : Addr) (again : Unit → G (Unit)) (s22 : Unit) : G (Unit) :=
  bnd (stream_Stream_Feed_1 K x1 x15) fun x23 =>
  if x23 = true then
    again ()
  else
    ret ()
def stream_Stream_Feed (K : Nat) (a0 : Option Addr) (a1 : Sl) : G (Sl × Int) :=
  new [.pointer a0] 103 fun x1 =>
  ldP x1 fun x2 =>
  nn x2 fun x3 =>
  ldI .i64 (x3.add 3) fun x4 =>
  if (x4 != (0 : Int)) = true then
    drw <|
    ldP x1 fun x5 =>
    nn x5 fun x6 =>
    ldI .i64 (x6.add 3) fun x7 =>
    ret (Sl.nil, x7)
  else
    drw <|
    wld fun w9 =>
    ldP x1 fun x8 =>
    ldP x1 fun x10 =>
    nn x10 fun x11 =>
    ldSl (x11.add 2) fun x12 =>
    appS 5 1 1 [.int .u8 (0 : Int)] x12 a1 fun x13 =>
    agr (like x1 1 w9) <|
    nn x8 fun x14 =>
    st (x14.add 2) (.slice x13.a x13.n x13.c) <|
    new [.slice Sl.nil.a Sl.nil.n Sl.nil.c] 34 fun x15 =>
    bnd (
      loopG (stream_Stream_Feed_l0 K x1 x15) K ()) fun (s24 : Unit) =>
    drw <|
    ldSl x15 fun x25 =>
    ldP x1 fun x26 =>
    nn x26 fun x27 =>
    ldI .i64 (x27.add 3) fun x28 =>
    ret (x25, x28)
set_option maxRecDepth 100000 in
theorem stream_Stream_Feed_ref (K : Nat) (a0 : Option Addr) (a1 : Sl) : Does Tryz.prog 71 [.pointer a0, .slice a1.a a1.n a1.c] (stream_Stream_Feed K a0 a1) (fun r => .tuple #[.slice r.1.a r.1.n r.1.c, .int .i64 r.2]) := by
  refine Does.of Tryz.func71 rfl rfl rfl ?_
  unfold stream_Stream_Feed
  refine RefC.seq ?_
  refine RefC.region ?_
  refine RefL.hv rfl rfl (Hv.box rfl rfl fun x1 => ?_)
  refine RefL.pure rfl rfl (RanP.assign rfl) ?_
  refine RefL.pure rfl rfl (RanP.assign rfl) ?_
  refine RefL.nil ?_
  refine RefE.next ?_
  refine RefC.seq ?_
  refine RefC.seq ?_
  refine RefC.region ?_
  refine RefL.li rfl rfl (Lt.ldP Tryz.isAgg103 rfl fun x2 => ?_)
  refine RefL.li rfl rfl (Lt.nn rfl fun x3 => ?_)
  refine RefL.pure rfl rfl (RanP.fieldAddr fa_159_3 rfl) ?_
  refine RefL.li rfl rfl (Lt.ldI Tryz.isAgg31 rfl fun x4 => ?_)
  refine RefL.pure rfl rfl (RanP.neq rfl rfl) ?_
  refine RefL.nil ?_
  refine RefE.next ?_
  refine RefC.cond rfl ?_ ?_
  · refine RefC.seq ?_
    refine RefC.draw mixed [0, 1, 3, 7, 0, 31] [.li 0, .lp 1, .lp 2, .li 3, .lp 4, .lp 5] (by kernel_rfl) ?_
    refine RefD.li0 (at_ rfl) rfl (Lt.ldP Tryz.isAgg103 rfl fun x5 => ?_)
    refine RefD.any (at_ rfl) rfl (Lt.nn rfl fun x6 => ?_)
    refine RefD.pure (at_ rfl) rfl (RanP.fieldAddr fa_159_3 rfl) ?_
    refine RefD.li0 (at_ rfl) rfl (Lt.ldI Tryz.isAgg31 rfl fun x7 => ?_)
    refine RefD.pure (at_ rfl) rfl (RanP.assign rfl) ?_
    refine RefD.pure (at_ rfl) rfl (RanP.assign rfl) ?_
    refine RefD.nil ?_
    refine RefE.next ?_
    refine RefC.ret ?_
    refine RefE.thenRet ?_
    refine RefE.retV rfl ?_
    refine RefV.tmp rfl ?_
    refine RefV.tmp rfl ?_
    exact RefV.nil rfl
  · refine RefC.skip ?_
    refine RefE.next ?_
    refine RefC.seq ?_
    refine RefC.draw mixed [0, 0, 2, 6, 14, 0, 62, 127, 255, 511] [.li 0, .li 1, .lp 2, .lp 3, .li 4, .lp 5, .hv 6, .re 0, .lp 7, .lp 8, .hv 9] (by kernel_rfl) ?_
    refine RefD.li (at_ rfl) rfl fun w9 => (Lt.ldP Tryz.isAgg103 rfl fun x8 => ?_)
    refine RefD.li0 (at_ rfl) rfl (Lt.ldP Tryz.isAgg103 rfl fun x10 => ?_)
    refine RefD.any (at_ rfl) rfl (Lt.nn rfl fun x11 => ?_)
    refine RefD.pure (at_ rfl) rfl (RanP.fieldAddr fa_159_2 rfl) ?_
    refine RefD.li0 (at_ rfl) rfl (Lt.ldSl Tryz.isAgg49 rfl fun x12 => ?_)
    refine RefD.pure (at_ rfl) rfl (RanP.move rfl) ?_
    refine RefD.hv (at_ rfl) rfl (Hv.appS (i := Tryz.t5) rfl Tryz.underlying49 Tryz.underlying49 rfl rfl rfl rfl fun x13 => ?_)
    refine RefD.re rfl ?_
    refine RefD.any (at_ rfl) rfl (Lt.nn rfl fun x14 => ?_)
    refine RefD.pure (at_ rfl) rfl (RanP.fieldAddr fa_159_2 rfl) ?_
    refine RefD.hv (at_ rfl) rfl (Hv.st Tryz.sizeOf49 rfl rfl rfl ?_)
    refine RefD.nil ?_
    refine RefE.next ?_
    refine RefC.seq ?_
    refine RefC.region ?_
    refine RefL.hv rfl rfl (Hv.newZ Tryz.zeroValue34 rfl fun x15 => ?_)
    refine RefL.nil ?_
    refine RefE.next ?_
    refine RefC.seq ?_
    refine RefC.region ?_
    refine RefL.pure rfl rfl (RanP.makeFunc rfl rfl) ?_
    refine RefL.pure rfl rfl (RanP.assign rfl) ?_
    refine RefL.nil ?_
    refine RefE.next ?_
    refine RefC.seq ?_
    refine RefC.cut (enc := fun (s24 : Unit) => ([(2, .pointer (some x1)), (6, .pointer (some x15))] : Env)) ?_ ?_
    · refine RefC.block ?_
      refine RefC.loopW (enc := fun (s22 : Unit) => ([(2, .pointer (some x1)), (6, .pointer (some x15)), (7, .func (.func 109) #[] #[.pointer (some x1), .pointer (some x15)])] : Env)) ⟨rfl, rfl, rfl, trivial⟩ ?_ _
      intro again k ih s22
      unfold stream_Stream_Feed_l0
      refine RefC.seq ?_
      refine RefC.seq ?_
      refine RefC.region ?_
      refine RefL.pure rfl rfl (RanP.move rfl) ?_
      refine RefL.hv rfl rfl (Hv.call (stream_Stream_Feed_1_ref K x1 x15) Tryz.call109 rfl rfl rfl fun x23 => ?_)
      refine RefL.nil ?_
      refine RefE.next ?_
      refine RefC.cond rfl ?_ ?_
      · refine RefC.skip ?_
        refine RefE.next ?_
        refine RefC.block ?_
        refine RefC.skip ?_
        refine RefE.blockNormal ?_
        exact RefE.again (ih ()) ⟨rfl, rfl, rfl, trivial⟩
      · refine RefC.exit ?_
        refine RefE.thenExit ?_
        refine RefE.roundExit ?_
        refine RefE.blockExit ?_
        exact RefE.fin (s := ()) ⟨rfl, rfl, trivial⟩
    · intro s24
      refine RefE.next ?_
      refine RefC.seq ?_
      refine RefC.draw mixed [0, 0, 2, 6, 14, 1, 63] [.li 0, .li 1, .lp 2, .lp 3, .li 4, .lp 5, .lp 6] (by kernel_rfl) ?_
      refine RefD.li0 (at_ rfl) rfl (Lt.ldSl Tryz.isAgg34 rfl fun x25 => ?_)
      refine RefD.li0 (at_ rfl) rfl (Lt.ldP Tryz.isAgg103 rfl fun x26 => ?_)
      refine RefD.any (at_ rfl) rfl (Lt.nn rfl fun x27 => ?_)
      refine RefD.pure (at_ rfl) rfl (RanP.fieldAddr fa_159_3 rfl) ?_
      refine RefD.li0 (at_ rfl) rfl (Lt.ldI Tryz.isAgg31 rfl fun x28 => ?_)
      refine RefD.pure (at_ rfl) rfl (RanP.assign rfl) ?_
      refine RefD.pure (at_ rfl) rfl (RanP.assign rfl) ?_
      refine RefD.nil ?_
      refine RefE.next ?_
      refine RefC.ret ?_
      refine RefE.retV rfl ?_
      refine RefV.tmp rfl ?_
      refine RefV.tmp rfl ?_
      exact RefV.nil rfl

end Go.Proofs.YtjdnjlnfcbaokaaGreat
