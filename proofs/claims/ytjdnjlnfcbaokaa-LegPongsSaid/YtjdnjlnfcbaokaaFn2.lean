/-
  Go functions as programs over the world, and that the model's code does what they say. Printed by gen.py (own work).
-/
import Derived.Test.YtjdnjlnfcbaokaaFn1
set_option linter.unusedVariables false
set_option linter.unusedSimpArgs false
namespace Go.Proofs.Ytjdnjlnfcbaokaa
open Go Go.Lg

def stream_Stream_look (K : Nat) (a0 : Option Addr) : G (Tapi_Frame × Int × Int) :=
  new [.bool false, .int .i64 (0 : Int), .bool false, .int .u8 (0 : Int), .int .u8 (0 : Int), .int .u8 (0 : Int), .int .u8 (0 : Int), .string (ByteArray.mk #[])] 59 fun x1 =>
  nn a0 fun x2 =>
  ldSl (x2.add 2) fun x3 =>
  bnd (
    if (decide ((1 : Int) < (x3.n : Int))) = true then
      bnd (
        drw2 (
          nn a0 fun x61 =>
          ldSl (x61.add 2) fun x62 =>
          slS x62 none (some (1 : Int)) none 1 fun x63 =>
          nn a0 fun x64 =>
          ldI .i64 (x64.add 1) fun x65 =>
          bnd (frame_Get K x63 x65) fun x66 =>
          new [.bool false, .int .i64 (0 : Int), .bool false, .int .u8 (0 : Int), .int .u8 (0 : Int), .int .u8 (0 : Int), .int .u8 (0 : Int), .string (ByteArray.mk #[])] 59 fun x67 =>
          st x67 (.agg (Agg.cells x66.1).toArray) <|
          ret (x66.2.2)) (
          nn a0 fun x68 =>
          wld fun w70 =>
          ldSl (x68.add 2) fun x69 =>
          slS x69 none (some (1 : Int)) none 1 fun x71 =>
          nn a0 fun x72 =>
          wld fun w74 =>
          ldI .i64 (x72.add 1) fun x73 =>
          new [.bool false, .int .i64 (0 : Int), .bool false, .int .u8 (0 : Int), .int .u8 (0 : Int), .int .u8 (0 : Int), .int .u8 (0 : Int), .string (ByteArray.mk #[])] 59 fun x75 =>
          agr (like (x68.add 2) 1 w70) <|
          agr (like (x72.add 1) 1 w74) <|
          bnd (frame_Get K x71 x73) fun x76 =>
          st x75 (.agg (Agg.cells x76.1).toArray) <|
          ret (x76.2.2))) fun (s77 : Int) =>
      if (s77 == (91 : Int)) = true then
        st x1 (.agg (Agg.cells (Tapi_Frame.mk false (0 : Int) false (0 : Int) (0 : Int) (0 : Int) (0 : Int) (ByteArray.mk #[]))).toArray) <|
        inr (
          ldG (α := Tapi_Frame) x1 fun r78 =>
          ret (r78, (0 : Int), s77))
      else
        drw <|
        nn a0 fun x79 =>
        ldSl (x79.add 2) fun x80 =>
        ixA x80 (1 : Int) 1 fun x81 =>
        ldI .u8 x81 fun x82 =>
        nn a0 fun x83 =>
        ldB (x83.add 0) fun x84 =>
        if (!(((andI .u8 x82 (128 : Int)) != (0 : Int)) == x84)) = true then
          st x1 (.agg (Agg.cells (Tapi_Frame.mk false (0 : Int) false (0 : Int) (0 : Int) (0 : Int) (0 : Int) (ByteArray.mk #[]))).toArray) <|
          inr (
            ldG (α := Tapi_Frame) x1 fun r85 =>
            ret (r85, (0 : Int), (100 : Int)))
        else
          ret (.inl ())
    else
      ret (.inl ())) (sumK fun (s86 : Unit) =>
  drw <|
  nn a0 fun x87 =>
  ldSl (x87.add 2) fun x88 =>
  nn a0 fun x89 =>
  ldI .i64 (x89.add 1) fun x90 =>
  bnd (frame_Get K x88 x90) fun x91 =>
  st x1 (.agg (Agg.cells x91.1).toArray) <|
  ldG (α := Tapi_Frame) x1 fun r92 =>
  ret (r92, x91.2.1, x91.2.2))
set_option maxRecDepth 100000 in
theorem stream_Stream_look_ref (K : Nat) (a0 : Option Addr) : Does Try.prog 48 [.pointer a0] (stream_Stream_look K a0) (fun r => .tuple #[.agg (Agg.cells r.1).toArray, .int .i64 r.2.1, .int .i64 r.2.2]) := by
  refine Does.of Try.func48 rfl rfl rfl ?_
  unfold stream_Stream_look
  refine RefC.seq ?_
  refine RefC.region ?_
  refine RefL.hv rfl rfl (Hv.newZ Try.zeroValue59 rfl fun x1 => ?_)
  refine RefL.pure rfl rfl (RanP.assign rfl) ?_
  refine RefL.pure rfl rfl (RanP.assign rfl) ?_
  refine RefL.nil ?_
  refine RefE.next ?_
  refine RefC.seq ?_
  refine RefC.seq ?_
  refine RefC.region ?_
  refine RefL.pure rfl rfl (RanP.move rfl) ?_
  refine RefL.li rfl rfl (Lt.nn rfl fun x2 => ?_)
  refine RefL.pure rfl rfl (RanP.fieldAddr fa_93_2 rfl) ?_
  refine RefL.li rfl rfl (Lt.ldSl Try.isAgg36 rfl fun x3 => ?_)
  refine RefL.pure rfl rfl (RanP.lenSl rfl Try.underlying36 rfl) ?_
  refine RefL.pure rfl rfl (RanP.gtr rfl rfl) ?_
  refine RefL.nil ?_
  refine RefE.next ?_
  refine RefC.cutSum (enc := fun (s86 : Unit) => ([(0, .pointer a0), (2, .pointer (some x1))] : Env)) (KThen.mono KRet.mono) ?_ ?_
  · refine RefC.cond rfl ?_ ?_
    · refine RefC.seq ?_
      refine RefC.seq ?_
      refine RefC.cut (enc := fun (s77 : Int) => ([(7, .int .i64 s77), (0, .pointer a0), (2, .pointer (some x1))] : Env)) ?_ ?_
      · refine RefC.draw2 mixed [0, 1, 3, 7, 15, 0, 32, 96, 224, 511, 1023, 2047, 2047, 2047, 0, 20479, 57343, 131071] [.lp 0, .lp 1, .lp 2, .li 3, .lp 4, .lp 5, .lp 6, .lp 7, .li 8, .hv 9, .lp 10, .lp 11, .lp 12, .lp 13, .hv 14, .hv 15, .lp 16, .lp 17] [.lp 0, .lp 1, .lp 2, .li 3, .lp 4, .lp 5, .lp 6, .lp 7, .li 8, .hv 14, .re 3, .re 8, .hv 9, .lp 10, .lp 11, .lp 12, .lp 13, .hv 15, .lp 16, .lp 17] (by kernel_rfl) ?_ ?_
        · refine RefD.pure (at_ rfl) rfl (RanP.move rfl) ?_
          refine RefD.any (at_ rfl) rfl (Lt.nn rfl fun x61 => ?_)
          refine RefD.pure (at_ rfl) rfl (RanP.fieldAddr fa_93_2 rfl) ?_
          refine RefD.li0 (at_ rfl) rfl (Lt.ldSl Try.isAgg36 rfl fun x62 => ?_)
          refine RefD.any (at_ rfl) rfl (Lt.slS (kl := .i64) (kh := .i64) (km := .i64) Try.underlying36 Try.sizeOf5 rfl rfl rfl rfl (by simp) fun x63 => ?_)
          refine RefD.pure (at_ rfl) rfl (RanP.move rfl) ?_
          refine RefD.any (at_ rfl) rfl (Lt.nn rfl fun x64 => ?_)
          refine RefD.pure (at_ rfl) rfl (RanP.fieldAddr fa_93_1 rfl) ?_
          refine RefD.li0 (at_ rfl) rfl (Lt.ldI Try.isAgg3 rfl fun x65 => ?_)
          refine RefD.hv (at_ rfl) rfl (Hv.call (frame_Get_ref K x63 x65) Try.call64 rfl rfl rfl fun x66 => ?_)
          refine RefD.pure (at_ rfl) rfl (RanP.move rfl) ?_
          refine RefD.pure (at_ rfl) rfl (RanP.extract rfl rfl) ?_
          refine RefD.pure (at_ rfl) rfl (RanP.extract rfl rfl) ?_
          refine RefD.pure (at_ rfl) rfl (RanP.extract rfl rfl) ?_
          refine RefD.hv (at_ rfl) rfl (Hv.newZ Try.zeroValue59 rfl fun x67 => ?_)
          refine RefD.hv (at_ rfl) rfl (Hv.st Try.sizeOf59 rfl rfl rfl ?_)
          refine RefD.pure (at_ rfl) rfl (RanP.assign rfl) ?_
          refine RefD.pure (at_ rfl) rfl (RanP.assign rfl) ?_
          refine RefD.nil ?_
          exact RefE.fin (s := (x66.2.2)) ⟨rfl, rfl, rfl, trivial⟩
        · refine RefD.pure (at_ rfl) rfl (RanP.move rfl) ?_
          refine RefD.any (at_ rfl) rfl (Lt.nn rfl fun x68 => ?_)
          refine RefD.pure (at_ rfl) rfl (RanP.fieldAddr fa_93_2 rfl) ?_
          refine RefD.li (at_ rfl) rfl fun w70 => (Lt.ldSl Try.isAgg36 rfl fun x69 => ?_)
          refine RefD.any (at_ rfl) rfl (Lt.slS (kl := .i64) (kh := .i64) (km := .i64) Try.underlying36 Try.sizeOf5 rfl rfl rfl rfl (by simp) fun x71 => ?_)
          refine RefD.pure (at_ rfl) rfl (RanP.move rfl) ?_
          refine RefD.any (at_ rfl) rfl (Lt.nn rfl fun x72 => ?_)
          refine RefD.pure (at_ rfl) rfl (RanP.fieldAddr fa_93_1 rfl) ?_
          refine RefD.li (at_ rfl) rfl fun w74 => (Lt.ldI Try.isAgg3 rfl fun x73 => ?_)
          refine RefD.hv (at_ rfl) rfl (Hv.newZ Try.zeroValue59 rfl fun x75 => ?_)
          refine RefD.re rfl ?_
          refine RefD.re rfl ?_
          refine RefD.hv (at_ rfl) rfl (Hv.call (frame_Get_ref K x71 x73) Try.call64 rfl rfl rfl fun x76 => ?_)
          refine RefD.pure (at_ rfl) rfl (RanP.move rfl) ?_
          refine RefD.pure (at_ rfl) rfl (RanP.extract rfl rfl) ?_
          refine RefD.pure (at_ rfl) rfl (RanP.extract rfl rfl) ?_
          refine RefD.pure (at_ rfl) rfl (RanP.extract rfl rfl) ?_
          refine RefD.hv (at_ rfl) rfl (Hv.st Try.sizeOf59 rfl rfl rfl ?_)
          refine RefD.pure (at_ rfl) rfl (RanP.assign rfl) ?_
          refine RefD.pure (at_ rfl) rfl (RanP.assign rfl) ?_
          refine RefD.nil ?_
          exact RefE.fin (s := (x76.2.2)) ⟨rfl, rfl, rfl, trivial⟩
      · intro s77
        refine RefE.next ?_
        refine RefC.seq ?_
        refine RefC.region ?_
        refine RefL.pure rfl rfl (RanP.move rfl) ?_
        refine RefL.pure rfl rfl (RanP.eql rfl rfl) ?_
        refine RefL.nil ?_
        refine RefE.next ?_
        refine RefC.cond rfl ?_ ?_
        · refine RefC.seq ?_
          refine RefC.region ?_
          refine RefL.pure rfl rfl (RanP.build rfl (v := .agg (Agg.cells (Tapi_Frame.mk false (0 : Int) false (0 : Int) (0 : Int) (0 : Int) (0 : Int) (ByteArray.mk #[]))).toArray) (fun _ => by kernel_rfl)) ?_
          refine RefL.pure rfl rfl (RanP.move rfl) ?_
          refine RefL.hv rfl rfl (Hv.st Try.sizeOf59 rfl rfl rfl ?_)
          refine RefL.pure rfl rfl (RanP.assign rfl) ?_
          refine RefL.pure rfl rfl (RanP.assign rfl) ?_
          refine RefL.nil ?_
          refine RefE.next ?_
          refine RefC.ret ?_
          refine RefE.thenRet ?_
          refine RefE.finR ?_
          refine RefE.thenRet ?_
          refine RefE.retV rfl ?_
          refine RefV.cellG Try.isAgg59 Try.sizeOf59 rfl fun r78 => ?_
          refine RefV.tmp rfl ?_
          refine RefV.tmp rfl ?_
          exact RefV.nil rfl
        · refine RefC.skip ?_
          refine RefE.next ?_
          refine RefC.seq ?_
          refine RefC.draw mixed [0, 1, 3, 7, 15, 31, 63, 127, 0, 256, 768, 1792, 4095] [.lp 0, .lp 1, .lp 2, .li 3, .lp 4, .li 5, .lp 6, .lp 7, .lp 8, .lp 9, .lp 10, .li 11, .lp 12] (by kernel_rfl) ?_
          refine RefD.pure (at_ rfl) rfl (RanP.move rfl) ?_
          refine RefD.any (at_ rfl) rfl (Lt.nn rfl fun x79 => ?_)
          refine RefD.pure (at_ rfl) rfl (RanP.fieldAddr fa_93_2 rfl) ?_
          refine RefD.li0 (at_ rfl) rfl (Lt.ldSl Try.isAgg36 rfl fun x80 => ?_)
          refine RefD.any (at_ rfl) rfl (Lt.ixA Try.underlying36 Try.sizeOf5 rfl rfl fun x81 => ?_)
          refine RefD.li0 (at_ rfl) rfl (Lt.ldI Try.isAgg5 rfl fun x82 => ?_)
          refine RefD.pure (at_ rfl) rfl (RanP.and rfl rfl) ?_
          refine RefD.pure (at_ rfl) rfl (RanP.neq rfl rfl) ?_
          refine RefD.pure (at_ rfl) rfl (RanP.move rfl) ?_
          refine RefD.any (at_ rfl) rfl (Lt.nn rfl fun x83 => ?_)
          refine RefD.pure (at_ rfl) rfl (RanP.fieldAddr fa_93_0 rfl) ?_
          refine RefD.li0 (at_ rfl) rfl (Lt.ldB Try.isAgg4 rfl fun x84 => ?_)
          refine RefD.pure (at_ rfl) rfl (RanP.neqB Try.underlying4 rfl rfl) ?_
          refine RefD.nil ?_
          refine RefE.next ?_
          refine RefC.cond rfl ?_ ?_
          · refine RefC.seq ?_
            refine RefC.region ?_
            refine RefL.pure rfl rfl (RanP.build rfl (v := .agg (Agg.cells (Tapi_Frame.mk false (0 : Int) false (0 : Int) (0 : Int) (0 : Int) (0 : Int) (ByteArray.mk #[]))).toArray) (fun _ => by kernel_rfl)) ?_
            refine RefL.hv rfl rfl (Hv.st Try.sizeOf59 rfl rfl rfl ?_)
            refine RefL.pure rfl rfl (RanP.assign rfl) ?_
            refine RefL.pure rfl rfl (RanP.assign rfl) ?_
            refine RefL.nil ?_
            refine RefE.next ?_
            refine RefC.ret ?_
            refine RefE.finR ?_
            refine RefE.thenRet ?_
            refine RefE.retV rfl ?_
            refine RefV.cellG Try.isAgg59 Try.sizeOf59 rfl fun r85 => ?_
            refine RefV.tmp rfl ?_
            refine RefV.tmp rfl ?_
            exact RefV.nil rfl
          · refine RefC.skip ?_
            exact RefE.finL (s := ()) ⟨rfl, rfl, trivial⟩
    · refine RefC.skip ?_
      exact RefE.finL (s := ()) ⟨rfl, rfl, trivial⟩
  · intro s86
    refine RefE.next ?_
    refine RefC.seq ?_
    refine RefC.draw mixed [0, 1, 3, 7, 0, 16, 48, 112, 255, 511, 511, 511, 4095, 8191, 16383] [.lp 0, .lp 1, .lp 2, .li 3, .lp 4, .lp 5, .lp 6, .li 7, .hv 8, .lp 9, .lp 10, .lp 11, .hv 12, .lp 13, .lp 14] (by kernel_rfl) ?_
    refine RefD.pure (at_ rfl) rfl (RanP.move rfl) ?_
    refine RefD.any (at_ rfl) rfl (Lt.nn rfl fun x87 => ?_)
    refine RefD.pure (at_ rfl) rfl (RanP.fieldAddr fa_93_2 rfl) ?_
    refine RefD.li0 (at_ rfl) rfl (Lt.ldSl Try.isAgg36 rfl fun x88 => ?_)
    refine RefD.pure (at_ rfl) rfl (RanP.move rfl) ?_
    refine RefD.any (at_ rfl) rfl (Lt.nn rfl fun x89 => ?_)
    refine RefD.pure (at_ rfl) rfl (RanP.fieldAddr fa_93_1 rfl) ?_
    refine RefD.li0 (at_ rfl) rfl (Lt.ldI Try.isAgg3 rfl fun x90 => ?_)
    refine RefD.hv (at_ rfl) rfl (Hv.call (frame_Get_ref K x88 x90) Try.call64 rfl rfl rfl fun x91 => ?_)
    refine RefD.pure (at_ rfl) rfl (RanP.extract rfl rfl) ?_
    refine RefD.pure (at_ rfl) rfl (RanP.extract rfl rfl) ?_
    refine RefD.pure (at_ rfl) rfl (RanP.extract rfl rfl) ?_
    refine RefD.hv (at_ rfl) rfl (Hv.st Try.sizeOf59 rfl rfl rfl ?_)
    refine RefD.pure (at_ rfl) rfl (RanP.assign rfl) ?_
    refine RefD.pure (at_ rfl) rfl (RanP.assign rfl) ?_
    refine RefD.nil ?_
    refine RefE.next ?_
    refine RefC.ret ?_
    refine RefE.retV rfl ?_
    refine RefV.cellG Try.isAgg59 Try.sizeOf59 rfl fun r92 => ?_
    refine RefV.tmp rfl ?_
    refine RefV.tmp rfl ?_
    exact RefV.nil rfl

def stream_Stream_Feed_1 (K : Nat) (a0 : Addr) (a1 : Addr) : G (Bool) :=
  ldP a0 fun x1 =>
  bnd (stream_Stream_look K x1) fun x2 =>
  new [.bool false, .int .i64 (0 : Int), .bool false, .int .u8 (0 : Int), .int .u8 (0 : Int), .int .u8 (0 : Int), .int .u8 (0 : Int), .string (ByteArray.mk #[])] 59 fun x3 =>
  st x3 (.agg (Agg.cells x2.1).toArray) <|
  bnd (
    if (x2.2.2 == (0 : Int)) = true then
      ldSl a1 fun x21 =>
      ldG (α := Tapi_Frame) x3 fun x22 =>
      new (Agg.cells x22) 59 fun x23 =>
      appS 59 8 40 [.bool false, .int .i64 (0 : Int), .bool false, .int .u8 (0 : Int), .int .u8 (0 : Int), .int .u8 (0 : Int), .int .u8 (0 : Int), .string (ByteArray.mk #[])] x21 (Sl.mk (some x23) 1 1) fun x24 =>
      st a1 (.slice x24.a x24.n x24.c) <|
      drw <|
      wld fun w26 =>
      ldP a0 fun x25 =>
      ldP a0 fun x27 =>
      nn x27 fun x28 =>
      ldSl (x28.add 2) fun x29 =>
      slS x29 (some x2.2.1) none none 1 fun x30 =>
      appS 5 1 1 [.int .u8 (0 : Int)] Sl.nil x30 fun x31 =>
      agr (like a0 1 w26) <|
      nn x25 fun x32 =>
      st (x32.add 2) (.slice x31.a x31.n x31.c) <|
      ret ()
    else
      if (x2.2.2 != (90 : Int)) = true then
        drw <|
        ldP a0 fun x33 =>
        wld fun w35 =>
        ldP a0 fun x34 =>
        nn x33 fun x36 =>
        st (x36.add 3) (.int .i64 x2.2.2) <|
        agr (like a0 1 w35) <|
        nn x34 fun x37 =>
        st (x37.add 2) (.slice Sl.nil.a Sl.nil.n Sl.nil.c) <|
        ret ()
      else
        ret ()) fun (s38 : Unit) =>
  lt (x2.2.2 == (0 : Int)) fun x39 =>
  ret x39
set_option maxRecDepth 100000 in
theorem stream_Stream_Feed_1_ref (K : Nat) (a0 : Addr) (a1 : Addr) : Does Try.prog 47 [.pointer (some a0), .pointer (some a1)] (stream_Stream_Feed_1 K a0 a1) (fun r => .bool r) := by
  refine Does.of Try.func47 rfl rfl rfl ?_
  unfold stream_Stream_Feed_1
  refine RefC.seq ?_
  refine RefC.region ?_
  refine RefL.pure rfl rfl (RanP.assign rfl) ?_
  refine RefL.nil ?_
  refine RefE.next ?_
  refine RefC.seq ?_
  refine RefC.region ?_
  refine RefL.li rfl rfl (Lt.ldP Try.isAgg65 rfl fun x1 => ?_)
  refine RefL.hv rfl rfl (Hv.call (stream_Stream_look_ref K x1) Try.call48 rfl rfl rfl fun x2 => ?_)
  refine RefL.pure rfl rfl (RanP.move rfl) ?_
  refine RefL.pure rfl rfl (RanP.extract rfl rfl) ?_
  refine RefL.pure rfl rfl (RanP.extract rfl rfl) ?_
  refine RefL.pure rfl rfl (RanP.extract rfl rfl) ?_
  refine RefL.hv rfl rfl (Hv.newZ Try.zeroValue59 rfl fun x3 => ?_)
  refine RefL.hv rfl rfl (Hv.st Try.sizeOf59 rfl rfl rfl ?_)
  refine RefL.pure rfl rfl (RanP.assign rfl) ?_
  refine RefL.pure rfl rfl (RanP.assign rfl) ?_
  refine RefL.nil ?_
  refine RefE.next ?_
  refine RefC.seq ?_
  refine RefC.seq ?_
  refine RefC.region ?_
  refine RefL.pure rfl rfl (RanP.move rfl) ?_
  refine RefL.pure rfl rfl (RanP.eql rfl rfl) ?_
  refine RefL.nil ?_
  refine RefE.next ?_
  refine RefC.cut (enc := fun (s38 : Unit) => ([(5, .int .i64 x2.2.2)] : Env)) ?_ ?_
  · refine RefC.cond rfl ?_ ?_
    · refine RefC.seq ?_
      refine RefC.region ?_
      refine RefL.li rfl rfl (Lt.ldSl Try.isAgg54 rfl fun x21 => ?_)
      refine RefL.li rfl rfl (Lt.ldG (τ := Tapi_Frame) Try.isAgg59 Try.sizeOf59 rfl fun x22 => ?_)
      refine RefL.hv rfl rfl (Hv.buildSlice rfl (cs := (Agg.cells x22)) (e := 59) (fun _ => by kernel_rfl) fun x23 => ?_)
      refine RefL.hv rfl rfl (Hv.appS (i := Try.t59) rfl Try.underlying54 Try.underlying54 rfl rfl rfl rfl fun x24 => ?_)
      refine RefL.hv rfl rfl (Hv.st Try.sizeOf54 rfl rfl rfl ?_)
      refine RefL.nil ?_
      refine RefE.next ?_
      refine RefC.draw mixed [0, 0, 2, 6, 14, 0, 62, 126, 255, 511, 1023] [.li 0, .li 1, .lp 2, .lp 3, .li 4, .lp 5, .lp 6, .hv 7, .re 0, .lp 8, .lp 9, .hv 10] (by kernel_rfl) ?_
      refine RefD.li (at_ rfl) rfl fun w26 => (Lt.ldP Try.isAgg65 rfl fun x25 => ?_)
      refine RefD.li0 (at_ rfl) rfl (Lt.ldP Try.isAgg65 rfl fun x27 => ?_)
      refine RefD.any (at_ rfl) rfl (Lt.nn rfl fun x28 => ?_)
      refine RefD.pure (at_ rfl) rfl (RanP.fieldAddr fa_93_2 rfl) ?_
      refine RefD.li0 (at_ rfl) rfl (Lt.ldSl Try.isAgg36 rfl fun x29 => ?_)
      refine RefD.pure (at_ rfl) rfl (RanP.move rfl) ?_
      refine RefD.any (at_ rfl) rfl (Lt.slS (kl := .i64) (kh := .i64) (km := .i64) Try.underlying36 Try.sizeOf5 rfl rfl rfl rfl (by simp) fun x30 => ?_)
      refine RefD.hv (at_ rfl) rfl (Hv.appS (i := Try.t5) rfl Try.underlying36 Try.underlying36 rfl rfl rfl rfl fun x31 => ?_)
      refine RefD.re rfl ?_
      refine RefD.any (at_ rfl) rfl (Lt.nn rfl fun x32 => ?_)
      refine RefD.pure (at_ rfl) rfl (RanP.fieldAddr fa_93_2 rfl) ?_
      refine RefD.hv (at_ rfl) rfl (Hv.st Try.sizeOf36 rfl rfl rfl ?_)
      refine RefD.nil ?_
      exact RefE.fin (s := ()) ⟨rfl, trivial⟩
    · refine RefC.seq ?_
      refine RefC.region ?_
      refine RefL.pure rfl rfl (RanP.move rfl) ?_
      refine RefL.pure rfl rfl (RanP.neq rfl rfl) ?_
      refine RefL.nil ?_
      refine RefE.next ?_
      refine RefC.cond rfl ?_ ?_
      · refine RefC.draw mixed [0, 0, 0, 5, 13, 29, 63, 127, 255] [.li 0, .li 1, .lp 2, .lp 3, .lp 4, .hv 5, .re 1, .lp 6, .lp 7, .hv 8] (by kernel_rfl) ?_
        refine RefD.li0 (at_ rfl) rfl (Lt.ldP Try.isAgg65 rfl fun x33 => ?_)
        refine RefD.li (at_ rfl) rfl fun w35 => (Lt.ldP Try.isAgg65 rfl fun x34 => ?_)
        refine RefD.pure (at_ rfl) rfl (RanP.move rfl) ?_
        refine RefD.any (at_ rfl) rfl (Lt.nn rfl fun x36 => ?_)
        refine RefD.pure (at_ rfl) rfl (RanP.fieldAddr fa_93_3 rfl) ?_
        refine RefD.hv (at_ rfl) rfl (Hv.st Try.sizeOf28 rfl rfl rfl ?_)
        refine RefD.re rfl ?_
        refine RefD.any (at_ rfl) rfl (Lt.nn rfl fun x37 => ?_)
        refine RefD.pure (at_ rfl) rfl (RanP.fieldAddr fa_93_2 rfl) ?_
        refine RefD.hv (at_ rfl) rfl (Hv.st Try.sizeOf36 rfl rfl rfl ?_)
        refine RefD.nil ?_
        exact RefE.fin (s := ()) ⟨rfl, trivial⟩
      · refine RefC.skip ?_
        exact RefE.fin (s := ()) ⟨rfl, trivial⟩
  · intro s38
    refine RefE.next ?_
    refine RefC.seq ?_
    refine RefC.region ?_
    refine RefL.pure rfl rfl (RanP.move rfl) ?_
    refine RefL.pure rfl rfl (RanP.eql rfl rfl) ?_
    refine RefL.pure rfl rfl (RanP.assign rfl) ?_
    refine RefL.lt 2 (fun y => .bool y) rfl fun x39 => ?_
    refine RefL.nil ?_
    refine RefE.next ?_
    refine RefC.ret ?_
    refine RefE.retV rfl ?_
    refine RefV.tmp rfl ?_
    exact RefV.nil rfl

def stream_Stream_Feed_l0 (K : Nat) (x1 : Addr) (x15 : Addr) (again : Unit → G (Unit)) (s22 : Unit) : G (Unit) :=
  bnd (stream_Stream_Feed_1 K x1 x15) fun x23 =>
  if x23 = true then
    again ()
  else
    ret ()
def stream_Stream_Feed (K : Nat) (a0 : Option Addr) (a1 : Sl) : G (Sl × Int) :=
  new [.pointer a0] 65 fun x1 =>
  ldP x1 fun x2 =>
  nn x2 fun x3 =>
  ldI .i64 (x3.add 3) fun x4 =>
  if (x4 != (0 : Int)) = true then
    drw <|
    ldP x1 fun x5 =>
    nn x5 fun x6 =>
    ldI .i64 (x6.add 3) fun x7 =>
    ret (Sl.nil, x7)
  else
    drw <|
    wld fun w9 =>
    ldP x1 fun x8 =>
    ldP x1 fun x10 =>
    nn x10 fun x11 =>
    ldSl (x11.add 2) fun x12 =>
    appS 5 1 1 [.int .u8 (0 : Int)] x12 a1 fun x13 =>
    agr (like x1 1 w9) <|
    nn x8 fun x14 =>
    st (x14.add 2) (.slice x13.a x13.n x13.c) <|
    new [.slice Sl.nil.a Sl.nil.n Sl.nil.c] 54 fun x15 =>
    bnd (
      loopG (stream_Stream_Feed_l0 K x1 x15) K ()) fun (s24 : Unit) =>
    drw <|
    ldSl x15 fun x25 =>
    ldP x1 fun x26 =>
    nn x26 fun x27 =>
    ldI .i64 (x27.add 3) fun x28 =>
    ret (x25, x28)
set_option maxRecDepth 100000 in
theorem stream_Stream_Feed_ref (K : Nat) (a0 : Option Addr) (a1 : Sl) : Does Try.prog 31 [.pointer a0, .slice a1.a a1.n a1.c] (stream_Stream_Feed K a0 a1) (fun r => .tuple #[.slice r.1.a r.1.n r.1.c, .int .i64 r.2]) := by
  refine Does.of Try.func31 rfl rfl rfl ?_
  unfold stream_Stream_Feed
  refine RefC.seq ?_
  refine RefC.region ?_
  refine RefL.hv rfl rfl (Hv.box rfl rfl fun x1 => ?_)
  refine RefL.pure rfl rfl (RanP.assign rfl) ?_
  refine RefL.pure rfl rfl (RanP.assign rfl) ?_
  refine RefL.nil ?_
  refine RefE.next ?_
  refine RefC.seq ?_
  refine RefC.seq ?_
  refine RefC.region ?_
  refine RefL.li rfl rfl (Lt.ldP Try.isAgg65 rfl fun x2 => ?_)
  refine RefL.li rfl rfl (Lt.nn rfl fun x3 => ?_)
  refine RefL.pure rfl rfl (RanP.fieldAddr fa_93_3 rfl) ?_
  refine RefL.li rfl rfl (Lt.ldI Try.isAgg28 rfl fun x4 => ?_)
  refine RefL.pure rfl rfl (RanP.neq rfl rfl) ?_
  refine RefL.nil ?_
  refine RefE.next ?_
  refine RefC.cond rfl ?_ ?_
  · refine RefC.seq ?_
    refine RefC.draw mixed [0, 1, 3, 7, 0, 31] [.li 0, .lp 1, .lp 2, .li 3, .lp 4, .lp 5] (by kernel_rfl) ?_
    refine RefD.li0 (at_ rfl) rfl (Lt.ldP Try.isAgg65 rfl fun x5 => ?_)
    refine RefD.any (at_ rfl) rfl (Lt.nn rfl fun x6 => ?_)
    refine RefD.pure (at_ rfl) rfl (RanP.fieldAddr fa_93_3 rfl) ?_
    refine RefD.li0 (at_ rfl) rfl (Lt.ldI Try.isAgg28 rfl fun x7 => ?_)
    refine RefD.pure (at_ rfl) rfl (RanP.assign rfl) ?_
    refine RefD.pure (at_ rfl) rfl (RanP.assign rfl) ?_
    refine RefD.nil ?_
    refine RefE.next ?_
    refine RefC.ret ?_
    refine RefE.thenRet ?_
    refine RefE.retV rfl ?_
    refine RefV.tmp rfl ?_
    refine RefV.tmp rfl ?_
    exact RefV.nil rfl
  · refine RefC.skip ?_
    refine RefE.next ?_
    refine RefC.seq ?_
    refine RefC.draw mixed [0, 0, 2, 6, 14, 0, 62, 127, 255, 511] [.li 0, .li 1, .lp 2, .lp 3, .li 4, .lp 5, .hv 6, .re 0, .lp 7, .lp 8, .hv 9] (by kernel_rfl) ?_
    refine RefD.li (at_ rfl) rfl fun w9 => (Lt.ldP Try.isAgg65 rfl fun x8 => ?_)
    refine RefD.li0 (at_ rfl) rfl (Lt.ldP Try.isAgg65 rfl fun x10 => ?_)
    refine RefD.any (at_ rfl) rfl (Lt.nn rfl fun x11 => ?_)
    refine RefD.pure (at_ rfl) rfl (RanP.fieldAddr fa_93_2 rfl) ?_
    refine RefD.li0 (at_ rfl) rfl (Lt.ldSl Try.isAgg36 rfl fun x12 => ?_)
    refine RefD.pure (at_ rfl) rfl (RanP.move rfl) ?_
    refine RefD.hv (at_ rfl) rfl (Hv.appS (i := Try.t5) rfl Try.underlying36 Try.underlying36 rfl rfl rfl rfl fun x13 => ?_)
    refine RefD.re rfl ?_
    refine RefD.any (at_ rfl) rfl (Lt.nn rfl fun x14 => ?_)
    refine RefD.pure (at_ rfl) rfl (RanP.fieldAddr fa_93_2 rfl) ?_
    refine RefD.hv (at_ rfl) rfl (Hv.st Try.sizeOf36 rfl rfl rfl ?_)
    refine RefD.nil ?_
    refine RefE.next ?_
    refine RefC.seq ?_
    refine RefC.region ?_
    refine RefL.hv rfl rfl (Hv.newZ Try.zeroValue54 rfl fun x15 => ?_)
    refine RefL.nil ?_
    refine RefE.next ?_
    refine RefC.seq ?_
    refine RefC.region ?_
    refine RefL.pure rfl rfl (RanP.makeFunc rfl rfl) ?_
    refine RefL.pure rfl rfl (RanP.assign rfl) ?_
    refine RefL.nil ?_
    refine RefE.next ?_
    refine RefC.seq ?_
    refine RefC.cut (enc := fun (s24 : Unit) => ([(2, .pointer (some x1)), (6, .pointer (some x15))] : Env)) ?_ ?_
    · refine RefC.block ?_
      refine RefC.loopW (enc := fun (s22 : Unit) => ([(2, .pointer (some x1)), (6, .pointer (some x15)), (7, .func (.func 47) #[] #[.pointer (some x1), .pointer (some x15)])] : Env)) ⟨rfl, rfl, rfl, trivial⟩ ?_ _
      intro again k ih s22
      unfold stream_Stream_Feed_l0
      refine RefC.seq ?_
      refine RefC.seq ?_
      refine RefC.region ?_
      refine RefL.pure rfl rfl (RanP.move rfl) ?_
      refine RefL.hv rfl rfl (Hv.call (stream_Stream_Feed_1_ref K x1 x15) Try.call47 rfl rfl rfl fun x23 => ?_)
      refine RefL.nil ?_
      refine RefE.next ?_
      refine RefC.cond rfl ?_ ?_
      · refine RefC.skip ?_
        refine RefE.next ?_
        refine RefC.block ?_
        refine RefC.skip ?_
        refine RefE.blockNormal ?_
        exact RefE.again (ih ()) ⟨rfl, rfl, rfl, trivial⟩
      · refine RefC.exit ?_
        refine RefE.thenExit ?_
        refine RefE.roundExit ?_
        refine RefE.blockExit ?_
        exact RefE.fin (s := ()) ⟨rfl, rfl, trivial⟩
    · intro s24
      refine RefE.next ?_
      refine RefC.seq ?_
      refine RefC.draw mixed [0, 0, 2, 6, 14, 1, 63] [.li 0, .li 1, .lp 2, .lp 3, .li 4, .lp 5, .lp 6] (by kernel_rfl) ?_
      refine RefD.li0 (at_ rfl) rfl (Lt.ldSl Try.isAgg54 rfl fun x25 => ?_)
      refine RefD.li0 (at_ rfl) rfl (Lt.ldP Try.isAgg65 rfl fun x26 => ?_)
      refine RefD.any (at_ rfl) rfl (Lt.nn rfl fun x27 => ?_)
      refine RefD.pure (at_ rfl) rfl (RanP.fieldAddr fa_93_3 rfl) ?_
      refine RefD.li0 (at_ rfl) rfl (Lt.ldI Try.isAgg28 rfl fun x28 => ?_)
      refine RefD.pure (at_ rfl) rfl (RanP.assign rfl) ?_
      refine RefD.pure (at_ rfl) rfl (RanP.assign rfl) ?_
      refine RefD.nil ?_
      refine RefE.next ?_
      refine RefC.ret ?_
      refine RefE.retV rfl ?_
      refine RefV.tmp rfl ?_
      refine RefV.tmp rfl ?_
      exact RefV.nil rfl

def frame_Check (K : Nat) (a0 : Tapi_Frame) : G (Int) :=
  new (Agg.cells a0) 59 fun x1 =>
  ldI .i64 (x1.add 1) fun x2 =>
  bnd (frame_known K x2) fun x3 =>
  bnd (
    if (!x3) = true then
      ret true
    else
      ldI .i64 (x1.add 1) fun x5 =>
      bnd (frame_Control K x5) fun x6 =>
      bnd (
        if x6 = true then
          ldB (x1.add 0) fun x8 =>
          bnd (
            if (!x8) = true then
              ret true
            else
              ldS (x1.add 7) fun x10 =>
              ret (decide ((125 : Int) < (x10.size : Int)))) fun (x9 : Bool) =>
          ret x9
        else
          ret false) fun (x7 : Bool) =>
      ret x7) fun (x4 : Bool) =>
  bnd (
    if x4 = true then
      ret true
    else
      ldB (x1.add 2) fun x12 =>
      bnd (
        if (!x12) = true then
          ldG (α := A4u8) (x1.add 3) fun x14 =>
          ret (!A4u8.eqb x14 (A4u8.mk (0 : Int) (0 : Int) (0 : Int) (0 : Int)))
        else
          ret false) fun (x13 : Bool) =>
      ret x13) fun (x11 : Bool) =>
  if x11 = true then
    ret (91 : Int)
  else
    ldS (x1.add 7) fun x15 =>
    lt (decide ((65536 : Int) < (x15.size : Int))) fun x16 =>
    if x16 = true then
      ret (92 : Int)
    else
      ret (0 : Int)
set_option maxRecDepth 100000 in
theorem frame_Check_ref (K : Nat) (a0 : Tapi_Frame) : Does Try.prog 65 [.agg (Agg.cells a0).toArray] (frame_Check K a0) (fun r => .int .i64 r) := by
  refine Does.of Try.func65 rfl rfl rfl ?_
  unfold frame_Check
  refine RefC.seq ?_
  refine RefC.region ?_
  refine RefL.hv rfl rfl (Hv.box rfl rfl fun x1 => ?_)
  refine RefL.pure rfl rfl (RanP.assign rfl) ?_
  refine RefL.nil ?_
  refine RefE.next ?_
  refine RefC.seq ?_
  refine RefC.block ?_
  refine RefC.seq ?_
  refine RefC.region ?_
  refine RefL.pure rfl rfl (RanP.fieldAddr fa_59_1 rfl) ?_
  refine RefL.li rfl rfl (Lt.ldI Try.isAgg3 rfl fun x2 => ?_)
  refine RefL.hv rfl rfl (Hv.call (frame_known_ref K x2) Try.call86 rfl rfl rfl fun x3 => ?_)
  refine RefL.pure rfl rfl (RanP.not rfl) ?_
  refine RefL.pure rfl rfl (RanP.move rfl) ?_
  refine RefL.cut (enc := fun (x4 : Bool) => ([(23, .bool x4), (1, .pointer (some x1))] : Env)) 15 ?_ ?_
  · refine RefL.ite (s := 8) rfl ?_ ?_
    · refine RefL.skip rfl rfl ?_
      refine RefL.skip rfl rfl ?_
      refine RefL.skip rfl rfl ?_
      refine RefL.skip rfl rfl ?_
      refine RefL.skip rfl rfl ?_
      refine RefL.skip rfl rfl ?_
      refine RefL.skip rfl rfl ?_
      refine RefL.skip rfl rfl ?_
      refine RefL.skip rfl rfl ?_
      refine RefL.skip rfl rfl ?_
      refine RefL.skip rfl rfl ?_
      refine RefL.skip rfl rfl ?_
      refine RefL.skip rfl rfl ?_
      refine RefL.skip rfl rfl ?_
      refine RefL.pure rfl rfl (RanP.pickT rfl rfl) ?_
      refine RefL.nil ?_
      exact RefE.fin (s := true) ⟨rfl, rfl, trivial⟩
    · refine RefL.pure rfl rfl (RanP.fieldAddr fa_59_1 rfl) ?_
      refine RefL.li rfl rfl (Lt.ldI Try.isAgg3 rfl fun x5 => ?_)
      refine RefL.hv rfl rfl (Hv.call (frame_Control_ref K x5) Try.call68 rfl rfl rfl fun x6 => ?_)
      refine RefL.pure rfl rfl (RanP.move rfl) ?_
      refine RefL.cut (enc := fun (x7 : Bool) => ([(22, .bool x7), (1, .pointer (some x1)), (8, .bool false)] : Env)) 10 ?_ ?_
      · refine RefL.ite (s := 12) rfl ?_ ?_
        · refine RefL.pure rfl rfl (RanP.fieldAddr fa_59_0 rfl) ?_
          refine RefL.li rfl rfl (Lt.ldB Try.isAgg4 rfl fun x8 => ?_)
          refine RefL.pure rfl rfl (RanP.not rfl) ?_
          refine RefL.pure rfl rfl (RanP.move rfl) ?_
          refine RefL.cut (enc := fun (x9 : Bool) => ([(21, .bool x9), (1, .pointer (some x1)), (8, .bool false), (12, .bool true)] : Env)) 5 ?_ ?_
          · refine RefL.ite (s := 16) rfl ?_ ?_
            · refine RefL.skip rfl rfl ?_
              refine RefL.skip rfl rfl ?_
              refine RefL.skip rfl rfl ?_
              refine RefL.skip rfl rfl ?_
              refine RefL.pure rfl rfl (RanP.pickT rfl rfl) ?_
              refine RefL.nil ?_
              exact RefE.fin (s := true) ⟨rfl, rfl, rfl, rfl, trivial⟩
            · refine RefL.pure rfl rfl (RanP.fieldAddr fa_59_4 rfl) ?_
              refine RefL.li rfl rfl (Lt.ldS Try.isAgg9 rfl fun x10 => ?_)
              refine RefL.pure rfl rfl (RanP.lenS rfl Try.underlying9 rfl) ?_
              refine RefL.pure rfl rfl (RanP.gtr rfl rfl) ?_
              refine RefL.pure rfl rfl (RanP.pickF rfl rfl) ?_
              refine RefL.nil ?_
              exact RefE.fin (s := (decide ((125 : Int) < (x10.size : Int)))) ⟨rfl, rfl, rfl, rfl, trivial⟩
          · intro x9
            refine RefL.pure rfl rfl (RanP.pickT rfl rfl) ?_
            refine RefL.nil ?_
            exact RefE.fin (s := x9) ⟨rfl, rfl, rfl, trivial⟩
        · refine RefL.skip rfl rfl ?_
          refine RefL.skip rfl rfl ?_
          refine RefL.skip rfl rfl ?_
          refine RefL.skip rfl rfl ?_
          refine RefL.skip rfl rfl ?_
          refine RefL.skip rfl rfl ?_
          refine RefL.skip rfl rfl ?_
          refine RefL.skip rfl rfl ?_
          refine RefL.skip rfl rfl ?_
          refine RefL.pure rfl rfl (RanP.pickF rfl rfl) ?_
          refine RefL.nil ?_
          exact RefE.fin (s := false) ⟨rfl, rfl, rfl, trivial⟩
      · intro x7
        refine RefL.pure rfl rfl (RanP.pickF rfl rfl) ?_
        refine RefL.nil ?_
        exact RefE.fin (s := x7) ⟨rfl, rfl, trivial⟩
  · intro x4
    refine RefL.pure rfl rfl (RanP.move rfl) ?_
    refine RefL.cut (enc := fun (x11 : Bool) => ([(34, .bool x11), (1, .pointer (some x1))] : Env)) 10 ?_ ?_
    · refine RefL.ite (s := 24) rfl ?_ ?_
      · refine RefL.skip rfl rfl ?_
        refine RefL.skip rfl rfl ?_
        refine RefL.skip rfl rfl ?_
        refine RefL.skip rfl rfl ?_
        refine RefL.skip rfl rfl ?_
        refine RefL.skip rfl rfl ?_
        refine RefL.skip rfl rfl ?_
        refine RefL.skip rfl rfl ?_
        refine RefL.skip rfl rfl ?_
        refine RefL.pure rfl rfl (RanP.pickT rfl rfl) ?_
        refine RefL.nil ?_
        exact RefE.fin (s := true) ⟨rfl, rfl, trivial⟩
      · refine RefL.pure rfl rfl (RanP.fieldAddr fa_59_2 rfl) ?_
        refine RefL.li rfl rfl (Lt.ldB Try.isAgg4 rfl fun x12 => ?_)
        refine RefL.pure rfl rfl (RanP.not rfl) ?_
        refine RefL.pure rfl rfl (RanP.move rfl) ?_
        refine RefL.cut (enc := fun (x13 : Bool) => ([(33, .bool x13), (1, .pointer (some x1)), (24, .bool false)] : Env)) 5 ?_ ?_
        · refine RefL.ite (s := 28) rfl ?_ ?_
          · refine RefL.pure rfl rfl (RanP.fieldAddr fa_59_3 rfl) ?_
            refine RefL.li rfl rfl (Lt.ldG (τ := A4u8) Try.isAgg57 Try.sizeOf57 rfl fun x14 => ?_)
            refine RefL.pure rfl rfl (RanP.build rfl (v := .agg (Agg.cells (A4u8.mk (0 : Int) (0 : Int) (0 : Int) (0 : Int))).toArray) (fun _ => by kernel_rfl)) ?_
            refine RefL.pure rfl rfl (RanP.neqA (ne_57_run x14 (A4u8.mk (0 : Int) (0 : Int) (0 : Int) (0 : Int))) rfl rfl) ?_
            refine RefL.pure rfl rfl (RanP.pickT rfl rfl) ?_
            refine RefL.nil ?_
            exact RefE.fin (s := (!A4u8.eqb x14 (A4u8.mk (0 : Int) (0 : Int) (0 : Int) (0 : Int)))) ⟨rfl, rfl, rfl, trivial⟩
          · refine RefL.skip rfl rfl ?_
            refine RefL.skip rfl rfl ?_
            refine RefL.skip rfl rfl ?_
            refine RefL.skip rfl rfl ?_
            refine RefL.pure rfl rfl (RanP.pickF rfl rfl) ?_
            refine RefL.nil ?_
            exact RefE.fin (s := false) ⟨rfl, rfl, rfl, trivial⟩
        · intro x13
          refine RefL.pure rfl rfl (RanP.pickF rfl rfl) ?_
          refine RefL.nil ?_
          exact RefE.fin (s := x13) ⟨rfl, rfl, trivial⟩
    · intro x11
      refine RefL.pure rfl rfl (RanP.assign rfl) ?_
      refine RefL.nil ?_
      refine RefE.next ?_
      refine RefC.cond rfl ?_ ?_
      · refine RefC.seq ?_
        refine RefC.region ?_
        refine RefL.pure rfl rfl (RanP.assign rfl) ?_
        refine RefL.nil ?_
        refine RefE.next ?_
        refine RefC.ret ?_
        refine RefE.blockRet ?_
        refine RefE.thenRet ?_
        refine RefE.retV rfl ?_
        refine RefV.tmp rfl ?_
        exact RefV.nil rfl
      · refine RefC.seq ?_
        refine RefC.region ?_
        refine RefL.pure rfl rfl (RanP.fieldAddr fa_59_4 rfl) ?_
        refine RefL.li rfl rfl (Lt.ldS Try.isAgg9 rfl fun x15 => ?_)
        refine RefL.pure rfl rfl (RanP.lenS rfl Try.underlying9 rfl) ?_
        refine RefL.pure rfl rfl (RanP.gtr rfl rfl) ?_
        refine RefL.pure rfl rfl (RanP.assign rfl) ?_
        refine RefL.lt 35 (fun y => .bool y) rfl fun x16 => ?_
        refine RefL.nil ?_
        refine RefE.next ?_
        refine RefC.cond rfl ?_ ?_
        · refine RefC.seq ?_
          refine RefC.region ?_
          refine RefL.pure rfl rfl (RanP.assign rfl) ?_
          refine RefL.nil ?_
          refine RefE.next ?_
          refine RefC.ret ?_
          refine RefE.blockRet ?_
          refine RefE.thenRet ?_
          refine RefE.retV rfl ?_
          refine RefV.tmp rfl ?_
          exact RefV.nil rfl
        · refine RefC.skip ?_
          refine RefE.blockNormal ?_
          refine RefE.next ?_
          refine RefC.seq ?_
          refine RefC.region ?_
          refine RefL.pure rfl rfl (RanP.assign rfl) ?_
          refine RefL.nil ?_
          refine RefE.next ?_
          refine RefC.ret ?_
          refine RefE.retV rfl ?_
          refine RefV.tmp rfl ?_
          exact RefV.nil rfl

def msg_Machine_stop (K : Nat) (a0 : Option Addr) (a1 : Int) : G (Tapi_Event × Bool × Int) :=
  new [.int .i64 (0 : Int), .int .i64 (0 : Int), .string (ByteArray.mk #[])] 47 fun x1 =>
  nn a0 fun x2 =>
  st (x2.add 5) (.int .i64 a1) <|
  nn a0 fun x3 =>
  st (x3.add 1) (.int .i64 (0 : Int)) <|
  nn a0 fun x4 =>
  st (x4.add 2) (.slice Sl.nil.a Sl.nil.n Sl.nil.c) <|
  st x1 (.agg (Agg.cells (Tapi_Event.mk (0 : Int) (0 : Int) (ByteArray.mk #[]))).toArray) <|
  ldG (α := Tapi_Event) x1 fun r5 =>
  ret (r5, false, a1)
set_option maxRecDepth 100000 in
theorem msg_Machine_stop_ref (K : Nat) (a0 : Option Addr) (a1 : Int) : Does Try.prog 66 [.pointer a0, .int .i64 a1] (msg_Machine_stop K a0 a1) (fun r => .tuple #[.agg (Agg.cells r.1).toArray, .bool r.2.1, .int .i64 r.2.2]) := by
  refine Does.of Try.func66 rfl rfl rfl ?_
  unfold msg_Machine_stop
  refine RefC.seq ?_
  refine RefC.region ?_
  refine RefL.hv rfl rfl (Hv.newZ Try.zeroValue47 rfl fun x1 => ?_)
  refine RefL.pure rfl rfl (RanP.assign rfl) ?_
  refine RefL.pure rfl rfl (RanP.assign rfl) ?_
  refine RefL.nil ?_
  refine RefE.next ?_
  refine RefC.seq ?_
  refine RefC.region ?_
  refine RefL.pure rfl rfl (RanP.move rfl) ?_
  refine RefL.pure rfl rfl (RanP.move rfl) ?_
  refine RefL.pure rfl rfl (RanP.move rfl) ?_
  refine RefL.pure rfl rfl (RanP.move rfl) ?_
  refine RefL.li rfl rfl (Lt.nn rfl fun x2 => ?_)
  refine RefL.pure rfl rfl (RanP.fieldAddr fa_97_5 rfl) ?_
  refine RefL.hv rfl rfl (Hv.st Try.sizeOf28 rfl rfl rfl ?_)
  refine RefL.li rfl rfl (Lt.nn rfl fun x3 => ?_)
  refine RefL.pure rfl rfl (RanP.fieldAddr fa_97_1 rfl) ?_
  refine RefL.hv rfl rfl (Hv.st Try.sizeOf3 rfl rfl rfl ?_)
  refine RefL.li rfl rfl (Lt.nn rfl fun x4 => ?_)
  refine RefL.pure rfl rfl (RanP.fieldAddr fa_97_2 rfl) ?_
  refine RefL.hv rfl rfl (Hv.st Try.sizeOf36 rfl rfl rfl ?_)
  refine RefL.nil ?_
  refine RefE.next ?_
  refine RefC.seq ?_
  refine RefC.region ?_
  refine RefL.pure rfl rfl (RanP.build rfl (v := .agg (Agg.cells (Tapi_Event.mk (0 : Int) (0 : Int) (ByteArray.mk #[]))).toArray) (fun _ => by kernel_rfl)) ?_
  refine RefL.pure rfl rfl (RanP.move rfl) ?_
  refine RefL.hv rfl rfl (Hv.st Try.sizeOf47 rfl rfl rfl ?_)
  refine RefL.pure rfl rfl (RanP.assign rfl) ?_
  refine RefL.pure rfl rfl (RanP.assign rfl) ?_
  refine RefL.nil ?_
  refine RefE.next ?_
  refine RefC.ret ?_
  refine RefE.retV rfl ?_
  refine RefV.cellG Try.isAgg47 Try.sizeOf47 rfl fun r5 => ?_
  refine RefV.tmp rfl ?_
  refine RefV.tmp rfl ?_
  exact RefV.nil rfl

def close_Valid_1 (K : Nat) (a0 : Int) (a1 : Int) (a2 : Addr) : G (Bool) :=
  ldI .i64 a2 fun x1 =>
  bnd (
    if (decide (a0 ≤ x1)) = true then
      ldI .i64 a2 fun x3 =>
      ret (decide (x3 ≤ a1))
    else
      ret false) fun (x2 : Bool) =>
  ret x2
set_option maxRecDepth 100000 in
theorem close_Valid_1_ref (K : Nat) (a0 : Int) (a1 : Int) (a2 : Addr) : Does Try.prog 79 [.int .i64 a0, .int .i64 a1, .pointer (some a2)] (close_Valid_1 K a0 a1 a2) (fun r => .bool r) := by
  refine Does.of Try.func79 rfl rfl rfl ?_
  unfold close_Valid_1
  refine RefC.seq ?_
  refine RefC.region ?_
  refine RefL.pure rfl rfl (RanP.assign rfl) ?_
  refine RefL.nil ?_
  refine RefE.next ?_
  refine RefC.seq ?_
  refine RefC.region ?_
  refine RefL.li rfl rfl (Lt.ldI Try.isAgg3 rfl fun x1 => ?_)
  refine RefL.pure rfl rfl (RanP.move rfl) ?_
  refine RefL.pure rfl rfl (RanP.geq rfl rfl) ?_
  refine RefL.pure rfl rfl (RanP.move rfl) ?_
  refine RefL.cut (enc := fun (x2 : Bool) => ([(13, .bool x2)] : Env)) 4 ?_ ?_
  · refine RefL.ite (s := 9) rfl ?_ ?_
    · refine RefL.li rfl rfl (Lt.ldI Try.isAgg3 rfl fun x3 => ?_)
      refine RefL.pure rfl rfl (RanP.move rfl) ?_
      refine RefL.pure rfl rfl (RanP.leq rfl rfl) ?_
      refine RefL.pure rfl rfl (RanP.pickT rfl rfl) ?_
      refine RefL.nil ?_
      exact RefE.fin (s := (decide (x3 ≤ a1))) ⟨rfl, trivial⟩
    · refine RefL.skip rfl rfl ?_
      refine RefL.skip rfl rfl ?_
      refine RefL.skip rfl rfl ?_
      refine RefL.pure rfl rfl (RanP.pickF rfl rfl) ?_
      refine RefL.nil ?_
      exact RefE.fin (s := false) ⟨rfl, trivial⟩
  · intro x2
    refine RefL.pure rfl rfl (RanP.assign rfl) ?_
    refine RefL.nil ?_
    refine RefE.next ?_
    refine RefC.ret ?_
    refine RefE.retV rfl ?_
    refine RefV.tmp rfl ?_
    exact RefV.nil rfl

def close_Valid (K : Nat) (a0 : Int) : G (Bool) :=
  new [.int .i64 a0] 3 fun x1 =>
  bnd (close_Valid_1 K (1000 : Int) (1003 : Int) x1) fun x2 =>
  bnd (
    if x2 = true then
      ret true
    else
      bnd (close_Valid_1 K (1007 : Int) (1011 : Int) x1) fun x4 =>
      ret x4) fun (x3 : Bool) =>
  bnd (
    if x3 = true then
      ret true
    else
      bnd (close_Valid_1 K (3000 : Int) (4999 : Int) x1) fun x6 =>
      ret x6) fun (x5 : Bool) =>
  ret x5
set_option maxRecDepth 100000 in
theorem close_Valid_ref (K : Nat) (a0 : Int) : Does Try.prog 57 [.int .i64 a0] (close_Valid K a0) (fun r => .bool r) := by
  refine Does.of Try.func57 rfl rfl rfl ?_
  unfold close_Valid
  refine RefC.seq ?_
  refine RefC.region ?_
  refine RefL.hv rfl rfl (Hv.box rfl rfl fun x1 => ?_)
  refine RefL.pure rfl rfl (RanP.assign rfl) ?_
  refine RefL.nil ?_
  refine RefE.next ?_
  refine RefC.seq ?_
  refine RefC.region ?_
  refine RefL.pure rfl rfl (RanP.makeFunc rfl rfl) ?_
  refine RefL.pure rfl rfl (RanP.assign rfl) ?_
  refine RefL.nil ?_
  refine RefE.next ?_
  refine RefC.seq ?_
  refine RefC.region ?_
  refine RefL.pure rfl rfl (RanP.move rfl) ?_
  refine RefL.hv rfl rfl (Hv.call (close_Valid_1_ref K (1000 : Int) (1003 : Int) x1) Try.call79 rfl rfl rfl fun x2 => ?_)
  refine RefL.pure rfl rfl (RanP.move rfl) ?_
  refine RefL.cut (enc := fun (x3 : Bool) => ([(10, .bool x3), (3, .func (.func 79) #[] #[.pointer (some x1)])] : Env)) 3 ?_ ?_
  · refine RefL.ite (s := 7) rfl ?_ ?_
    · refine RefL.skip rfl rfl ?_
      refine RefL.skip rfl rfl ?_
      refine RefL.pure rfl rfl (RanP.pickT rfl rfl) ?_
      refine RefL.nil ?_
      exact RefE.fin (s := true) ⟨rfl, rfl, trivial⟩
    · refine RefL.pure rfl rfl (RanP.move rfl) ?_
      refine RefL.hv rfl rfl (Hv.call (close_Valid_1_ref K (1007 : Int) (1011 : Int) x1) Try.call79 rfl rfl rfl fun x4 => ?_)
      refine RefL.pure rfl rfl (RanP.pickF rfl rfl) ?_
      refine RefL.nil ?_
      exact RefE.fin (s := x4) ⟨rfl, rfl, trivial⟩
  · intro x3
    refine RefL.pure rfl rfl (RanP.move rfl) ?_
    refine RefL.cut (enc := fun (x5 : Bool) => ([(14, .bool x5)] : Env)) 3 ?_ ?_
    · refine RefL.ite (s := 11) rfl ?_ ?_
      · refine RefL.skip rfl rfl ?_
        refine RefL.skip rfl rfl ?_
        refine RefL.pure rfl rfl (RanP.pickT rfl rfl) ?_
        refine RefL.nil ?_
        exact RefE.fin (s := true) ⟨rfl, trivial⟩
      · refine RefL.pure rfl rfl (RanP.move rfl) ?_
        refine RefL.hv rfl rfl (Hv.call (close_Valid_1_ref K (3000 : Int) (4999 : Int) x1) Try.call79 rfl rfl rfl fun x6 => ?_)
        refine RefL.pure rfl rfl (RanP.pickF rfl rfl) ?_
        refine RefL.nil ?_
        exact RefE.fin (s := x6) ⟨rfl, trivial⟩
    · intro x5
      refine RefL.pure rfl rfl (RanP.assign rfl) ?_
      refine RefL.nil ?_
      refine RefE.next ?_
      refine RefC.ret ?_
      refine RefE.retV rfl ?_
      refine RefV.tmp rfl ?_
      exact RefV.nil rfl

def utf_Checker_begin (K : Nat) (a0 : Option Addr) (a1 : Int) : G (Bool) :=
  nn a0 fun x1 =>
  st (x1.add 1) (.agg (Agg.cells (A2u8.mk (128 : Int) (191 : Int))).toArray) <|
  lt (decide (a1 < (128 : Int))) fun x2 =>
  if x2 = true then
    nn a0 fun x3 =>
    ldI .i64 (x3.add 3) fun x4 =>
    nn a0 fun x5 =>
    st (x5.add 3) (.int .i64 (IntKind.wrap .i64 (x4 + (1 : Int)))) <|
    ret true
  else
    bnd (
      if (decide ((194 : Int) ≤ a1)) = true then
        ret (decide (a1 ≤ (223 : Int)))
      else
        ret false) fun (x6 : Bool) =>
    bnd (
      if x6 = true then
        nn a0 fun x12 =>
        st (x12.add 0) (.int .i64 (1 : Int)) <|
        ret (.inl ())
      else
        bnd (
          if (decide ((224 : Int) ≤ a1)) = true then
            ret (decide (a1 ≤ (239 : Int)))
          else
            ret false) fun (x13 : Bool) =>
        if x13 = true then
          nn a0 fun x14 =>
          st (x14.add 0) (.int .i64 (2 : Int)) <|
          ret (.inl ())
        else
          bnd (
            if (decide ((240 : Int) ≤ a1)) = true then
              ret (decide (a1 ≤ (244 : Int)))
            else
              ret false) fun (x15 : Bool) =>
          if x15 = true then
            nn a0 fun x16 =>
            st (x16.add 0) (.int .i64 (3 : Int)) <|
            ret (.inl ())
          else
            inr (ret false)) (sumK fun (s17 : Unit) =>
    lt (a1 == (224 : Int)) fun x18 =>
    bnd (
      if x18 = true then
        nn a0 fun x26 =>
        st ((x26.add 1).add ((0 : Int).toNat * 1)) (.int .u8 (160 : Int)) <|
        ret ()
      else
        lt (a1 == (237 : Int)) fun x27 =>
        if x27 = true then
          nn a0 fun x28 =>
          st ((x28.add 1).add ((1 : Int).toNat * 1)) (.int .u8 (159 : Int)) <|
          ret ()
        else
          lt (a1 == (240 : Int)) fun x29 =>
          if x29 = true then
            nn a0 fun x30 =>
            st ((x30.add 1).add ((0 : Int).toNat * 1)) (.int .u8 (144 : Int)) <|
            ret ()
          else
            lt (a1 == (244 : Int)) fun x31 =>
            if x31 = true then
              nn a0 fun x32 =>
              st ((x32.add 1).add ((1 : Int).toNat * 1)) (.int .u8 (143 : Int)) <|
              ret ()
            else
              ret ()) fun (s33 : Unit) =>
    ret true)
set_option maxRecDepth 100000 in
theorem utf_Checker_begin_ref (K : Nat) (a0 : Option Addr) (a1 : Int) : Does Try.prog 107 [.pointer a0, .int .u8 a1] (utf_Checker_begin K a0 a1) (fun r => .bool r) := by
  refine Does.of Try.func107 rfl rfl rfl ?_
  unfold utf_Checker_begin
  refine RefC.seq ?_
  refine RefC.region ?_
  refine RefL.pure rfl rfl (RanP.assign rfl) ?_
  refine RefL.nil ?_
  refine RefE.next ?_
  refine RefC.seq ?_
  refine RefC.region ?_
  refine RefL.pure rfl rfl (RanP.move rfl) ?_
  refine RefL.pure rfl rfl (RanP.build rfl (v := .agg (Agg.cells (A2u8.mk (128 : Int) (191 : Int))).toArray) (fun _ => by kernel_rfl)) ?_
  refine RefL.li rfl rfl (Lt.nn rfl fun x1 => ?_)
  refine RefL.pure rfl rfl (RanP.fieldAddr fa_119_1 rfl) ?_
  refine RefL.hv rfl rfl (Hv.st Try.sizeOf117 rfl rfl rfl ?_)
  refine RefL.nil ?_
  refine RefE.next ?_
  refine RefC.seq ?_
  refine RefC.block ?_
  refine RefC.seq ?_
  refine RefC.region ?_
  refine RefL.pure rfl rfl (RanP.move rfl) ?_
  refine RefL.pure rfl rfl (RanP.lss rfl rfl) ?_
  refine RefL.pure rfl rfl (RanP.assign rfl) ?_
  refine RefL.lt 9 (fun y => .bool y) rfl fun x2 => ?_
  refine RefL.nil ?_
  refine RefE.next ?_
  refine RefC.cond rfl ?_ ?_
  · refine RefC.seq ?_
    refine RefC.region ?_
    refine RefL.pure rfl rfl (RanP.move rfl) ?_
    refine RefL.li rfl rfl (Lt.nn rfl fun x3 => ?_)
    refine RefL.pure rfl rfl (RanP.fieldAddr fa_119_2 rfl) ?_
    refine RefL.li rfl rfl (Lt.ldI Try.isAgg3 rfl fun x4 => ?_)
    refine RefL.pure rfl rfl (RanP.add rfl rfl) ?_
    refine RefL.li rfl rfl (Lt.nn rfl fun x5 => ?_)
    refine RefL.pure rfl rfl (RanP.fieldAddr fa_119_2 rfl) ?_
    refine RefL.hv rfl rfl (Hv.st Try.sizeOf3 rfl rfl rfl ?_)
    refine RefL.nil ?_
    refine RefE.next ?_
    refine RefC.seq ?_
    refine RefC.region ?_
    refine RefL.pure rfl rfl (RanP.assign rfl) ?_
    refine RefL.nil ?_
    refine RefE.next ?_
    refine RefC.ret ?_
    refine RefE.blockRet ?_
    refine RefE.thenRet ?_
    refine RefE.retV rfl ?_
    refine RefV.tmp rfl ?_
    exact RefV.nil rfl
  · refine RefC.seq ?_
    refine RefC.region ?_
    refine RefL.pure rfl rfl (RanP.move rfl) ?_
    refine RefL.pure rfl rfl (RanP.geq rfl rfl) ?_
    refine RefL.pure rfl rfl (RanP.move rfl) ?_
    refine RefL.cut (enc := fun (x6 : Bool) => ([(25, .bool x6), (0, .pointer a0), (1, .int .u8 a1)] : Env)) 3 ?_ ?_
    · refine RefL.ite (s := 22) rfl ?_ ?_
      · refine RefL.pure rfl rfl (RanP.move rfl) ?_
        refine RefL.pure rfl rfl (RanP.leq rfl rfl) ?_
        refine RefL.pure rfl rfl (RanP.pickT rfl rfl) ?_
        refine RefL.nil ?_
        exact RefE.fin (s := (decide (a1 ≤ (223 : Int)))) ⟨rfl, rfl, rfl, trivial⟩
      · refine RefL.skip rfl rfl ?_
        refine RefL.skip rfl rfl ?_
        refine RefL.pure rfl rfl (RanP.pickF rfl rfl) ?_
        refine RefL.nil ?_
        exact RefE.fin (s := false) ⟨rfl, rfl, rfl, trivial⟩
    · intro x6
      refine RefL.pure rfl rfl (RanP.assign rfl) ?_
      refine RefL.nil ?_
      refine RefE.next ?_
      refine RefC.cutSum (enc := fun (s17 : Unit) => ([(0, .pointer a0), (1, .int .u8 a1)] : Env)) (KBlock.mono (KThen.mono KRet.mono)) ?_ ?_
      · refine RefC.cond rfl ?_ ?_
        · refine RefC.region ?_
          refine RefL.pure rfl rfl (RanP.move rfl) ?_
          refine RefL.li rfl rfl (Lt.nn rfl fun x12 => ?_)
          refine RefL.pure rfl rfl (RanP.fieldAddr fa_119_0 rfl) ?_
          refine RefL.hv rfl rfl (Hv.st Try.sizeOf3 rfl rfl rfl ?_)
          refine RefL.nil ?_
          exact RefE.finL (s := ()) ⟨rfl, rfl, trivial⟩
        · refine RefC.seq ?_
          refine RefC.region ?_
          refine RefL.pure rfl rfl (RanP.move rfl) ?_
          refine RefL.pure rfl rfl (RanP.geq rfl rfl) ?_
          refine RefL.pure rfl rfl (RanP.move rfl) ?_
          refine RefL.cut (enc := fun (x13 : Bool) => ([(35, .bool x13), (0, .pointer a0), (1, .int .u8 a1)] : Env)) 3 ?_ ?_
          · refine RefL.ite (s := 32) rfl ?_ ?_
            · refine RefL.pure rfl rfl (RanP.move rfl) ?_
              refine RefL.pure rfl rfl (RanP.leq rfl rfl) ?_
              refine RefL.pure rfl rfl (RanP.pickT rfl rfl) ?_
              refine RefL.nil ?_
              exact RefE.fin (s := (decide (a1 ≤ (239 : Int)))) ⟨rfl, rfl, rfl, trivial⟩
            · refine RefL.skip rfl rfl ?_
              refine RefL.skip rfl rfl ?_
              refine RefL.pure rfl rfl (RanP.pickF rfl rfl) ?_
              refine RefL.nil ?_
              exact RefE.fin (s := false) ⟨rfl, rfl, rfl, trivial⟩
          · intro x13
            refine RefL.pure rfl rfl (RanP.assign rfl) ?_
            refine RefL.nil ?_
            refine RefE.next ?_
            refine RefC.cond rfl ?_ ?_
            · refine RefC.region ?_
              refine RefL.pure rfl rfl (RanP.move rfl) ?_
              refine RefL.li rfl rfl (Lt.nn rfl fun x14 => ?_)
              refine RefL.pure rfl rfl (RanP.fieldAddr fa_119_0 rfl) ?_
              refine RefL.hv rfl rfl (Hv.st Try.sizeOf3 rfl rfl rfl ?_)
              refine RefL.nil ?_
              exact RefE.finL (s := ()) ⟨rfl, rfl, trivial⟩
            · refine RefC.seq ?_
              refine RefC.region ?_
              refine RefL.pure rfl rfl (RanP.move rfl) ?_
              refine RefL.pure rfl rfl (RanP.geq rfl rfl) ?_
              refine RefL.pure rfl rfl (RanP.move rfl) ?_
              refine RefL.cut (enc := fun (x15 : Bool) => ([(45, .bool x15), (0, .pointer a0), (1, .int .u8 a1)] : Env)) 3 ?_ ?_
              · refine RefL.ite (s := 42) rfl ?_ ?_
                · refine RefL.pure rfl rfl (RanP.move rfl) ?_
                  refine RefL.pure rfl rfl (RanP.leq rfl rfl) ?_
                  refine RefL.pure rfl rfl (RanP.pickT rfl rfl) ?_
                  refine RefL.nil ?_
                  exact RefE.fin (s := (decide (a1 ≤ (244 : Int)))) ⟨rfl, rfl, rfl, trivial⟩
                · refine RefL.skip rfl rfl ?_
                  refine RefL.skip rfl rfl ?_
                  refine RefL.pure rfl rfl (RanP.pickF rfl rfl) ?_
                  refine RefL.nil ?_
                  exact RefE.fin (s := false) ⟨rfl, rfl, rfl, trivial⟩
              · intro x15
                refine RefL.pure rfl rfl (RanP.assign rfl) ?_
                refine RefL.nil ?_
                refine RefE.next ?_
                refine RefC.cond rfl ?_ ?_
                · refine RefC.region ?_
                  refine RefL.pure rfl rfl (RanP.move rfl) ?_
                  refine RefL.li rfl rfl (Lt.nn rfl fun x16 => ?_)
                  refine RefL.pure rfl rfl (RanP.fieldAddr fa_119_0 rfl) ?_
                  refine RefL.hv rfl rfl (Hv.st Try.sizeOf3 rfl rfl rfl ?_)
                  refine RefL.nil ?_
                  exact RefE.finL (s := ()) ⟨rfl, rfl, trivial⟩
                · refine RefC.seq ?_
                  refine RefC.region ?_
                  refine RefL.pure rfl rfl (RanP.assign rfl) ?_
                  refine RefL.nil ?_
                  refine RefE.next ?_
                  refine RefC.ret ?_
                  refine RefE.finR ?_
                  refine RefE.blockRet ?_
                  refine RefE.thenRet ?_
                  refine RefE.retV rfl ?_
                  refine RefV.tmp rfl ?_
                  exact RefV.nil rfl
      · intro s17
        refine RefE.blockNormal ?_
        refine RefE.next ?_
        refine RefC.seq ?_
        refine RefC.seq ?_
        refine RefC.region ?_
        refine RefL.pure rfl rfl (RanP.move rfl) ?_
        refine RefL.nil ?_
        refine RefE.next ?_
        refine RefC.block ?_
        refine RefC.seq ?_
        refine RefC.region ?_
        refine RefL.pure rfl rfl (RanP.eql rfl rfl) ?_
        refine RefL.pure rfl rfl (RanP.assign rfl) ?_
        refine RefL.lt 50 (fun y => .bool y) rfl fun x18 => ?_
        refine RefL.nil ?_
        refine RefE.next ?_
        refine RefC.cut (enc := fun (s33 : Unit) => ([] : Env)) ?_ ?_
        · refine RefC.cond rfl ?_ ?_
          · refine RefC.region ?_
            refine RefL.pure rfl rfl (RanP.move rfl) ?_
            refine RefL.li rfl rfl (Lt.nn rfl fun x26 => ?_)
            refine RefL.pure rfl rfl (RanP.fieldAddr fa_119_1 rfl) ?_
            refine RefL.pure rfl rfl (RanP.ixArr (len := 2) (by decide) Try.underlying117 Try.sizeOf5 rfl rfl) ?_
            refine RefL.hv rfl rfl (Hv.st Try.sizeOf5 rfl rfl rfl ?_)
            refine RefL.nil ?_
            exact RefE.fin (s := ()) trivial
          · refine RefC.seq ?_
            refine RefC.region ?_
            refine RefL.pure rfl rfl (RanP.eql rfl rfl) ?_
            refine RefL.pure rfl rfl (RanP.assign rfl) ?_
            refine RefL.lt 56 (fun y => .bool y) rfl fun x27 => ?_
            refine RefL.nil ?_
            refine RefE.next ?_
            refine RefC.cond rfl ?_ ?_
            · refine RefC.region ?_
              refine RefL.pure rfl rfl (RanP.move rfl) ?_
              refine RefL.li rfl rfl (Lt.nn rfl fun x28 => ?_)
              refine RefL.pure rfl rfl (RanP.fieldAddr fa_119_1 rfl) ?_
              refine RefL.pure rfl rfl (RanP.ixArr (len := 2) (by decide) Try.underlying117 Try.sizeOf5 rfl rfl) ?_
              refine RefL.hv rfl rfl (Hv.st Try.sizeOf5 rfl rfl rfl ?_)
              refine RefL.nil ?_
              exact RefE.fin (s := ()) trivial
            · refine RefC.seq ?_
              refine RefC.region ?_
              refine RefL.pure rfl rfl (RanP.eql rfl rfl) ?_
              refine RefL.pure rfl rfl (RanP.assign rfl) ?_
              refine RefL.lt 62 (fun y => .bool y) rfl fun x29 => ?_
              refine RefL.nil ?_
              refine RefE.next ?_
              refine RefC.cond rfl ?_ ?_
              · refine RefC.region ?_
                refine RefL.pure rfl rfl (RanP.move rfl) ?_
                refine RefL.li rfl rfl (Lt.nn rfl fun x30 => ?_)
                refine RefL.pure rfl rfl (RanP.fieldAddr fa_119_1 rfl) ?_
                refine RefL.pure rfl rfl (RanP.ixArr (len := 2) (by decide) Try.underlying117 Try.sizeOf5 rfl rfl) ?_
                refine RefL.hv rfl rfl (Hv.st Try.sizeOf5 rfl rfl rfl ?_)
                refine RefL.nil ?_
                exact RefE.fin (s := ()) trivial
              · refine RefC.seq ?_
                refine RefC.region ?_
                refine RefL.pure rfl rfl (RanP.eql rfl rfl) ?_
                refine RefL.pure rfl rfl (RanP.assign rfl) ?_
                refine RefL.lt 68 (fun y => .bool y) rfl fun x31 => ?_
                refine RefL.nil ?_
                refine RefE.next ?_
                refine RefC.cond rfl ?_ ?_
                · refine RefC.region ?_
                  refine RefL.pure rfl rfl (RanP.move rfl) ?_
                  refine RefL.li rfl rfl (Lt.nn rfl fun x32 => ?_)
                  refine RefL.pure rfl rfl (RanP.fieldAddr fa_119_1 rfl) ?_
                  refine RefL.pure rfl rfl (RanP.ixArr (len := 2) (by decide) Try.underlying117 Try.sizeOf5 rfl rfl) ?_
                  refine RefL.hv rfl rfl (Hv.st Try.sizeOf5 rfl rfl rfl ?_)
                  refine RefL.nil ?_
                  exact RefE.fin (s := ()) trivial
                · refine RefC.skip ?_
                  exact RefE.fin (s := ()) trivial
        · intro s33
          refine RefE.blockNormal ?_
          refine RefE.next ?_
          refine RefC.seq ?_
          refine RefC.region ?_
          refine RefL.pure rfl rfl (RanP.assign rfl) ?_
          refine RefL.nil ?_
          refine RefE.next ?_
          refine RefC.ret ?_
          refine RefE.retV rfl ?_
          refine RefV.tmp rfl ?_
          exact RefV.nil rfl

def utf_Checker_take (K : Nat) (a0 : Option Addr) (a1 : Int) : G (Bool) :=
  nn a0 fun x1 =>
  ldI .i64 (x1.add 0) fun x2 =>
  if (x2 == (0 : Int)) = true then
    bnd (utf_Checker_begin K a0 a1) fun x3 =>
    ret x3
  else
    nn a0 fun x4 =>
    ldI .u8 ((x4.add 1).add ((0 : Int).toNat * 1)) fun x5 =>
    bnd (
      if (decide (a1 < x5)) = true then
        ret true
      else
        nn a0 fun x7 =>
        ldI .u8 ((x7.add 1).add ((1 : Int).toNat * 1)) fun x8 =>
        ret (decide (x8 < a1))) fun (x6 : Bool) =>
    if x6 = true then
      ret false
    else
      nn a0 fun x9 =>
      st (x9.add 1) (.agg (Agg.cells (A2u8.mk (128 : Int) (191 : Int))).toArray) <|
      nn a0 fun x10 =>
      ldI .i64 (x10.add 0) fun x11 =>
      nn a0 fun x12 =>
      st (x12.add 0) (.int .i64 (IntKind.wrap .i64 (x11 - (1 : Int)))) <|
      nn a0 fun x13 =>
      ldI .i64 (x13.add 0) fun x14 =>
      bnd (
        if (x14 == (0 : Int)) = true then
          nn a0 fun x18 =>
          ldI .i64 (x18.add 3) fun x19 =>
          nn a0 fun x20 =>
          st (x20.add 3) (.int .i64 (IntKind.wrap .i64 (x19 + (1 : Int)))) <|
          ret ()
        else
          ret ()) fun (s21 : Unit) =>
      ret true
set_option maxRecDepth 100000 in
theorem utf_Checker_take_ref (K : Nat) (a0 : Option Addr) (a1 : Int) : Does Try.prog 101 [.pointer a0, .int .u8 a1] (utf_Checker_take K a0 a1) (fun r => .bool r) := by
  refine Does.of Try.func101 rfl rfl rfl ?_
  unfold utf_Checker_take
  refine RefC.seq ?_
  refine RefC.region ?_
  refine RefL.pure rfl rfl (RanP.assign rfl) ?_
  refine RefL.nil ?_
  refine RefE.next ?_
  refine RefC.seq ?_
  refine RefC.seq ?_
  refine RefC.region ?_
  refine RefL.pure rfl rfl (RanP.move rfl) ?_
  refine RefL.li rfl rfl (Lt.nn rfl fun x1 => ?_)
  refine RefL.pure rfl rfl (RanP.fieldAddr fa_119_0 rfl) ?_
  refine RefL.li rfl rfl (Lt.ldI Try.isAgg3 rfl fun x2 => ?_)
  refine RefL.pure rfl rfl (RanP.eql rfl rfl) ?_
  refine RefL.nil ?_
  refine RefE.next ?_
  refine RefC.cond rfl ?_ ?_
  · refine RefC.seq ?_
    refine RefC.region ?_
    refine RefL.pure rfl rfl (RanP.move rfl) ?_
    refine RefL.pure rfl rfl (RanP.move rfl) ?_
    refine RefL.hv rfl rfl (Hv.call (utf_Checker_begin_ref K a0 a1) Try.call107 rfl rfl rfl fun x3 => ?_)
    refine RefL.pure rfl rfl (RanP.assign rfl) ?_
    refine RefL.nil ?_
    refine RefE.next ?_
    refine RefC.ret ?_
    refine RefE.thenRet ?_
    refine RefE.retV rfl ?_
    refine RefV.tmp rfl ?_
    exact RefV.nil rfl
  · refine RefC.skip ?_
    refine RefE.next ?_
    refine RefC.seq ?_
    refine RefC.seq ?_
    refine RefC.region ?_
    refine RefL.pure rfl rfl (RanP.move rfl) ?_
    refine RefL.pure rfl rfl (RanP.move rfl) ?_
    refine RefL.li rfl rfl (Lt.nn rfl fun x4 => ?_)
    refine RefL.pure rfl rfl (RanP.fieldAddr fa_119_1 rfl) ?_
    refine RefL.pure rfl rfl (RanP.ixArr (len := 2) (by decide) Try.underlying117 Try.sizeOf5 rfl rfl) ?_
    refine RefL.li rfl rfl (Lt.ldI Try.isAgg5 rfl fun x5 => ?_)
    refine RefL.pure rfl rfl (RanP.lss rfl rfl) ?_
    refine RefL.pure rfl rfl (RanP.move rfl) ?_
    refine RefL.cut (enc := fun (x6 : Bool) => ([(28, .bool x6), (0, .pointer a0)] : Env)) 8 ?_ ?_
    · refine RefL.ite (s := 20) rfl ?_ ?_
      · refine RefL.skip rfl rfl ?_
        refine RefL.skip rfl rfl ?_
        refine RefL.skip rfl rfl ?_
        refine RefL.skip rfl rfl ?_
        refine RefL.skip rfl rfl ?_
        refine RefL.skip rfl rfl ?_
        refine RefL.skip rfl rfl ?_
        refine RefL.pure rfl rfl (RanP.pickT rfl rfl) ?_
        refine RefL.nil ?_
        exact RefE.fin (s := true) ⟨rfl, rfl, trivial⟩
      · refine RefL.pure rfl rfl (RanP.move rfl) ?_
        refine RefL.pure rfl rfl (RanP.move rfl) ?_
        refine RefL.li rfl rfl (Lt.nn rfl fun x7 => ?_)
        refine RefL.pure rfl rfl (RanP.fieldAddr fa_119_1 rfl) ?_
        refine RefL.pure rfl rfl (RanP.ixArr (len := 2) (by decide) Try.underlying117 Try.sizeOf5 rfl rfl) ?_
        refine RefL.li rfl rfl (Lt.ldI Try.isAgg5 rfl fun x8 => ?_)
        refine RefL.pure rfl rfl (RanP.gtr rfl rfl) ?_
        refine RefL.pure rfl rfl (RanP.pickF rfl rfl) ?_
        refine RefL.nil ?_
        exact RefE.fin (s := (decide (x8 < a1))) ⟨rfl, rfl, trivial⟩
    · intro x6
      refine RefL.nil ?_
      refine RefE.next ?_
      refine RefC.cond rfl ?_ ?_
      · refine RefC.seq ?_
        refine RefC.region ?_
        refine RefL.pure rfl rfl (RanP.assign rfl) ?_
        refine RefL.nil ?_
        refine RefE.next ?_
        refine RefC.ret ?_
        refine RefE.thenRet ?_
        refine RefE.retV rfl ?_
        refine RefV.tmp rfl ?_
        exact RefV.nil rfl
      · refine RefC.skip ?_
        refine RefE.next ?_
        refine RefC.seq ?_
        refine RefC.region ?_
        refine RefL.pure rfl rfl (RanP.move rfl) ?_
        refine RefL.pure rfl rfl (RanP.build rfl (v := .agg (Agg.cells (A2u8.mk (128 : Int) (191 : Int))).toArray) (fun _ => by kernel_rfl)) ?_
        refine RefL.li rfl rfl (Lt.nn rfl fun x9 => ?_)
        refine RefL.pure rfl rfl (RanP.fieldAddr fa_119_1 rfl) ?_
        refine RefL.hv rfl rfl (Hv.st Try.sizeOf117 rfl rfl rfl ?_)
        refine RefL.nil ?_
        refine RefE.next ?_
        refine RefC.seq ?_
        refine RefC.region ?_
        refine RefL.pure rfl rfl (RanP.move rfl) ?_
        refine RefL.li rfl rfl (Lt.nn rfl fun x10 => ?_)
        refine RefL.pure rfl rfl (RanP.fieldAddr fa_119_0 rfl) ?_
        refine RefL.li rfl rfl (Lt.ldI Try.isAgg3 rfl fun x11 => ?_)
        refine RefL.pure rfl rfl (RanP.sub rfl rfl) ?_
        refine RefL.li rfl rfl (Lt.nn rfl fun x12 => ?_)
        refine RefL.pure rfl rfl (RanP.fieldAddr fa_119_0 rfl) ?_
        refine RefL.hv rfl rfl (Hv.st Try.sizeOf3 rfl rfl rfl ?_)
        refine RefL.nil ?_
        refine RefE.next ?_
        refine RefC.seq ?_
        refine RefC.seq ?_
        refine RefC.region ?_
        refine RefL.pure rfl rfl (RanP.move rfl) ?_
        refine RefL.li rfl rfl (Lt.nn rfl fun x13 => ?_)
        refine RefL.pure rfl rfl (RanP.fieldAddr fa_119_0 rfl) ?_
        refine RefL.li rfl rfl (Lt.ldI Try.isAgg3 rfl fun x14 => ?_)
        refine RefL.pure rfl rfl (RanP.eql rfl rfl) ?_
        refine RefL.nil ?_
        refine RefE.next ?_
        refine RefC.cut (enc := fun (s21 : Unit) => ([] : Env)) ?_ ?_
        · refine RefC.cond rfl ?_ ?_
          · refine RefC.region ?_
            refine RefL.pure rfl rfl (RanP.move rfl) ?_
            refine RefL.li rfl rfl (Lt.nn rfl fun x18 => ?_)
            refine RefL.pure rfl rfl (RanP.fieldAddr fa_119_2 rfl) ?_
            refine RefL.li rfl rfl (Lt.ldI Try.isAgg3 rfl fun x19 => ?_)
            refine RefL.pure rfl rfl (RanP.add rfl rfl) ?_
            refine RefL.li rfl rfl (Lt.nn rfl fun x20 => ?_)
            refine RefL.pure rfl rfl (RanP.fieldAddr fa_119_2 rfl) ?_
            refine RefL.hv rfl rfl (Hv.st Try.sizeOf3 rfl rfl rfl ?_)
            refine RefL.nil ?_
            exact RefE.fin (s := ()) trivial
          · refine RefC.skip ?_
            exact RefE.fin (s := ()) trivial
        · intro s21
          refine RefE.next ?_
          refine RefC.seq ?_
          refine RefC.region ?_
          refine RefL.pure rfl rfl (RanP.assign rfl) ?_
          refine RefL.nil ?_
          refine RefE.next ?_
          refine RefC.ret ?_
          refine RefE.retV rfl ?_
          refine RefV.tmp rfl ?_
          exact RefV.nil rfl

end Go.Proofs.Ytjdnjlnfcbaokaa
