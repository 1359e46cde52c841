/-
  THE LAWS OF append, copy, make, []byte(s), AND OF CALLS; what a result that lies in memory reads as. Own work.
-/
import Derived.Test.YtjdnjlnfcbaokaaGreatLgMem
set_option linter.unusedVariables false
set_option linter.unusedSimpArgs false
namespace Go.Lg
open Go

section
variable {P : Program} {n : Nat} {ρ τ : Type} {ops : Array Oper} {rest : List Oper} {env : Env} {m : G ρ} {K : Post ρ}
  {d : Option Tmp} {ty : TypeId} {pos : String} {af : Array Edge} {g : Option (Nat × Bool)} {x y z : Operand} {T T' : TypeId}

theorem run_firstCells {s : Sl} {k sz : Nat} {w : World} {l : List Value} (h : rdSl w ⟨s.a, k, s.c⟩ sz = some l) (q c : Nat) : (Builtin.firstCells sz k (.slice s.a q c)).run P w = .ok l.toArray w := by
  unfold rdSl at h
  cases ha : s.a with
  | none => simp only [ha, Option.some.injEq] at h; subst h; simp [Builtin.firstCells]
  | some a => simp only [ha] at h; simp only [Builtin.firstCells]; exact rdN_load h
theorem byt_map (s : ByteArray) : (s.data.map fun b => Value.int .u8 b.toNat) = (s.data.toList.map byt).toArray := by
  apply Array.ext'
  simp [byt]

/-- append of what 'src' reads -/
theorem drew_rdN (w : World) (a : Addr) (j q : Nat) : rdN w.drew a j q = rdN w a j q := by
  induction q generalizing j with
  | zero => rfl
  | succ q ih => simp only [rdN, ih]; rfl
theorem drew_rdSl (w : World) (s : Sl) (sz : Nat) : rdSl w.drew s sz = rdSl w s sz := by
  unfold rdSl; cases s.a <;> simp [drew_rdN]
theorem run_app {T U e : TypeId} {i : TypeInfo} {z0 : Value} {zs : List Value} {s : Sl} {k : Nat} {xv : Value} {src : World → Option (List Value)} {w : World} {u : TypeDesc}
    (hT : P.underlying T = some (.slice e)) (hU : P.underlying U = some u) (hu : ∀ q, u ≠ .int q) (hi : P.info? e = some i) (hz : i.zero = some z0) (hzs : z0.cells = zs.toArray)
    (hk : ∀ w, (Builtin.lenOf xv).run P w = .ok k w) (hs : ∀ w l, src w = some l → (Builtin.firstCells i.size k xv).run P w = .ok l.toArray w) (hd : src w.drew = src w)
    {β : Type} {f : Sl → G β} {Q : β → World → Prop} (hm : (Lg.app e i.size i.bytes zs s k src f).run w Q) :
    ∃ t w1, (Builtin.append_ #[T, U] ty #[.slice s.a s.n s.c, xv]).run P w = .ok (.slice t.a t.n t.c) w1 ∧ (f t).run w1 Q := by
  have huu : (match u with | .int _ => true | _ => false) = false := by
    cases u <;> first | rfl | exact absurd rfl (hu _)
  by_cases hfit : s.n + k ≤ s.c
  · obtain ⟨new, hnew, w1, h1, hf⟩ := hm.1 hfit
    refine ⟨⟨s.a, s.n + k, s.c⟩, w1, ?_, hf⟩
    cases ha : s.a with
    | some a => rw [ha] at h1; simp [Builtin.append_, run_underlying hT, run_underlying hU, huu, sizeOf, typeInfo, hi, hk, hs w new hnew, hfit, stN_run h1]
    | none => rw [ha] at h1; simp only at h1; rw [h1]; simp [Builtin.append_, run_underlying hT, run_underlying hU, huu, sizeOf, typeInfo, hi, hk, hs w new hnew, hfit]
  · obtain ⟨hcap, old, new, hold, hnew, hf⟩ := hm.2 (by omega)
    have hc : s.n + k ≤ grownCap w (s.n + k) s.c e := by unfold grownCap Question.cut; simp
    refine ⟨_, _, ?_, hf _ hc⟩
    have h2 : ¬ (281474976710656 < Builtin.nextslicecap (s.n + k) s.c * i.bytes) := by omega
    have h3 : i.bytes ≠ 0 := by omega
    have hold' : rdSl w.drew ⟨s.a, s.n, s.c⟩ i.size = some old := (drew_rdSl w _ _).trans hold
    have f1 := run_firstCells (P := P) hold' s.n s.c
    have f2 := hs w.drew new (hd.trans hnew)
    simp [Builtin.append_, run_underlying hT, run_underlying hU, huu, sizeOf, typeInfo, zeroValue, hi, hz, hzs, hk, hfit, h2, h3, Question.forced, f1, f2, newRow, grownCap]
    congr 2
    apply Array.ext'
    simp
theorem wrap_id {x : Int} (h0 : -9223372036854775808 ≤ x) (h1 : x ≤ 9223372036854775807) : IntKind.i64.wrap x = x := by
  rw [IntKind.wrap_i64]; omega
/-- append of n zeroes -/
theorem run_appZ {T U e : TypeId} {i : TypeInfo} {z0 : Value} {zs : List Value} {s : Sl} {k : Int} {q : IntKind} {w : World}
    (hT : P.underlying T = some (.slice e)) (hU : P.underlying U = some (.int q)) (hi : P.info? e = some i) (hz : i.zero = some z0) (hzs : z0.cells = zs.toArray) (hsz : zs.length = i.size)
    (h0 : 0 ≤ k) (h1 : (i.bytes : Int) * k ≤ 281474976710656) (h3 : (s.n : Int) + k ≤ 9223372036854775807) (h4 : 0 < i.bytes)
    {β : Type} {f : Sl → G β} {Q : β → World → Prop} (hm : (Lg.app e i.size i.bytes zs s k.toNat (fun _ => some (Builtin.zeroCells zs.toArray k.toNat).toList) f).run w Q) :
    ∃ t w1, (Builtin.append_ #[T, U] ty #[.slice s.a s.n s.c, .int q k]).run P w = .ok (.slice t.a t.n t.c) w1 ∧ (f t).run w1 Q := by
  have wk : IntKind.i64.wrap k = k := wrap_id (by omega) (by omega)
  have n1 : ¬ k < 0 := by omega
  have n2 : ¬ (281474976710656 < k * (i.bytes : Int)) := by rw [Int.mul_comm]; omega
  have hze : k.toNat * i.size = 0 → Builtin.zeroCells zs.toArray k.toNat = #[] := fun hc => by
    simp [Builtin.zeroCells, hsz, hc, show Array.range 0 = (#[] : Array Nat) from rfl]
  by_cases hfit : s.n + k.toNat ≤ s.c
  · obtain ⟨new, hnew, w1, h5, hf⟩ := hm.1 hfit
    simp only [Option.some.injEq] at hnew
    refine ⟨⟨s.a, s.n + k.toNat, s.c⟩, w1, ?_, hf⟩
    cases ha : s.a with
    | some a =>
      rw [ha] at h5; simp only at h5; rw [← hnew] at h5
      by_cases hc : k.toNat * i.size = 0
      · rw [hze hc] at h5
        have h6 := stN_run (P := P) h5
        simp [Builtin.append_, run_underlying hT, run_underlying hU, sizeOf, typeInfo, asInt, asIntOf, hi, wk, n1, n2, hc, hfit, h6]
      · simp [Builtin.append_, run_underlying hT, run_underlying hU, sizeOf, typeInfo, zeroValue, hz, hzs, asInt, asIntOf, hi, wk, n1, n2, hc, hfit, stN_run h5]
    | none =>
      rw [ha] at h5; simp only at h5; rw [h5]
      by_cases hc : k.toNat * i.size = 0
      · simp [Builtin.append_, run_underlying hT, run_underlying hU, sizeOf, typeInfo, asInt, asIntOf, hi, wk, n1, n2, hc, hfit]
      · simp [Builtin.append_, run_underlying hT, run_underlying hU, sizeOf, typeInfo, zeroValue, hz, hzs, asInt, asIntOf, hi, wk, n1, n2, hc, hfit]
  · obtain ⟨hcap, old, new, hold, hnew, hf⟩ := hm.2 (by omega)
    simp only [Option.some.injEq] at hnew
    have hc : s.n + k.toNat ≤ grownCap w (s.n + k.toNat) s.c e := by unfold grownCap Question.cut; simp
    refine ⟨_, _, ?_, hf _ hc⟩
    have h2 : ¬ (281474976710656 < Builtin.nextslicecap (s.n + k.toNat) s.c * i.bytes) := by omega
    have h3' : i.bytes ≠ 0 := by omega
    have h6 : ¬ (IntKind.i64.max < ((s.n + k.toNat : Nat) : Int)) := by
      have : IntKind.i64.max = 9223372036854775807 := by decide
      omega
    have h6' : ¬ (IntKind.i64.max < (s.n : Int) + ((k.toNat : Nat) : Int)) := by
      have : IntKind.i64.max = 9223372036854775807 := by decide
      omega
    have h6'' : ¬ (IntKind.i64.max < (s.n : Int) + max k 0) := by
      have : IntKind.i64.max = 9223372036854775807 := by decide
      omega
    have h7 : ¬ (9223372036854775807 < (s.n : Int) + max k 0) := by omega
    have hold' : rdSl w.drew ⟨s.a, s.n, s.c⟩ i.size = some old := (drew_rdSl w _ _).trans hold
    have f1 := run_firstCells (P := P) hold' s.n s.c
    subst hnew
    by_cases hc : k.toNat * i.size = 0
    · rw [hze hc]
      simp [Builtin.append_, run_underlying hT, run_underlying hU, sizeOf, typeInfo, zeroValue, asInt, asIntOf, hi, hz, hzs, wk, n1, n2, hfit, h2, h3', h7, hc, Question.forced, f1, newRow, grownCap]
    · simp [Builtin.append_, run_underlying hT, run_underlying hU, sizeOf, typeInfo, zeroValue, asInt, asIntOf, hi, hz, hzs, wk, n1, n2, hfit, h2, h3', h7, hc, Question.forced, f1, newRow, grownCap]
      congr 2
      apply Array.ext'
      simp
section
variable {J : Value → G ρ → Prop}
theorem Hv.appS {s t : Sl} {f : Sl → G ρ} {ts : Array TypeId} {e e' : TypeId} {i : TypeInfo} {z0 : Value} {zs : List Value} (hts : ts = #[T, T']) (hT : P.underlying T = some (.slice e)) (hU : P.underlying T' = some (.slice e')) (hi : P.info? e = some i) (hz : i.zero = some z0) (hzs : z0.cells = zs.toArray)
    (hx : env.evs [x, y] = some [.slice s.a s.n s.c, .slice t.a t.n t.c]) (h : ∀ q : Sl, J (.slice q.a q.n q.c) (f q)) : Hv P env ⟨d, .call ⟨.builtin .append, #[x, y], ts⟩, ty, pos, af, g⟩ (Lg.appS e i.size i.bytes zs s t f) J := fun w Q hm ρ hρ => by
  subst hts
  obtain ⟨q, w1, hr, hf⟩ := run_app (P := P) (T := T) (U := T') (ty := ty) (xv := .slice t.a t.n t.c) hT hU (fun q => by simp) hi hz hzs (fun w => by simp [Builtin.lenOf]) (fun w l hl => run_firstCells (s := t) hl t.n t.c) (drew_rdSl w t _) hm
  refine .inl ⟨_, w1, ?_, f q, hf, h q⟩
  have ex := Env.evs_map hρ hx
  simp at ex
  simp [execOp, resolve, invoke, builtin, ex.1, ex.2, hr]
theorem Hv.appT {s : Sl} {t : ByteArray} {f : Sl → G ρ} {ts : Array TypeId} {e : TypeId} {i : TypeInfo} {z0 : Value} {zs : List Value} (hts : ts = #[T, T']) (hT : P.underlying T = some (.slice e)) (hU : P.underlying T' = some .string) (hi : P.info? e = some i) (hz : i.zero = some z0) (hzs : z0.cells = zs.toArray) (h1 : i.size = 1) (h2 : i.bytes = 1)
    (hx : env.evs [x, y] = some [.slice s.a s.n s.c, .string t]) (h : ∀ q : Sl, J (.slice q.a q.n q.c) (f q)) : Hv P env ⟨d, .call ⟨.builtin .append, #[x, y], ts⟩, ty, pos, af, g⟩ (Lg.appT e zs s t f) J := fun w Q hm ρ hρ => by
  subst hts
  unfold Lg.appT at hm
  have hm' : (Lg.app e i.size i.bytes zs s t.size (fun _ => some (bytes t)) f).run w Q := by rw [h1, h2]; exact hm
  obtain ⟨q, w1, hr, hf⟩ := run_app (P := P) (T := T) (U := T') (ty := ty) (xv := .string t) hT hU (fun q => by simp) hi hz hzs (fun w => by simp [Builtin.lenOf]) (fun w l hl => by
    simp only [Option.some.injEq] at hl; subst hl
    simp only [Builtin.firstCells, Sem.run_pure]
    rw [byt_map]
    congr 2
    have : (t.extract 0 t.size) = t := by apply ByteArray.ext; simp
    rw [this]; rfl) rfl hm'
  refine .inl ⟨_, w1, ?_, f q, hf, h q⟩
  have ex := Env.evs_map hρ hx
  simp at ex
  simp [execOp, resolve, invoke, builtin, ex.1, ex.2, hr]
theorem Hv.appZ {s : Sl} {k : Int} {q : IntKind} {f : Sl → G ρ} {ts : Array TypeId} {e : TypeId} {i : TypeInfo} {z0 : Value} {zs : List Value} (hts : ts = #[T, T']) (hT : P.underlying T = some (.slice e)) (hU : P.underlying T' = some (.int q)) (hi : P.info? e = some i) (hz : i.zero = some z0) (hzs : z0.cells = zs.toArray) (hsz : zs.length = i.size)
    (h4 : Nat.blt 0 i.bytes = true) (hx : env.evs [x, y] = some [.slice s.a s.n s.c, .int q k]) (h : ∀ q : Sl, J (.slice q.a q.n q.c) (f q)) : Hv P env ⟨d, .call ⟨.builtin .append, #[x, y], ts⟩, ty, pos, af, g⟩ (Lg.appZ e i.size i.bytes zs s k f) J := fun w Q ⟨hc, hm⟩ ρ hρ => by
  subst hts
  obtain ⟨t, w1, hr, hf⟩ := run_appZ (P := P) (T := T) (U := T') (ty := ty) hT hU hi hz hzs hsz hc.1 hc.2.1 hc.2.2 (by simpa [Nat.blt_eq] using h4) hm
  refine .inl ⟨_, w1, ?_, f t, hf, h t⟩
  have ex := Env.evs_map hρ hx
  simp at ex
  simp [execOp, resolve, invoke, builtin, ex.1, ex.2, hr]
theorem Hv.cpy {s t : Sl} {f : Int → G ρ} {ts : Array TypeId} {e : TypeId} {sz : Nat} (hts : ts = #[T, T']) (hT : P.underlying T = some (.slice e)) (hz : ∀ w, (sizeOf e).run P w = .ok sz w)
    (hx : env.evs [x, y] = some [.slice s.a s.n s.c, .slice t.a t.n t.c]) (h : ∀ q : Int, J (.int .i64 q) (f q)) : Hv P env ⟨d, .call ⟨.builtin .copy, #[x, y], ts⟩, ty, pos, af, g⟩ (Lg.cpy sz s t f) J := fun w Q ⟨l, hl, w1, h1, hm⟩ ρ hρ => by
  subst hts
  have f1 := run_firstCells (P := P) (s := t) (k := min t.n s.n) hl t.n t.c
  refine .inl ⟨.int .i64 ((min t.n s.n : Nat) : Int), w1, ?_, _, hm, h _⟩
  have ex := Env.evs_map hρ hx
  simp at ex
  simp only [execOp, resolve, invoke, builtin]
  cases ha : s.a with
  | some a =>
    rw [ha] at h1
    simp [ex.1, ex.2, Builtin.copy_, run_underlying hT, hz, Builtin.lenOf, ha, goInt, Nat.min_def] at f1 ⊢
    simp only [f1, Result.andThen_ok, stN_run h1]
  | none =>
    rw [ha] at h1; simp only at h1; subst h1
    simp [ex.1, ex.2, Builtin.copy_, run_underlying hT, hz, Builtin.lenOf, ha, goInt, Nat.min_def] at f1 ⊢
    simp only [f1, Result.andThen_ok]
theorem Hv.mk {a b : Int} {f : Sl → G ρ} {e : TypeId} {i : TypeInfo} {z0 : Value} {zs : List Value} {k1 k2 : IntKind} (hT : P.underlying T = some (.slice e)) (hi : P.info? e = some i) (hz : i.zero = some z0) (hzs : z0.cells = zs.toArray) (hsz : zs.length = i.size)
    (hx : env.ev x = some (.int k1 a)) (hy : env.ev y = some (.int k2 b)) (h : ∀ q : Sl, J (.slice q.a q.n q.c) (f q)) : Hv P env ⟨d, .makeSlice T x y, ty, pos, af, g⟩ (Lg.mk e i.size i.bytes zs a b f) J := fun w Q ⟨hc, hm⟩ ρ hρ => by
  obtain ⟨c1, c2, c3, c4⟩ := hc
  refine .inl ⟨_, _, ?_, _, hm, h _⟩
  have wa : IntKind.i64.wrap a = a := wrap_id (by omega) (by omega)
  have wb : IntKind.i64.wrap b = b := wrap_id (by omega) (by omega)
  have n1 : ¬ b < 0 := by omega
  have n2 : ¬ (281474976710656 < (i.bytes : Int) * b) := by omega
  have n3 : ¬ a < 0 := by omega
  have n4 : ¬ b < a := by omega
  simp only [execOp, hρ _ _ hx, hρ _ _ hy, Instr.makeSlice]
  simp [run_underlying hT, asInt, asIntOf, typeInfo, sizeOf, zeroValue, hi, hz, hzs, wa, wb, n1, n2, n3, n4, newRow]
  by_cases h0 : b.toNat * i.size = 0
  · simp only [h0, if_true]
    simp [Builtin.zeroCells, hsz, h0, show Array.range 0 = (#[] : Array Nat) from rfl]
  · simp only [h0, if_false]
    simp [Builtin.zeroCells, hsz, h0]
theorem Hv.bytesOf {s : ByteArray} {f : Sl → G ρ} {src dst e : TypeId} (hs' : P.underlying src = some .string) (hd' : P.underlying dst = some (.slice e)) (he : P.underlying e = some (.int .u8)) (hx : env.ev x = some (.string s)) (h : ∀ q : Sl, J (.slice q.a q.n q.c) (f q)) : Hv P env ⟨d, .convert src dst x, ty, pos, af, g⟩ (Lg.bytesOf e s f) J := fun w Q hm ρ hρ => by
  have hc : s.size ≤ grownCap w s.size 0 e := by unfold grownCap Question.cut; simp
  refine .inl ⟨_, _, ?_, _, hm _ hc, h _⟩
  simp only [execOp, hρ _ _ hx, Sem.run_bind, run_bytes_of_string w src dst e s hs' hd' he, Result.andThen_ok, Sem.run_pure]
theorem Hv.mark {s : Sl} {f : G ρ} {e : TypeId} (hT : P.underlying T = some (.slice e)) (he : P.underlying e = some (.int .u8)) (hx : env.ev x = some (.slice s.a s.n s.c)) (h : J (.slice s.a s.n s.c) f) : Hv P env ⟨d, .convert T T x, ty, pos, af, g⟩ (Lg.mrk s f) J := fun w Q ⟨a, ea, hm⟩ ρ hρ => by
  refine .inl ⟨_, markW w a, ?_, f, hm, h⟩
  rw [ea] at hx ⊢
  have hmk : (markStringish a).run P w = .ok () (markW w a) := by
    unfold markStringish markW
    cases hh : w.shape? a.block with
    | none => simp [hh]
    | some p => simp [hh]
  simp [execOp, hρ _ _ hx, convert, run_underlying hT, run_underlying he, hmk]
theorem RanP.extern {f : Nat} {fx : Operand} {xs : List Operand} {vs : List Value} {ts : Array TypeId} {v : Value} (hr : ∀ w, (callFunc f vs.toArray).run P w = .ok (.value v) w) (hf : env.ev fx = some (.func (.func f) #[] #[])) (hx : env.evs xs = some vs) : RanP P env ⟨d, .call ⟨.value fx, xs.toArray, ts⟩, ty, pos, af, g⟩ v := fun u ρ hρ => by
  simp [execOp, resolve, Deferred.ofValue, hρ _ _ hf, Env.evs_map hρ hx, invoke, hr]
/-! ### calls -/
theorem Hv.call {f : Nat} {args : List Value} {F : G τ} {enc : τ → Value} {m2 : τ → G ρ} {fx : Operand} {xs : List Operand} {vs caps : List Value} {ts : Array TypeId} (hc : Does P f args F enc) (hcall : ∀ args w, (callFunc f args).run P w = .ok (.enter f args) w)
    (hf : env.ev fx = some (.func (.func f) #[] caps.toArray)) (hx : env.evs xs = some vs) (ha : args = vs ++ caps) (h : ∀ r, J (enc r) (m2 r)) : Hv P env ⟨d, .call ⟨.value fx, xs.toArray, ts⟩, ty, pos, af, g⟩ (Lg.bnd F m2) J := fun w Q hm ρ hρ => by
  refine .inr (.inr ⟨f, args.toArray, w, ?_, (hc w _ hm).mono fun e w' ⟨r, he, hq⟩ => ⟨enc r, he, m2 r, hq, h r⟩⟩)
  subst ha
  simp [execOp, resolve, Deferred.ofValue, hρ _ _ hf, Env.evs_map hρ hx, invoke, hcall]
end
theorem RefL.wld {l : List Oper} {f : World → G ρ} (h : ∀ u, RefL P n ops l env (f u) K) : RefL P n ops l env (Lg.wld f) K := fun w Q hm a hs => h w w Q hm a hs
/-! ### results that lie in memory -/
section
variable {rs : List ResultVar} {acc : List Value} {enc : ρ → Value} {t : Nat} {a : Addr}
theorem RefV.cell1 {v : Value} {w : World} {Q : ρ → World → Prop} {f : G ρ} (hT : ∀ w, (isAgg T).run P w = .ok false w) (ht : env.get t = some (.pointer (some a))) (hv : w.cell? a = some v) (hm : f.run w Q) (h : RefV P n rs (acc ++ [v]) env f enc) (ac : Act) (hs : Sim n env ac) :
    ∃ vs : List Value, ((ResultVar.cell t T :: rs).mapM (resAt ac.tmps)).run P w = .ok vs w ∧ ∃ r, enc r = pack (acc ++ vs) ∧ Q r w := by
  obtain ⟨vs, h1, r, h2, h3⟩ := h w Q hm ac hs
  refine ⟨v :: vs, ?_, r, by simpa using h2, h3⟩
  simp [List.mapM_cons, resAt, hs.get t _ ht, asAddr, loadVar, hT, hv, h1]
theorem RefV.cellI {k : IntKind} {f : Int → G ρ} (hT : ∀ w, (isAgg T).run P w = .ok false w) (ht : env.get t = some (.pointer (some a))) (h : ∀ v, RefV P n rs (acc ++ [.int k v]) env (f v) enc) : RefV P n (.cell t T :: rs) acc env (Lg.ldI k a f) enc := fun w Q ⟨v, e, hm⟩ ac hs => RefV.cell1 hT ht e hm (h v) ac hs
theorem RefV.cellB {f : Bool → G ρ} (hT : ∀ w, (isAgg T).run P w = .ok false w) (ht : env.get t = some (.pointer (some a))) (h : ∀ v, RefV P n rs (acc ++ [.bool v]) env (f v) enc) : RefV P n (.cell t T :: rs) acc env (Lg.ldB a f) enc := fun w Q ⟨v, e, hm⟩ ac hs => RefV.cell1 hT ht e hm (h v) ac hs
theorem RefV.cellS {f : ByteArray → G ρ} (hT : ∀ w, (isAgg T).run P w = .ok false w) (ht : env.get t = some (.pointer (some a))) (h : ∀ v, RefV P n rs (acc ++ [.string v]) env (f v) enc) : RefV P n (.cell t T :: rs) acc env (Lg.ldS a f) enc := fun w Q ⟨v, e, hm⟩ ac hs => RefV.cell1 hT ht e hm (h v) ac hs
theorem RefV.cellP {f : Option Addr → G ρ} (hT : ∀ w, (isAgg T).run P w = .ok false w) (ht : env.get t = some (.pointer (some a))) (h : ∀ v, RefV P n rs (acc ++ [.pointer v]) env (f v) enc) : RefV P n (.cell t T :: rs) acc env (Lg.ldP a f) enc := fun w Q ⟨v, e, hm⟩ ac hs => RefV.cell1 hT ht e hm (h v) ac hs
theorem RefV.cellSl {f : Sl → G ρ} (hT : ∀ w, (isAgg T).run P w = .ok false w) (ht : env.get t = some (.pointer (some a))) (h : ∀ v : Sl, RefV P n rs (acc ++ [.slice v.a v.n v.c]) env (f v) enc) : RefV P n (.cell t T :: rs) acc env (Lg.ldSl a f) enc := fun w Q ⟨v, e, hm⟩ ac hs => RefV.cell1 hT ht e hm (h v) ac hs
theorem RefV.cellG [Agg τ] {f : τ → G ρ} (hT : ∀ w, (isAgg T).run P w = .ok true w) (hz : ∀ w, (sizeOf T).run P w = .ok (Agg.size τ) w) (ht : env.get t = some (.pointer (some a))) (h : ∀ v : τ, RefV P n rs (acc ++ [.agg (Agg.cells v).toArray]) env (f v) enc) : RefV P n (.cell t T :: rs) acc env (Lg.ldG a f) enc := fun w Q ⟨i, e, hm⟩ ac hs => by
  obtain ⟨vs, h1, r, h2, h3⟩ := h i w Q hm ac hs
  refine ⟨.agg (Agg.cells i).toArray :: vs, ?_, r, by simpa using h2, h3⟩
  simp [List.mapM_cons, resAt, hs.get t _ ht, asAddr, loadVar, hT, hz, rdN_load e, h1]
end
end
end Go.Lg
