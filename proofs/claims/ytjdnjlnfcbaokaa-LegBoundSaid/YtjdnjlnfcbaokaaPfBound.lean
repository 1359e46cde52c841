/-
  It is proved that 'pendentivelaw16.LegBound' returns true for every input, and leaves its arguments as they were: the statement 'Rows.LegBoundSaid'. No condition.
  The frame is the guide's (HOWTO 4); the walk is 'law16_LegBound_ref' and 'legBound_spec'.
-/
import Derived.Test.YtjdnjlnfcbaokaaRows
import Derived.Test.YtjdnjlnfcbaokaaJn
import Derived.Test.YtjdnjlnfcbaokaaLwBound
import Derived.WalkKit
import Derived.ProofKit
import Derived.OpenShut
import Derived.ShutString
import Derived.ChangeOld
import Derived.Below
namespace Go.Proofs.Ytjdnjlnfcbaokaa.legBound
open Go Go.Lg Go.ChangeShapes Go.WideShapes Go.ChangeAt Go.RowKit
set_option linter.unusedVariables false
set_option maxRecDepth 20000

theorem own : ownKnob Try.prog.godebug = none := by kernel_rfl
theorem laidOut : laidOutB Try.prog = true := by kernel_rfl
theorem u32n {n : Int} (h : (Lit.int .u32 n).wf = true) : ∃ m : Nat, n = (m : Int) ∧ m < 4294967296 := by
  have h1 : IntKind.u32.min = 0 := by decide
  have h2 : IntKind.u32.max = 4294967295 := by decide
  simp only [Lit.wf, Bool.and_eq_true, decide_eq_true_eq, h1, h2] at h
  exact ⟨n.toNat, by omega, by omega⟩
theorem u8n {n : Int} (h : (Lit.int .u8 n).wf = true) : ∃ m : Nat, n = (m : Int) ∧ m < 256 := by
  have h1 : IntKind.u8.min = 0 := by decide
  have h2 : IntKind.u8.max = 255 := by decide
  simp only [Lit.wf, Bool.and_eq_true, decide_eq_true_eq, h1, h2] at h
  exact ⟨n.toNat, by omega, by omega⟩
instance : Inhabited Tref16_Act := ⟨⟨0, 0, 0, 0, ByteArray.mk #[]⟩⟩
theorem told : ToldBy Try.prog 43 (fun t : Tref16_Act => Agg.cells t) actOk := by
  intro H enc w base spare held fuel cs x hx
  obtain ⟨xs, n, _, _, hl, hxl, hf⟩ := DataW.trod_struct Try.underlying43 hx
  have c43 : Try.prog.cellsOf 43 = 5 := by kernel_rfl
  have c3 : Try.prog.cellsOf 3 = 1 := by kernel_rfl
  have c9 : Try.prog.cellsOf 9 = 1 := by kernel_rfl
  rw [c43] at hl
  have hx5 : xs.length = 5 := hxl
  have g : ∀ i, i < 5 → xs[i]? = some (xs.getD i default) := fun i hi => by
    rw [List.getD_eq_getElem?_getD, List.getElem?_eq_getElem (by omega)]; rfl
  have h0 := (hf 0 _ rfl).trans (g 0 (by omega))
  have h1 := (hf 1 _ rfl).trans (g 1 (by omega))
  have h2 := (hf 2 _ rfl).trans (g 2 (by omega))
  have h3 := (hf 3 _ rfl).trans (g 3 (by omega))
  have h4 := (hf 4 _ rfl).trans (g 4 (by omega))
  change DataW.trod enc _ w base spare held n 3 ((cs.drop 0).take (Try.prog.cellsOf 3)) = _ at h0
  rw [c3] at h0
  change DataW.trod enc _ w base spare held n 3 ((cs.drop 1).take (Try.prog.cellsOf 3)) = _ at h1
  rw [c3] at h1
  change DataW.trod enc _ w base spare held n 3 ((cs.drop 2).take (Try.prog.cellsOf 3)) = _ at h2
  rw [c3] at h2
  change DataW.trod enc _ w base spare held n 3 ((cs.drop 3).take (Try.prog.cellsOf 3)) = _ at h3
  rw [c3] at h3
  change DataW.trod enc _ w base spare held n 9 ((cs.drop 4).take (Try.prog.cellsOf 9)) = _ at h4
  rw [c9] at h4
  obtain ⟨k, e0, _, _⟩ := DataW.trod_int Try.underlying3 h0
  obtain ⟨op, e1, _, _⟩ := DataW.trod_int Try.underlying3 h1
  obtain ⟨code, e2, _, _⟩ := DataW.trod_int Try.underlying3 h2
  obtain ⟨nn, e3, _, w3⟩ := DataW.trod_int Try.underlying3 h3
  obtain ⟨s, e4, _, _⟩ := DataW.trod_string Try.underlying9 h4
  refine ⟨⟨k, op, code, nn, s⟩, ?_, w3⟩
  match cs, hl with
  | [a, b, c, d, e], _ =>
    simp at e0 e1 e2 e3 e4
    subst e0; subst e1; subst e2; subst e3; subst e4; rfl

/-! ### The walk -/
theorem walk {x y z : Int} (wx : (Lit.int .u8 x).wf = true) (wy : (Lit.int .u8 y).wf = true) (wz : (Lit.int .u8 z).wf = true) (masked : Bool) {draw : Int} (wd : (Lit.int .u32 draw).wf = true) (a : Option Addr) (len cap : Nat) (acts : List Tref16_Act) (w : World)
    (hl : len = acts.length) (hb : len ≤ maxLen) (ho : ∀ t ∈ acts, actOk t) (hr : rdSl w ⟨a, len, cap⟩ 5 = some (acts.flatMap fun t => Agg.cells t)) :
    Calls Try.prog 4 #[.agg #[.int .u8 x, .int .u8 y, .int .u8 z], .bool masked, .int .u32 draw, .slice a len cap] w fun e w' => e = .returned (.bool true) ∧ Below w.heap.size w w' := by
  obtain ⟨m, rfl, hm⟩ := u8n wx
  obtain ⟨s, rfl, hs⟩ := u8n wy
  obtain ⟨o, rfl, ho'⟩ := u8n wz
  obtain ⟨d, rfl, hd⟩ := u32n wd
  obtain ⟨K, hK⟩ : ∃ K, KBig K := ⟨_, Nat.le_refl _⟩
  have h1 := legBound_spec (ρ := hpOf w) (k := ⟨(m : Int), (s : Int), (o : Int)⟩) (masked := masked) (draw := d) (sl := ⟨a, len, cap⟩) (acts := acts) hK rfl rfl rfl hm hs ho' hd (Rd.old hr) hl ho
  exact (law16_LegBound_ref K ⟨(m : Int), (s : Int), (o : Int)⟩ masked (d : Int) ⟨a, len, cap⟩).call h1

/-! ### The row's step -/
set_option maxRecDepth 100000 in
theorem lifted (os : Os) (started : os.Started) (H : Type) (enc : TypeId × Value → H) :
    ReturnsInHanded {} Try.checked os 4 .any (Rows.legBoundSpec.pre6 enc Try.prog Try.f4 Rows.legBoundRow.domain false) (Rows.legBoundSpec.post enc Try.prog Try.f4 false true false false) := by
  refine returnsInHanded_of_change (C := Try.checked) own started (by kernel_rfl) Try.func4
    (ChangeSpec.witness6 (enc := enc) (C := Try.checked) false ⟨#[], #[.agg #[.int .u8 0, .int .u8 0, .int .u8 0], .bool false, .int .u32 0, .slice none 0 0], []⟩ 8 (by kernel_rfl) (by kernel_rfl) (by kernel_rfl) (by kernel_rfl)) ?_
  intro W base args ds gs before hval0 hW hcnd _
  have hval : ∀ (j : Nat) t v, Try.f4.params[j]? = some t → args[j]? = some v → Value.okWide Try.prog W .any base t v := hval0
  have hW' := hW
  obtain ⟨p, q, hA0, hV, rfl, hfz, hnd⟩ := hW
  have hA : DataW.TrodAll enc Try.prog W 0 (fun _ => true) true Try.f4.params.toList args.toList ds p := hA0
  rw [Try.params4] at hA hval
  obtain ⟨v0, vs0, d0, ds0, p0, q0, hargs, rfl, rfl, h0, r0⟩ := trodAll_cons hA
  obtain ⟨v1, vs1, d1, ds1, p1, q1, rfl, rfl, rfl, h1, r1⟩ := trodAll_cons r0
  obtain ⟨v2, vs2, d2, ds2, p2, q2, rfl, rfl, rfl, h2, r2⟩ := trodAll_cons r1
  obtain ⟨v3, vs3, d3, ds3, p3, q3, rfl, rfl, rfl, h3, r3⟩ := trodAll_cons r2
  obtain ⟨rfl, rfl, rfl⟩ := trodAll_nil r3
  obtain rfl : args = #[v0, v1, v2, v3] := by cases args; simp_all
  obtain ⟨rfl, rfl⟩ := trodVars_none hV
  have k0 := h0
  have lt0 : ∀ x ∈ p0, x.block < W.heap.size := by obtain ⟨m, hm⟩ := k0; exact DataW.trod_lt m _ _ _ hm
  obtain ⟨x, y, z, rfl, wx, wy, wz⟩ := open_arr3 Try.underlying40 Try.underlying5 (by kernel_rfl) (by kernel_rfl) (hval 0 40 v0 rfl rfl) h0
  obtain ⟨b1, rfl, rfl, rfl⟩ := open_bool Try.underlying4 (hval 1 4 v1 rfl rfl) h1
  obtain ⟨a2, rfl, rfl, rfl, w2⟩ := open_int Try.underlying31 (hval 2 31 v2 rfl rfl) h2
  obtain ⟨a3, len3, cap3, rfl⟩ := okWide_slice Try.underlying41 (hval 3 41 v3 rfl rfl)
  have k3 := h3
  have lt3 : ∀ x ∈ p3, x.block < W.heap.size := by obtain ⟨m, hm⟩ := k3; exact DataW.trod_lt m _ _ _ hm
  obtain ⟨acts, hl, hlc, hcm, hok, hrd⟩ := ToldBy.slice told Try.underlying41 (by kernel_rfl : Try.prog.cellsOf 43 = 5) (fun _ => rfl) h3
  clear hA0 hval0
  refine (walk wx wy wz b1 w2 a3 len3 cap3 acts W hl (by omega) hok hrd).mono fun e W' ⟨he, bel⟩ => ?_
  subst he
  exact ⟨_, rfl, _, _, _, [], _, [], hW', trodAll_mk1 (shut_bool Try.underlying4 _), (trodAll_cons_mk (Below.trod laidOut (by kernel_rfl) (of_decide_eq_true (by kernel_rfl)) k0 bel lt0) (trodAll_cons_mk (shut_bool Try.underlying4 _) (trodAll_cons_mk (shut_int Try.underlying31 w2) (trodAll_cons_mk (Below.trod laidOut (by kernel_rfl) (of_decide_eq_true (by kernel_rfl)) k3 bel lt3) trodAll_mk0)))), rfl, bel.frame _, fun h => by cases h⟩

theorem over : Rows.legBoundRow.holds Try.pinned (OpenSpec.ofChange Rows.legBoundSpec) :=
  OpenClaim.holds_of_wide 4 Try.f4 rfl rfl rfl rfl rfl rfl rfl ⟨rfl, rfl, rfl, rfl, rfl⟩ rfl rfl rfl rfl rfl (by kernel_rfl) Try.func4 (by kernel_rfl)
    (of_decide_eq_true (by kernel_rfl)) (by unfold Func.isWrapper; first | (rw [if_pos (by decide +kernel)]; kernel_rfl) | (rw [if_neg (by decide +kernel)]; exact ⟨rfl, rfl⟩))
    (fun os started H enc _ => lifted os started H enc)

/-- THE STATEMENT -/
theorem proved : Rows.LegBoundSaid := over
end Go.Proofs.Ytjdnjlnfcbaokaa.legBound
#print axioms Go.Proofs.Ytjdnjlnfcbaokaa.legBound.proved
