/-
  SPECS, 16: the statements' anchor (awake of layer 16). Own work.
-/
import Derived.Test.YtjdnjlnfcbaokaaGreatSp15
set_option linter.unusedVariables false
set_option linter.unusedSimpArgs false
set_option maxRecDepth 20000
namespace Go.Proofs.YtjdnjlnfcbaokaaGreat
open Go Go.Lg
variable {α β σ τ : Type} {ρ : Hp} {L M : As} {K : Nat}

def aw0 : Lm := Lm.new 100 50 100 true 7
def aw1 : Lm := (aw0.feed [129, 0]).1
def aw2 : Lm := aw1.out' 100
theorem aw_free : aw0.free = true := by decide +kernel
theorem aw_feed : (aw0.feed [129, 0]).2 = [] := by decide +kernel
theorem aw_peek : aw1.peek 100 = [136, 2, 3, 234] := by decide +kernel
theorem aw_wrong : aw2.wrong = 100 := by decide +kernel
theorem aw_sent : aw2.sent = true := by decide +kernel
theorem aw_got : aw2.got = false := by decide +kernel
theorem aw_quiet : aw2.quiet = true := by decide +kernel
theorem aw_kept : aw2.kept = 0 := by decide +kernel
theorem send_no {x : Lm} {e : Ev} (h : x.sent = true) : x.send e = (x, false) := by unfold Lm.send; rw [if_neg]; simp [Lm.free, h]
theorem ping_no {x : Lm} {d : List UInt8} (h : x.sent = true) : x.ping d = (x, false) := by unfold Lm.ping; rw [if_pos (.inl h)]
theorem close_no {x : Lm} {c : Int} {w : List UInt8} (h : x.sent = true) : x.close c w = (x, false) := by unfold Lm.close; rw [if_pos (.inl h)]
theorem aw_peek2 : aw2.peek 9 = [] := by decide +kernel
theorem awake_spec (hK : KBig K) : Tri ρ L (law16_awake K) (fun r L' => r = true ∧ L' = L) := by
  have f0 : aw0.Ok ∧ aw0.Fit := new_ok (by omega) (by omega) (by omega)
  have f1 : aw1.Ok ∧ aw1.Fit := feed_ok f0.1 f0.2 _
  have f2 : aw2.Ok ∧ aw2.Fit := out_ok f1.1 f1.2 _
  unfold law16_awake
  refine Tri.bnd (config_spec (m := 99) (s := 49) (o := 99) (by omega) (by omega) (by omega)) ?_
  rintro _ _ ⟨b, rfl, rfl⟩
  refine Tri.bnd (new0_spec (draw := 7) (masked := true) hK (by omega) (by omega) (by omega) (by omega)) ?_
  rintro _ _ ⟨a, rfl, rfl⟩
  have hd : ((0 : Int) != 0) = false := rfl
  rw [hd]
  simp only [Bool.false_eq_true, if_false, bnd_ret, Option.isNone_some]
  refine Tri.bnd (legFreeS (x := aw0)) ?_
  rintro _ _ ⟨rfl, rfl⟩
  rw [aw_free]
  refine Tri.new fun x5 => ?_
  have el : ([.int .u8 (129 : Int), .int .u8 (0 : Int)] : List Value) = bl [129, 0] := rfl
  rw [el]
  refine Tri.pick 1 rfl (Tri.bnd (legFeedS (b := [129, 0]) hK f0.2 Rd.lit rfl (by simp)) ?_)
  rintro x6 _ ⟨h6, rfl⟩
  rw [aw_feed] at h6 ⊢
  refine Tri.drop ?_
  have e1 : (aw0.feed [129, 0]).1 = aw1 := rfl
  rw [e1]
  refine Tri.bnd (legTakeS hK f1.2 (by omega)) ?_
  rintro x7 _ ⟨h7, rfl⟩
  rw [aw_peek] at h7 ⊢
  have e2 : aw1.out' 100 = aw2 := rfl
  rw [e2]
  have h6' : ((x6.n : Int) == 0) = true := by rw [h6]; rfl
  simp only [if_true, bnd_ret, h6', bnd_ret, bnd_bnd, bnd_ite, bnd_lt, bnd_ldB, bnd_ldI, bnd_ldS, bnd_ldP, bnd_ldSl, bnd_ldG, bnd_nn, bnd_ixA, bnd_st, bnd_drw, bnd_strOf, bnd_new, bnd_slS, bnd_slA, bnd_slStr, bnd_app, bnd_appS, bnd_appT, bnd_appZ, bnd_chk, bnd_mk, bnd_cpy, bnd_wld, bnd_agr, bnd_bytesOf, bnd_drw2, bnd_mrk, bnd_fail, sumK_inl, sumK_inr, bnd_inr]
  refine Tri.strOf (t := ba [136, 2, 3, 234]) (by rw [bytes_ba]; exact Rd.row) ?_
  have e3 : sEq (ba [136, 2, 3, 234]) (ByteArray.mk #[136, 2, 3, 234]) = true := by
    have : ByteArray.mk #[136, 2, 3, 234] = ba [136, 2, 3, 234] := rfl
    rw [this, sEq_ba]; rfl
  rw [e3]
  refine Tri.drop ?_
  simp only [if_true, bnd_ret, bnd_bnd, bnd_ite, bnd_lt, bnd_ldB, bnd_ldI, bnd_ldS, bnd_ldP, bnd_ldSl, bnd_ldG, bnd_nn, bnd_ixA, bnd_st, bnd_drw, bnd_strOf, bnd_new, bnd_slS, bnd_slA, bnd_slStr, bnd_app, bnd_appS, bnd_appT, bnd_appZ, bnd_chk, bnd_mk, bnd_cpy, bnd_wld, bnd_agr, bnd_bytesOf, bnd_drw2, bnd_mrk, bnd_fail, sumK_inl, sumK_inr, bnd_inr]
  refine Tri.bnd legWrongS ?_
  rintro _ _ ⟨rfl, rfl⟩
  rw [aw_wrong]
  have e4 : ((((100 : Nat) : Int)) == 100) = true := rfl
  rw [e4]
  simp only [if_true, bnd_ret, bnd_bnd, bnd_ite, bnd_lt, bnd_ldB, bnd_ldI, bnd_ldS, bnd_ldP, bnd_ldSl, bnd_ldG, bnd_nn, bnd_ixA, bnd_st, bnd_drw, bnd_strOf, bnd_new, bnd_slS, bnd_slA, bnd_slStr, bnd_app, bnd_appS, bnd_appT, bnd_appZ, bnd_chk, bnd_mk, bnd_cpy, bnd_wld, bnd_agr, bnd_bytesOf, bnd_drw2, bnd_mrk, bnd_fail, sumK_inl, sumK_inr, bnd_inr]
  refine Tri.bnd legSentS ?_
  rintro _ _ ⟨rfl, rfl⟩
  rw [aw_sent]
  simp only [if_true, bnd_ret, bnd_bnd, bnd_ite, bnd_lt, bnd_ldB, bnd_ldI, bnd_ldS, bnd_ldP, bnd_ldSl, bnd_ldG, bnd_nn, bnd_ixA, bnd_st, bnd_drw, bnd_strOf, bnd_new, bnd_slS, bnd_slA, bnd_slStr, bnd_app, bnd_appS, bnd_appT, bnd_appZ, bnd_chk, bnd_mk, bnd_cpy, bnd_wld, bnd_agr, bnd_bytesOf, bnd_drw2, bnd_mrk, bnd_fail, sumK_inl, sumK_inr, bnd_inr]
  refine Tri.bnd legGotS ?_
  rintro _ _ ⟨rfl, rfl⟩
  rw [aw_got]
  simp only [Bool.not_false, if_true, bnd_ret, bnd_bnd, bnd_ite, bnd_lt, bnd_ldB, bnd_ldI, bnd_ldS, bnd_ldP, bnd_ldSl, bnd_ldG, bnd_nn, bnd_ixA, bnd_st, bnd_drw, bnd_strOf, bnd_new, bnd_slS, bnd_slA, bnd_slStr, bnd_app, bnd_appS, bnd_appT, bnd_appZ, bnd_chk, bnd_mk, bnd_cpy, bnd_wld, bnd_agr, bnd_bytesOf, bnd_drw2, bnd_mrk, bnd_fail, sumK_inl, sumK_inr, bnd_inr]
  refine Tri.bnd legQuietS ?_
  rintro _ _ ⟨rfl, rfl⟩
  rw [aw_quiet]
  simp only [if_true, bnd_ret, bnd_bnd, bnd_ite, bnd_lt, bnd_ldB, bnd_ldI, bnd_ldS, bnd_ldP, bnd_ldSl, bnd_ldG, bnd_nn, bnd_ixA, bnd_st, bnd_drw, bnd_strOf, bnd_new, bnd_slS, bnd_slA, bnd_slStr, bnd_app, bnd_appS, bnd_appT, bnd_appZ, bnd_chk, bnd_mk, bnd_cpy, bnd_wld, bnd_agr, bnd_bytesOf, bnd_drw2, bnd_mrk, bnd_fail, sumK_inl, sumK_inr, bnd_inr]
  refine Tri.bnd (legKeptS f2.2) ?_
  rintro _ _ ⟨_, rfl, rfl⟩
  rw [aw_kept]
  have e5 : ((((0 : Nat) : Int)) == 0) = true := rfl
  rw [e5]
  simp only [if_true, bnd_ret, bnd_bnd, bnd_ite, bnd_lt, bnd_ldB, bnd_ldI, bnd_ldS, bnd_ldP, bnd_ldSl, bnd_ldG, bnd_nn, bnd_ixA, bnd_st, bnd_drw, bnd_strOf, bnd_new, bnd_slS, bnd_slA, bnd_slStr, bnd_app, bnd_appS, bnd_appT, bnd_appZ, bnd_chk, bnd_mk, bnd_cpy, bnd_wld, bnd_agr, bnd_bytesOf, bnd_drw2, bnd_mrk, bnd_fail, sumK_inl, sumK_inr, bnd_inr]
  refine Tri.bnd (legSendS (e := ⟨1, 0, []⟩) hK f2.2) ?_
  rintro _ _ ⟨rfl, rfl⟩
  rw [send_no aw_sent]
  simp only [Bool.not_false, if_true, bnd_ret, bnd_bnd, bnd_ite, bnd_lt, bnd_ldB, bnd_ldI, bnd_ldS, bnd_ldP, bnd_ldSl, bnd_ldG, bnd_nn, bnd_ixA, bnd_st, bnd_drw, bnd_strOf, bnd_new, bnd_slS, bnd_slA, bnd_slStr, bnd_app, bnd_appS, bnd_appT, bnd_appZ, bnd_chk, bnd_mk, bnd_cpy, bnd_wld, bnd_agr, bnd_bytesOf, bnd_drw2, bnd_mrk, bnd_fail, sumK_inl, sumK_inr, bnd_inr]
  rw [ba_nil]
  refine Tri.bnd (legPingS (d := []) hK f2.2 (by have : cnt 9 aw2.ctl = 0 := by decide +kernel
                                                 omega)) ?_
  rintro _ _ ⟨rfl, rfl⟩
  rw [ping_no aw_sent]
  simp only [Bool.not_false, if_true, bnd_ret, bnd_bnd, bnd_ite, bnd_lt, bnd_ldB, bnd_ldI, bnd_ldS, bnd_ldP, bnd_ldSl, bnd_ldG, bnd_nn, bnd_ixA, bnd_st, bnd_drw, bnd_strOf, bnd_new, bnd_slS, bnd_slA, bnd_slStr, bnd_app, bnd_appS, bnd_appT, bnd_appZ, bnd_chk, bnd_mk, bnd_cpy, bnd_wld, bnd_agr, bnd_bytesOf, bnd_drw2, bnd_mrk, bnd_fail, sumK_inl, sumK_inr, bnd_inr]
  refine Tri.bnd (legCloseS (w := []) hK f2.2 (by simp)) ?_
  rintro _ _ ⟨rfl, rfl⟩
  rw [close_no aw_sent]
  simp only [Bool.not_false, if_true, bnd_ret, bnd_bnd, bnd_ite, bnd_lt, bnd_ldB, bnd_ldI, bnd_ldS, bnd_ldP, bnd_ldSl, bnd_ldG, bnd_nn, bnd_ixA, bnd_st, bnd_drw, bnd_strOf, bnd_new, bnd_slS, bnd_slA, bnd_slStr, bnd_app, bnd_appS, bnd_appT, bnd_appZ, bnd_chk, bnd_mk, bnd_cpy, bnd_wld, bnd_agr, bnd_bytesOf, bnd_drw2, bnd_mrk, bnd_fail, sumK_inl, sumK_inr, bnd_inr]
  refine Tri.bnd (legPeekS (by omega)) ?_
  rintro x28 _ ⟨h28, rfl⟩
  rw [aw_peek2] at h28 ⊢
  have e6 : ((x28.n : Int) == 0) = true := by rw [h28]; rfl
  rw [e6]
  exact Tri.drop (Tri.drop (Tri.pick 1 rfl (Tri.drop (Tri.drop (Tri.ret ⟨rfl, rfl⟩)))))
end Go.Proofs.YtjdnjlnfcbaokaaGreat
