/-
  SPECS, 6: stream. Own work.
-/
import Derived.Test.YtjdnjlnfcbaokaaGreatSp5
set_option linter.unusedVariables false
set_option linter.unusedSimpArgs false
set_option maxRecDepth 20000
namespace Go.Proofs.YtjdnjlnfcbaokaaGreat
open Go Go.Lg
variable {α β σ τ : Type} {ρ : Hp} {L M : As} {K : Nat}

structure St where
  masked : Bool
  most : Nat
  part : List UInt8
  err : Nat
def streamC (s : St) (p : Sl) : List Value := [.bool s.masked, .int .i64 s.most, .slice p.a p.n p.c, .int .i64 s.err]
def streamI (a : Nat) (s : St) : Assn := fun h => 125 ≤ s.most ∧ s.most ≤ 65536 ∧ ∃ p : Sl, p.n = s.part.length ∧ p.n ≤ p.c ∧ sat [pts a (streamC s p), row p 1 (bl s.part)] h
theorem streamOpen {a : Nat} {s : St} {m : G β} {C : β → As → Prop}
    (h : 125 ≤ s.most → s.most ≤ 65536 → ∀ p : Sl, p.n = s.part.length → p.n ≤ p.c → Tri ρ (pts a (streamC s p) :: row p 1 (bl s.part) :: L) m C) : Tri ρ (streamI a s :: L) m C := by
  refine Tri.openA (P := fun N => 125 ≤ s.most ∧ s.most ≤ 65536 ∧ ∃ p : Sl, p.n = s.part.length ∧ p.n ≤ p.c ∧ N = [pts a (streamC s p), row p 1 (bl s.part)]) ?_ ?_
  · rintro k ⟨h1, h2, p, h3, h4, h5⟩; exact ⟨_, ⟨h1, h2, p, h3, h4, rfl⟩, h5⟩
  · rintro N ⟨h1, h2, p, h3, h4, rfl⟩; exact h h1 h2 p h3 h4
theorem streamClose {a : Nat} {s : St} {m : G β} {C : β → As → Prop} {p : Sl} (h1 : 125 ≤ s.most) (h2 : s.most ≤ 65536)
    (h : Tri ρ (streamI a s :: L) m C) : Tri ρ (pts a (streamC s p) :: row p 1 (bl s.part) :: L) m C := by
  refine Tri.pick 1 rfl (Tri.rowLen fun hl hc => Tri.pick 1 rfl ?_)
  exact Tri.close (N := [pts a (streamC s p), row p 1 (bl s.part)]) (fun k hk => ⟨h1, h2, p, by rw [bl_length] at hl; omega, hc, hk⟩) h
theorem stream_New_spec {masked : Bool} {most : Nat} (h1 : 125 ≤ most) (h2 : most ≤ 65536) : Tri ρ L (stream_New K masked most) (fun r L' => ∃ b, r = (some ⟨b, 0, none⟩, 0) ∧ L' = streamI b ⟨masked, most, [], 0⟩ :: L) := by
  unfold stream_New
  refine Tri.val false ?_ ?_
  · refine Tri.ite ?_ ?_
    · intro h; simp at h; omega
    · intro h; exact Tri.ret ⟨by simp; omega, rfl⟩
  simp only [Bool.false_eq_true, if_false]
  refine Tri.nilRow (sz := 1) (Tri.new fun b => ?_)
  exact streamClose (s := ⟨masked, most, [], 0⟩) h1 h2 (Tri.ret ⟨b, rfl, rfl⟩)
/-- what is read of what is left -/
def lookM (masked : Bool) (most : Nat) (p : List UInt8) : Fr × Nat × Nat :=
  if 1 < p.length then
    if (frGet (p.take 1) most).2.2 = 91 then (Fr.none, 0, 91)
    else if (decide (128 ≤ (p.getD 1 0).toNat) == masked) = false then (Fr.none, 0, 100) else frGet p most
  else frGet p most
theorem look_spec {a : Nat} {s : St} (hK : KBig K) (hb : s.part.length ≤ 281474976710656) :
    Tri ρ (streamI a s :: L) (stream_Stream_look K (some ⟨a, 0, none⟩)) (fun r L' => r = ((lookM s.masked s.most s.part).1.t, ((lookM s.masked s.most s.part).2.1 : Int), ((lookM s.masked s.most s.part).2.2 : Int)) ∧ L' = streamI a s :: L) := by
  unfold stream_Stream_look
  rw [frc_zero]
  refine streamOpen fun h1 h2 p hp hpc => ?_
  refine Tri.fold (N := [pts a (streamC s p), row p 1 (bl s.part)]) (fun k hk => ⟨h1, h2, p, hp, hpc, hk⟩) ?_
  simp only [List.cons_append, List.nil_append]
  refine Tri.new fun b1 => ?_
  have rp : ∀ {L' : As} {x y : Assn}, Rd ρ (x :: y :: row p 1 (bl s.part) :: L') p 1 (bl s.part) := Rd.row.tail.tail
  have rp3 : ∀ {L' : As} {x y z : Assn}, Rd ρ (x :: y :: z :: row p 1 (bl s.part) :: L') p 1 (bl s.part) := Rd.row.tail.tail.tail
  refine Tri.nn (Tri.ldSl p (Cell.here (i := 2) rfl).tail ?_)
  have last : lookM s.masked s.most s.part = frGet s.part s.most → Tri ρ (pts b1 (frc Fr.none) :: pts a (streamC s p) :: row p 1 (bl s.part) :: L)
      (drw <| nn (some ⟨a, 0, none⟩) fun x87 => ldSl (x87.add 2) fun x88 => nn (some ⟨a, 0, none⟩) fun x89 => ldI .i64 (x89.add 1) fun x90 => bnd (frame_Get K x88 x90) fun x91 =>
        st ⟨b1, 0, none⟩ (.agg (Agg.cells x91.1).toArray) <| ldG (α := Tapi_Frame) ⟨b1, 0, none⟩ fun r92 => ret (r92, x91.2.1, x91.2.2))
      (fun r L' => r = ((lookM s.masked s.most s.part).1.t, ((lookM s.masked s.most s.part).2.1 : Int), ((lookM s.masked s.most s.part).2.2 : Int)) ∧ L' = pts a (streamC s p) :: row p 1 (bl s.part) :: L) := by
    intro hl
    refine Tri.drw (Tri.nn (Tri.ldSl p (Cell.here (i := 2) rfl).tail (Tri.nn (Tri.ldI (Cell.here (i := 1) rfl).tail ?_))))
    refine Tri.bnd (frame_Get_spec hK rp hp hpc hb (by omega)) ?_
    rintro _ _ ⟨rfl, rfl⟩
    exact retFr rfl (frc_len _) ⟨by rw [hl], rfl⟩
  by_cases hlen : 1 < s.part.length
  · have hd : decide ((1 : Int) < (p.n : Int)) = true := by simp; omega
    rw [hd]
    simp only [if_true, bnd_bnd]
    have one : ∀ {L' : As} (f : Sl → G Int) {x y : Assn} {C : Int → As → Prop}, (∀ x63, (∀ {L'' : As}, Rd ρ L'' p 1 (bl s.part) → Rd ρ L'' x63 1 (bl (s.part.take 1))) → x63.n = (s.part.take 1).length → x63.n ≤ x63.c → Tri ρ L' (f x63) C) → Tri ρ L' (slS p none (some (1 : Int)) none 1 f) C := by
      intro L' f x y C h
      refine Tri.slS 0 1 p.c (by rfl) (by rfl) (by rfl) (by omega) (by omega) (Nat.le_refl _) fun x63 h63 hc63 => h x63 (fun hr => ?_) ?_ ?_
      · have := Rd.subB h63 hr (by omega); simpa using this
      · rw [h63.n]; simp; omega
      · rw [h63.n, hc63]; omega
    refine Tri.val ((frGet (s.part.take 1) s.most).2.2 : Int) ?_ ?_
    · refine Tri.drw2 ?_ ?_
      · refine Tri.nn (Tri.ldSl p (Cell.here (i := 2) rfl).tail ?_)
        refine one _ (x := pts a []) (y := pts a []) fun x63 hr63 hn63 hc63 => ?_
        refine Tri.nn (Tri.ldI (Cell.here (i := 1) rfl).tail ?_)
        refine Tri.bnd (frame_Get_spec hK (hr63 rp) hn63 hc63 (by simp; omega) (by omega)) ?_
        rintro _ _ ⟨rfl, rfl⟩
        refine Tri.new fun b67 => ?_
        refine Tri.stB (l := Agg.cells (frGet (s.part.take 1) s.most).1.t) (by rfl) (by simp [Fr.cells, frc]) rfl ?_
        exact Tri.drop (Tri.ret ⟨rfl, rfl⟩)
      · refine Tri.nn ?_
        refine Tri.wld1 (v := .slice p.a p.n p.c) (Cell.here (i := 2) rfl).tail fun w70 hw70 => ?_
        refine Tri.ldSl p (Cell.here (i := 2) rfl).tail ?_
        refine one _ (x := pts a []) (y := pts a []) fun x63 hr63 hn63 hc63 => ?_
        refine Tri.nn ?_
        refine Tri.wld1 (v := .int .i64 s.most) (Cell.here (i := 1) rfl).tail fun w74 hw74 => ?_
        refine Tri.ldI (Cell.here (i := 1) rfl).tail ?_
        refine Tri.new fun b75 => ?_
        refine Tri.agr1 hw70 (Cell.here (i := 2) rfl).tail.tail ?_
        refine Tri.agr1 hw74 (Cell.here (i := 1) rfl).tail.tail ?_
        refine Tri.bnd (frame_Get_spec hK (hr63 rp3) hn63 hc63 (by simp; omega) (by omega)) ?_
        rintro _ _ ⟨rfl, rfl⟩
        refine Tri.stB (l := Agg.cells (frGet (s.part.take 1) s.most).1.t) (by rfl) (by simp [Fr.cells, frc]) rfl ?_
        exact Tri.drop (Tri.ret ⟨rfl, rfl⟩)
    simp only [bnd_ite]
    refine Tri.ite ?_ ?_
    · intro h
      have h' : (frGet (s.part.take 1) s.most).2.2 = 91 := by simp at h; omega
      have hl : lookM s.masked s.most s.part = (Fr.none, 0, 91) := by simp [lookM, hlen, h']
      simp only [bnd_st, bnd_inr]
      rw [none_t, h']
      exact retFr rfl (frc_len _) ⟨by rw [hl]; rfl, rfl⟩
    intro h
    have h' : (frGet (s.part.take 1) s.most).2.2 ≠ 91 := by simp at h; omega
    simp only [bnd_drw, bnd_nn, bnd_ldSl, bnd_ixA, bnd_ldI, bnd_ldB, bnd_ite, bnd_st, bnd_inr, bnd_ret, sumK_inl]
    refine Tri.drw (Tri.nn (Tri.ldSl p (Cell.here (i := 2) rfl).tail ?_))
    have hv : (bl s.part)[1]? = some (byt (s.part.getD 1 0)) := by
      rw [bl_get, List.getD_eq_getElem?_getD, List.getElem?_eq_getElem hlen]; rfl
    refine Tri.ixA 1 rp rfl (by omega) (by intro e; rw [e] at hv; simp at hv) fun x81 hx => ?_
    refine Tri.ldI (hx.cell rp hv (by omega)) ?_
    refine Tri.nn (Tri.ldB (Cell.here (i := 0) rfl).tail ?_)
    rw [and128]
    refine Tri.ite ?_ ?_
    · intro h2
      have hl : lookM s.masked s.most s.part = (Fr.none, 0, 100) := by
        have h3 : (decide (128 ≤ (s.part.getD 1 0).toNat) == s.masked) = false := by rw [Bool.not_eq_true'] at h2; exact h2
        simp only [lookM, hlen, if_true, if_neg h', h3]
      rw [none_t]
      exact retFr rfl (frc_len _) ⟨by rw [hl]; rfl, rfl⟩
    · intro h2
      refine last ?_
      have h3 : (decide (128 ≤ (s.part.getD 1 0).toNat) == s.masked) = true := by rw [Bool.not_eq_false'] at h2; exact h2
      simp only [lookM, hlen, if_true, if_neg h', h3]
      rfl
  · have hd : decide ((1 : Int) < (p.n : Int)) = false := by simp; omega
    rw [hd]
    exact last (by simp [lookM, hlen])
theorem frGet_ok {b : List UInt8} {most : Nat} (h : (frGet b most).2.2 = 0) : 1 ≤ (frGet b most).2.1 ∧ (frGet b most).2.1 ≤ b.length := by
  cases b with
  | nil => simp [frGet] at h
  | cons b0 r =>
    obtain ⟨g1, g2, g3⟩ := getLen_bound r
    simp only [frGet] at h ⊢
    split at h
    · simp at h
    · rename_i c1
      rw [if_neg c1]
      split at h
      · simp at h
      · rename_i c2
        rw [if_neg c2]
        split at h
        · simp at h
        · rename_i c3
          rw [if_neg c3]
          split at h
          · simp at h
          · rename_i c4
            rw [if_neg c4]
            split at h
            · simp at h
            · rename_i c5
              rw [if_neg c5]
              have hk := g3 (by omega)
              have hat : 1 ≤ (if decide (128 ≤ (r.headD 0).toNat) = true then 1 + (getLen r).2.1 + 4 else 1 + (getLen r).2.1) := by split <;> omega
              generalize (if decide (128 ≤ (r.headD 0).toNat) = true then 1 + (getLen r).2.1 + 4 else 1 + (getLen r).2.1) = at1 at h hat ⊢
              by_cases c6 : (b0 :: r).length < at1 + (getLen r).1
              · rw [if_pos c6] at h; simp at h
              · rw [if_neg c6]
                dsimp only
                exact ⟨by omega, by omega⟩
theorem look_ok {masked : Bool} {most : Nat} {p : List UInt8} (h : (lookM masked most p).2.2 = 0) : lookM masked most p = frGet p most ∧ 1 ≤ (lookM masked most p).2.1 ∧ (lookM masked most p).2.1 ≤ p.length := by
  have key : lookM masked most p = frGet p most := by
    unfold lookM at h ⊢
    split at h
    · rename_i c1
      rw [if_pos c1]
      split at h
      · simp at h
      · rename_i c2
        rw [if_neg c2]
        split at h
        · simp at h
        · rename_i c3
          rw [if_neg c3]
    · rename_i c1; rw [if_neg c1]
  rw [key] at h ⊢
  exact ⟨rfl, frGet_ok h⟩
/-- the frames that are there, what is left, and what is wrong -/
def feedS (masked : Bool) (most : Nat) : Nat → List UInt8 → List Fr × List UInt8 × Nat
  | 0, p => ([], p, 0)
  | k + 1, p =>
    if (lookM masked most p).2.2 = 0 then
      ((lookM masked most p).1 :: (feedS masked most k (p.drop (lookM masked most p).2.1)).1, (feedS masked most k (p.drop (lookM masked most p).2.1)).2)
    else if (lookM masked most p).2.2 = 90 then ([], p, 0) else ([], [], (lookM masked most p).2.2)
theorem feedS_fuel {masked : Bool} {most : Nat} : ∀ {k k' : Nat} {p : List UInt8}, p.length < k → p.length < k' → feedS masked most k p = feedS masked most k' p
  | 0, _, _, h, _ => by omega
  | _ + 1, 0, _, _, h => by omega
  | k + 1, k' + 1, p, h, h' => by
    unfold feedS
    split
    · rename_i c1
      obtain ⟨_, h2, h3⟩ := look_ok c1
      rw [feedS_fuel (k := k) (k' := k') (by simp; omega) (by simp; omega)]
    · rfl
def St.feed (s : St) (b : List UInt8) : List Fr × St :=
  if s.err ≠ 0 then ([], s) else
  let r := feedS s.masked s.most ((s.part ++ b).length + 1) (s.part ++ b)
  (r.1, { s with part := r.2.1, err := r.2.2 })
def frl (fs : List Fr) : List Value := fs.flatMap frc
theorem frl_length (fs : List Fr) : (frl fs).length = fs.length * 8 := by
  induction fs with
  | nil => rfl
  | cons f fs ih => simp only [frl, List.flatMap_cons, List.length_append, List.length_cons] at ih ⊢; rw [ih, frc_len]; omega
theorem frl_snoc (fs : List Fr) (f : Fr) : frl (fs ++ [f]) = frl fs ++ frc f := by simp [frl]
theorem take_spec {x1 x15 a : Nat} {s : St} {fs : List Fr} {l : Sl} (hK : KBig K) (hb : s.part.length ≤ 1099511627776) (hf : fs.length ≤ 1099511627776) (hl : l.n = fs.length) :
    Tri ρ (pts x15 [.slice l.a l.n l.c] :: row l 8 (frl fs) :: streamI a s :: pts x1 [.pointer (some ⟨a, 0, none⟩)] :: L) (stream_Stream_Feed_1 K ⟨x1, 0, none⟩ ⟨x15, 0, none⟩)
      (fun r L' => ∃ (l' : Sl) (fs' : List Fr) (s' : St), l'.n = fs'.length ∧ L' = pts x15 [.slice l'.a l'.n l'.c] :: row l' 8 (frl fs') :: streamI a s' :: pts x1 [.pointer (some ⟨a, 0, none⟩)] :: L ∧
        (if (lookM s.masked s.most s.part).2.2 = 0 then r = true ∧ fs' = fs ++ [(lookM s.masked s.most s.part).1] ∧ s' = { s with part := s.part.drop (lookM s.masked s.most s.part).2.1 }
         else r = false ∧ fs' = fs ∧ s' = if (lookM s.masked s.most s.part).2.2 = 90 then s else { s with part := [], err := (lookM s.masked s.most s.part).2.2 })) := by
  unfold stream_Stream_Feed_1
  refine Tri.ldP (Cell.here (i := 0) rfl).tail.tail.tail ?_
  refine Tri.pick 2 rfl (Tri.bnd (look_spec hK (by omega)) ?_)
  rintro _ _ ⟨rfl, rfl⟩
  have hok := @look_ok s.masked s.most s.part
  generalize hm : lookM s.masked s.most s.part = m at hok ⊢
  obtain ⟨f, n, e⟩ := m
  dsimp only at hok ⊢
  refine Tri.new fun x3 => ?_
  refine Tri.stB (l := frc f) (by rfl) (by simp [frc]) rfl ?_
  have e0 : splice [.bool false, .int .i64 (0 : Int), .bool false, .int .u8 (0 : Int), .int .u8 (0 : Int), .int .u8 (0 : Int), .int .u8 (0 : Int), .string (ByteArray.mk #[])] 0 (frc f) = frc f := rfl
  rw [e0]
  by_cases he : e = 0
  · subst he
    obtain ⟨_, hn1, hn2⟩ := hok rfl
    simp only [if_true]
    have hc : (((0 : Nat) : Int) == 0) = true := rfl
    rw [hc]
    simp only [if_true, bnd_ret, bnd_bnd, bnd_ite, bnd_lt, bnd_ldB, bnd_ldI, bnd_ldS, bnd_ldP, bnd_ldSl, bnd_ldG, bnd_nn, bnd_ixA, bnd_st, bnd_drw, bnd_strOf, bnd_new, bnd_slS, bnd_slA, bnd_slStr, bnd_app, bnd_appS, bnd_appT, bnd_appZ, bnd_chk, bnd_mk, bnd_cpy, bnd_wld, bnd_agr, bnd_bytesOf, bnd_drw2, bnd_mrk, bnd_fail, sumK_inl, sumK_inr, bnd_inr]
    refine Tri.ldSl l (Cell.here (i := 0) rfl).tail.tail ?_
    refine Tri.ldG f.t rfl (Cells.here (i := 0) (by simp [Fr.cells, frc]) rfl) ?_
    refine Tri.new fun x23 => ?_
    refine Tri.pick 4 rfl ?_
    refine Tri.appS (new := frc f) (Rd.pts (o := 0) rfl (by simp [Fr.cells]) rfl) rfl rfl (by simp; omega) fun l' hl' => ?_
    rw [← frl_snoc]
    refine Tri.pick 4 rfl ?_
    refine Tri.stB (i := 0) (l := [.slice l'.a l'.n l'.c]) (by rfl) (by simp) rfl ?_
    have e1 : splice [Value.slice l.a l.n l.c] 0 [Value.slice l'.a l'.n l'.c] = [Value.slice l'.a l'.n l'.c] := rfl
    rw [e1]
    refine Tri.pick 2 rfl (Tri.drop (Tri.pick 2 rfl (Tri.drop (Tri.pick 2 rfl ?_))))
    refine streamOpen fun h1 h2 p hp hpc => ?_
    refine Tri.drw ?_
    have ca : ∀ {u v w x : Assn} {L' : As}, Cell ρ (u :: v :: w :: x :: pts x1 [.pointer (some ⟨a, 0, none⟩)] :: L') ⟨x1, 0, none⟩ (.pointer (some ⟨a, 0, none⟩)) := (Cell.here (i := 0) rfl).tail.tail.tail.tail
    refine Tri.wld1 ca fun w26 hw26 => ?_
    refine Tri.ldP ca (Tri.ldP ca (Tri.nn (Tri.ldSl p (Cell.here (i := 2) rfl) ?_)))
    refine Tri.slS n p.n p.c (by rfl) (by rfl) (by rfl) (by omega) hpc (Nat.le_refl _) fun x30 h30 hc30 => ?_
    have hn30 := h30.n
    refine Tri.nilRow (sz := 1) ?_
    refine Tri.appS (new := bl ((s.part.drop n).take (p.n - n))) (Rd.subB h30 Rd.row.tail (by omega)) (by rw [bl_length, hn30]; simp; omega) (bl_one _) (by rw [hn30]; simp [Sl.nil]; omega) fun x31 h31 => ?_
    rw [List.nil_append, List.take_of_length_le (by simp; omega)]
    refine Tri.agr1 hw26 ca.tail (Tri.nn ?_)
    refine Tri.pick 1 rfl ?_
    refine Tri.stB (i := 2) (l := [.slice x31.a x31.n x31.c]) (by rfl) (by simp [streamC]) rfl ?_
    have e2 : splice (streamC s p) 2 [.slice x31.a x31.n x31.c] = streamC { s with part := s.part.drop n } x31 := rfl
    rw [e2]
    refine streamClose (s := { s with part := s.part.drop n }) h1 h2 ?_
    refine Tri.pick 1 rfl (Tri.drop (Tri.pick 1 rfl (Tri.pick 2 rfl ?_)))
    refine Tri.lt (Tri.pick 1 rfl (Tri.ret ⟨l', fs ++ [f], { s with part := s.part.drop n }, by rw [hl', hl]; simp, rfl, rfl, rfl, rfl⟩))
  · have hc : ((e : Int) == 0) = false := by simp; omega
    rw [hc]
    simp only [if_neg he, Bool.false_eq_true, if_false]
    refine Tri.drop ?_
    refine streamOpen fun h1 h2 p hp hpc => ?_
    by_cases he90 : e = 90
    · subst he90
      have hc2 : (((90 : Nat) : Int) != 90) = false := rfl
      rw [hc2]
      simp only [Bool.false_eq_true, if_false, bnd_ret]
      refine streamClose h1 h2 ?_
      refine Tri.pick 1 rfl (Tri.pick 2 rfl ?_)
      exact Tri.lt (Tri.pick 1 rfl (Tri.ret ⟨l, fs, s, hl, rfl, rfl, rfl, by simp⟩))
    · have hc2 : ((e : Int) != 90) = true := by simp; omega
      rw [hc2]
      simp only [if_true, bnd_ret, bnd_bnd, bnd_ite, bnd_lt, bnd_ldB, bnd_ldI, bnd_ldS, bnd_ldP, bnd_ldSl, bnd_ldG, bnd_nn, bnd_ixA, bnd_st, bnd_drw, bnd_strOf, bnd_new, bnd_slS, bnd_slA, bnd_slStr, bnd_app, bnd_appS, bnd_appT, bnd_appZ, bnd_chk, bnd_mk, bnd_cpy, bnd_wld, bnd_agr, bnd_bytesOf, bnd_drw2, bnd_mrk, bnd_fail, sumK_inl, sumK_inr, bnd_inr]
      have ca : ∀ {u v w x : Assn} {L' : As}, Cell ρ (u :: v :: w :: x :: pts x1 [.pointer (some ⟨a, 0, none⟩)] :: L') ⟨x1, 0, none⟩ (.pointer (some ⟨a, 0, none⟩)) := (Cell.here (i := 0) rfl).tail.tail.tail.tail
      refine Tri.drw (Tri.ldP ca ?_)
      refine Tri.wld1 ca fun w35 hw35 => ?_
      refine Tri.ldP ca (Tri.nn ?_)
      refine Tri.stB (i := 3) (l := [.int .i64 (e : Int)]) (by rfl) (by simp [streamC]) rfl ?_
      refine Tri.agr1 hw35 ca (Tri.nn ?_)
      refine Tri.stB (i := 2) (l := [.slice Sl.nil.a Sl.nil.n Sl.nil.c]) (by rfl) (by simp [streamC, splice]) rfl ?_
      have e2 : splice (splice (streamC s p) 3 [.int .i64 (e : Int)]) 2 [.slice Sl.nil.a Sl.nil.n Sl.nil.c] = streamC { s with part := [], err := e } Sl.nil := rfl
      rw [e2]
      refine Tri.nilRow (sz := 1) (Tri.pick 1 rfl ?_)
      refine streamClose (s := { s with part := [], err := e }) h1 h2 ?_
      refine Tri.pick 1 rfl (Tri.drop (Tri.pick 1 rfl (Tri.pick 2 rfl ?_)))
      exact Tri.lt (Tri.pick 1 rfl (Tri.ret ⟨l, fs, { s with part := [], err := e }, hl, rfl, rfl, rfl, by simp [he90]⟩))
theorem feedS_len {masked : Bool} {most : Nat} : ∀ {k : Nat} {p : List UInt8}, p.length < k → (feedS masked most k p).1.length + (feedS masked most k p).2.1.length ≤ p.length
  | 0, _, h => by omega
  | k + 1, p, h => by
    unfold feedS
    split
    · rename_i c1
      obtain ⟨_, h2, h3⟩ := look_ok c1
      have h4 := feedS_len (masked := masked) (most := most) (k := k) (p := p.drop (lookM masked most p).2.1) (by simp; omega)
      simp only [List.length_cons, List.length_drop] at h4 ⊢
      omega
    · split <;> simp
theorem stream_Feed_spec {a : Nat} {s : St} {sl : Sl} {b : List UInt8} (hK : KBig K) (hr : Rd ρ L sl 1 (bl b)) (hn : sl.n = b.length) (hb : s.part.length + b.length ≤ 1099511627776) :
    Tri ρ (streamI a s :: L) (stream_Stream_Feed K (some ⟨a, 0, none⟩) sl)
      (fun r L' => r.2 = ((s.feed b).2.err : Int) ∧ r.1.n = (s.feed b).1.length ∧ L' = row r.1 8 (frl (s.feed b).1) :: streamI a (s.feed b).2 :: L) := by
  unfold stream_Stream_Feed
  refine Tri.new fun x1 => Tri.pick 1 rfl (streamOpen fun h1 h2 p hp hpc => ?_)
  have ca : ∀ {u v : Assn} {L' : As}, Cell ρ (u :: v :: pts x1 [.pointer (some ⟨a, 0, none⟩)] :: L') ⟨x1, 0, none⟩ (.pointer (some ⟨a, 0, none⟩)) := (Cell.here (i := 0) rfl).tail.tail
  refine Tri.ldP ca (Tri.nn (Tri.ldI (Cell.here (i := 3) rfl) ?_))
  by_cases he : s.err = 0
  · have hc : ((s.err : Int) != 0) = false := by simp; omega
    rw [hc]
    simp only [Bool.false_eq_true, if_false]
    refine Tri.drw ?_
    refine Tri.wld1 ca fun w9 hw9 => ?_
    refine Tri.ldP ca (Tri.ldP ca (Tri.nn (Tri.ldSl p (Cell.here (i := 2) rfl) ?_)))
    refine Tri.pick 1 rfl ?_
    refine Tri.appS (new := bl b) hr.tail.tail (by rw [bl_length, hn]; omega) (bl_one _) (by omega) fun x13 h13 => ?_
    rw [← bl_append]
    refine Tri.agr1 hw9 ca (Tri.nn ?_)
    refine Tri.pick 1 rfl ?_
    refine Tri.stB (i := 2) (l := [.slice x13.a x13.n x13.c]) (by rfl) (by simp [streamC]) rfl ?_
    have e2 : splice (streamC s p) 2 [.slice x13.a x13.n x13.c] = streamC { s with part := s.part ++ b } x13 := rfl
    rw [e2]
    refine streamClose (s := { s with part := s.part ++ b }) h1 h2 ?_
    refine Tri.nilRow (sz := 8) (Tri.new fun x15 => ?_)
    have hsf : s.feed b = ((feedS s.masked s.most ((s.part ++ b).length + 1) (s.part ++ b)).1, { s with part := (feedS s.masked s.most ((s.part ++ b).length + 1) (s.part ++ b)).2.1, err := (feedS s.masked s.most ((s.part ++ b).length + 1) (s.part ++ b)).2.2 }) := by
      simp [St.feed, he]
    have hlen := feedS_len (masked := s.masked) (most := s.most) (k := (s.part ++ b).length + 1) (p := s.part ++ b) (by omega)
    have hpb : (s.part ++ b).length ≤ 1099511627776 := by simp; omega
    rw [hsf]
    generalize hF : feedS s.masked s.most ((s.part ++ b).length + 1) (s.part ++ b) = F at hlen ⊢
    refine Tri.bnd (B := fun _ L' => ∃ l : Sl, l.n = F.1.length ∧ L' = pts x15 [.slice l.a l.n l.c] :: row l 8 (frl F.1) :: streamI a { s with part := F.2.1, err := F.2.2 } :: pts x1 [.pointer (some ⟨a, 0, none⟩)] :: L) ?_ ?_
    · refine Tri.loopN (I := fun n _ L' => ∃ (l : Sl) (fs : List Fr) (t : St), n = t.part.length ∧ l.n = fs.length ∧ t.part.length ≤ 1099511627776 ∧ fs.length + t.part.length ≤ 1099511627776 ∧ t.masked = s.masked ∧ t.most = s.most ∧ t.err = 0 ∧
          F = (fs ++ (feedS s.masked s.most (t.part.length + 1) t.part).1, (feedS s.masked s.most (t.part.length + 1) t.part).2) ∧ L' = pts x15 [.slice l.a l.n l.c] :: row l 8 (frl fs) :: streamI a t :: pts x1 [.pointer (some ⟨a, 0, none⟩)] :: L) ?_ (s.part ++ b).length (by unfold KBig at hK; omega) ⟨Sl.nil, [], { s with part := s.part ++ b }, rfl, rfl, hpb, by simpa using hpb, rfl, rfl, he, by rw [← hF]; rfl, ?_⟩
      · rintro again n _ L' ⟨l, fs, t, rfl, hl, ht1, ht2, hmk, hmo, hte, hFt, rfl⟩ ih
        unfold stream_Stream_Feed_l0
        refine Tri.bnd (take_spec hK ht1 (by omega) hl) ?_
        rintro r _ ⟨l', fs', t', hl', rfl, hcase⟩
        rw [hmk, hmo] at hcase
        unfold feedS at hFt
        by_cases h0 : (lookM s.masked s.most t.part).2.2 = 0
        · rw [if_pos h0] at hcase hFt
          obtain ⟨rfl, rfl, rfl⟩ := hcase
          obtain ⟨_, q1, q2⟩ := look_ok h0
          simp only [if_true]
          refine ih _ _ _ ?_ ⟨l', _, { masked := s.masked, most := s.most, part := t.part.drop (lookM s.masked s.most t.part).2.1, err := t.err }, rfl, hl', by simp; omega, by simp; omega, rfl, rfl, hte, ?_, rfl⟩
          · simp; omega
          · rw [hFt]
            have e3 := feedS_fuel (masked := s.masked) (most := s.most) (k := t.part.length) (k' := (t.part.drop (lookM s.masked s.most t.part).2.1).length + 1) (p := t.part.drop (lookM s.masked s.most t.part).2.1) (by simp; omega) (by omega)
            simp only [e3, List.append_assoc, List.singleton_append]
        · rw [if_neg h0] at hcase hFt
          obtain ⟨rfl, rfl, rfl⟩ := hcase
          simp only [Bool.false_eq_true, if_false]
          by_cases h90 : (lookM s.masked s.most t.part).2.2 = 90
          · rw [if_pos h90] at hFt ⊢
            refine Tri.ret ⟨l', by rw [hFt]; simpa using hl', ?_⟩
            rw [hFt]
            obtain ⟨a1, a2, a3, a4⟩ := t
            simp only at hmk hmo hte
            subst hmk; subst hmo; subst hte
            simp
          · rw [if_neg h90] at hFt ⊢
            refine Tri.ret ⟨l', by rw [hFt]; simpa using hl', ?_⟩
            rw [hFt]
            simp
      · rfl
    · rintro _ _ ⟨l, hl, rfl⟩
      refine Tri.drw (Tri.ldSl l (Cell.here (i := 0) rfl) ?_)
      refine Tri.ldP (Cell.here (i := 0) rfl).tail.tail.tail ?_
      refine Tri.pick 2 rfl (streamOpen fun h1 h2 p hp hpc => Tri.nn (Tri.ldI (Cell.here (i := 3) rfl) ?_))
      refine streamClose (s := { s with part := F.2.1, err := F.2.2 }) h1 h2 ?_
      refine Tri.pick 1 rfl (Tri.drop (Tri.pick 2 rfl (Tri.drop (Tri.pick 1 rfl (Tri.ret ⟨rfl, hl, rfl⟩)))))
  · have hc : ((s.err : Int) != 0) = true := by simp; omega
    rw [hc]
    simp only [if_true]
    refine Tri.drw (Tri.ldP ca (Tri.nn (Tri.ldI (Cell.here (i := 3) rfl) ?_)))
    have hsf : s.feed b = ([], s) := by simp [St.feed, he]
    rw [hsf]
    refine streamClose h1 h2 ?_
    refine Tri.pick 1 rfl (Tri.drop (Tri.nilRow (sz := 8) (Tri.ret ⟨rfl, rfl, rfl⟩)))
end Go.Proofs.YtjdnjlnfcbaokaaGreat
