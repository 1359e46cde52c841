/-
  STATEMENTS WHOSE ORDER IS OPEN: one canonical order, with what reads the same elsewhere, serves every order. Own work.
-/
import Derived.Test.YtjdnjlnfcbaokaaGreatLgHeavy
import Derived.Orders
set_option linter.unusedVariables false
set_option linter.unusedSimpArgs false
namespace Go.Lg
open Go

/-! ### 1. Plans -/
inductive Stp where
  | lp (i : Nat)   -- reads nothing
  | li (i : Nat)   -- reads, and may be read later as well
  | re (i : Nat)   -- what i reads is still the same
  | hv (i : Nat)   -- changes memory
abbrev Pend := List (Nat × Env × Value)
section
variable {P : Program} {n : Nat} {ρ τ : Type} {ops : Array Oper} {env : Env} {m : G ρ} {K : Post ρ}
def Chk (P : Program) (ops : Array Oper) : List Stp → Env → Pend → World → (Env → World → Prop) → Prop
  | [], env, _, u, Q => Q env u
  | .lp i :: r, env, pd, u, Q => ∃ o, ops[i]? = some o ∧ ((Want ops env o.guard = some true ∧ ∃ v, (∀ u, RanE P env o u v) ∧ Chk P ops r (env.put o.dst v) pd u Q) ∨ (Want ops env o.guard = some false ∧ Chk P ops r (env.put o.dst undef) pd u Q))
  | .li i :: r, env, pd, u, Q => ∃ o, ops[i]? = some o ∧ ((Want ops env o.guard = some true ∧ ∃ v, RanE P env o u v ∧ Chk P ops r (env.put o.dst v) ((i, env, v) :: pd) u Q) ∨ (Want ops env o.guard = some false ∧ Chk P ops r (env.put o.dst undef) pd u Q))
  | .re i :: r, env, pd, u, Q => (∀ e ∈ pd, e.1 = i → ∀ o, ops[i]? = some o → RanE P e.2.1 o u e.2.2) ∧ Chk P ops r env pd u Q
  | .hv i :: r, env, pd, u, Q => ∃ o, ops[i]? = some o ∧ ((Want ops env o.guard = some true ∧ RanR P env o u (fun v u' => Chk P ops r (env.put o.dst v) pd u' Q)) ∨ (Want ops env o.guard = some false ∧ Chk P ops r (env.put o.dst undef) pd u Q))
/-- the same, with what the program says -/
abbrev PendF := List (Nat × Env × Value × (World → Prop))
def PendF.ok (P : Program) (ops : Array Oper) (pd : PendF) : Prop := ∀ e ∈ pd, ∀ u, e.2.2.2 u → ∀ o, ops[e.1]? = some o → RanE P e.2.1 o u e.2.2.1
def PendF.bare (pd : PendF) : Pend := pd.map fun e => (e.1, e.2.1, e.2.2.1)
def RefD (P : Program) (n : Nat) (ops : Array Oper) (pl : List Stp) (env : Env) (pd : PendF) (m : G ρ) (K : Post ρ) : Prop :=
  ∀ w Q, m.run w Q → pd.ok P ops → Chk P ops pl env pd.bare w (fun env' u => ∀ a, Sim n env' a → K Q .normal a u)
variable {pl : List Stp} {pd : PendF}
theorem RefD.nil (h : RefE n .normal env m K) : RefD P n ops [] env pd m K := fun w Q hm _ a hs => h w Q hm a hs
theorem RefD.pure {i : Nat} {d : Option Tmp} {op : Op} {ty : TypeId} {pos : String} {af : Array Edge} {g : Option (Nat × Bool)} {v : Value} (hi : ops[i]? = some ⟨d, op, ty, pos, af, g⟩) (hw : Want ops env g = some true) (hr : RanP P env ⟨d, op, ty, pos, af, g⟩ v) (h : RefD P n ops pl (env.put d v) pd m K) : RefD P n ops (.lp i :: pl) env pd m K :=
  fun w Q hm hp => ⟨_, hi, .inl ⟨hw, v, hr, h w Q hm hp⟩⟩
theorem RefD.any {i : Nat} {d : Option Tmp} {op : Op} {ty : TypeId} {pos : String} {af : Array Edge} {g : Option (Nat × Bool)} (hi : ops[i]? = some ⟨d, op, ty, pos, af, g⟩) (hw : Want ops env g = some true) (h : Lt P env ⟨d, op, ty, pos, af, g⟩ m any (fun v m' => RefD P n ops pl (env.put d v) pd m' K)) : RefD P n ops (.lp i :: pl) env pd m K := fun w Q hm hp => by
  obtain ⟨v, m', _, h1, h2, h3⟩ := h w Q hm
  exact ⟨_, hi, .inl ⟨hw, v, fun u => h1 u trivial, h3 w Q h2 hp⟩⟩
theorem RefD.li {i : Nat} {d : Option Tmp} {op : Op} {ty : TypeId} {pos : String} {af : Array Edge} {g : Option (Nat × Bool)} {m0 : World → G ρ} {F : World → World → Prop} (hi : ops[i]? = some ⟨d, op, ty, pos, af, g⟩) (hw : Want ops env g = some true) (h : ∀ w0, Lt P env ⟨d, op, ty, pos, af, g⟩ (m0 w0) F (fun v m' => RefD P n ops pl (env.put d v) ((i, env, v, F w0) :: pd) m' K)) : RefD P n ops (.li i :: pl) env pd (Lg.wld m0) K := fun w Q hm hp => by
  obtain ⟨v, m', hF, h1, h2, h3⟩ := h w w Q hm
  refine ⟨_, hi, .inl ⟨hw, v, h1 w hF, h3 w Q h2 ?_⟩⟩
  intro e he u hu o' ho'
  rcases List.mem_cons.1 he with rfl | he
  · simp only at hu ho' ⊢
    rw [hi] at ho'; simp only [Option.some.injEq] at ho'; subst ho'
    exact h1 u hu
  · exact hp e he u hu o' ho'
theorem at_ {l : List Oper} {i : Nat} {o : Oper} (h : l[i]? = some o) : l.toArray[i]? = some o := by simpa using h
theorem RefD.li0 {i : Nat} {d : Option Tmp} {op : Op} {ty : TypeId} {pos : String} {af : Array Edge} {g : Option (Nat × Bool)} {F : World → World → Prop} (hi : ops[i]? = some ⟨d, op, ty, pos, af, g⟩) (hw : Want ops env g = some true) (h : Lt P env ⟨d, op, ty, pos, af, g⟩ m F (fun v m' => RefD P n ops pl (env.put d v) ((i, env, v, fun _ => False) :: pd) m' K)) : RefD P n ops (.li i :: pl) env pd m K := fun w Q hm hp => by
  obtain ⟨v, m', hF, h1, h2, h3⟩ := h w Q hm
  refine ⟨_, hi, .inl ⟨hw, v, h1 w hF, h3 w Q h2 ?_⟩⟩
  intro e he u hu o' ho'
  rcases List.mem_cons.1 he with rfl | he
  · exact hu.elim
  · exact hp e he u hu o' ho'
theorem RefD.re {i : Nat} {F : World → Prop} {e : Env} {v : Value} (hf : pd.filter (fun e => Nat.beq e.1 i) = [(i, e, v, F)]) (h : RefD P n ops pl env pd m K) : RefD P n ops (.re i :: pl) env pd (Lg.agr F m) K := fun w Q hm hp => by
  refine ⟨?_, h w Q hm.2 hp⟩
  intro x hx hxi o ho
  obtain ⟨y, hy, rfl⟩ := List.mem_map.1 hx
  simp only at hxi ⊢
  have : y ∈ pd.filter (fun e => Nat.beq e.1 i) := List.mem_filter.2 ⟨hy, by simp [hxi]⟩
  rw [hf] at this
  simp only [List.mem_singleton] at this
  subst this
  exact hp _ hy w hm.1 o ho
theorem RefD.re0 {i : Nat} (hf : pd.filter (fun e => Nat.beq e.1 i) = []) (h : RefD P n ops pl env pd m K) : RefD P n ops (.re i :: pl) env pd m K := fun w Q hm hp => by
  refine ⟨?_, h w Q hm hp⟩
  intro x hx hxi o ho
  obtain ⟨y, hy, rfl⟩ := List.mem_map.1 hx
  simp only at hxi
  have : y ∈ pd.filter (fun e => Nat.beq e.1 i) := List.mem_filter.2 ⟨hy, by simp [hxi]⟩
  rw [hf] at this
  simp at this
theorem RefD.hv {i : Nat} {d : Option Tmp} {op : Op} {ty : TypeId} {pos : String} {af : Array Edge} {g : Option (Nat × Bool)} (hi : ops[i]? = some ⟨d, op, ty, pos, af, g⟩) (hw : Want ops env g = some true) (h : Hv P env ⟨d, op, ty, pos, af, g⟩ m (fun v m' => RefD P n ops pl (env.put d v) pd m' K)) : RefD P n ops (.hv i :: pl) env pd m K := fun w Q hm hp =>
  ⟨_, hi, .inl ⟨hw, fun ρ hρ => (h w Q hm ρ hρ).imp fun v w' ⟨m', h2, h3⟩ => h3 w' Q h2 hp⟩⟩
theorem RefD.skipP {i : Nat} {d : Option Tmp} {op : Op} {ty : TypeId} {pos : String} {af : Array Edge} {g : Option (Nat × Bool)} (hi : ops[i]? = some ⟨d, op, ty, pos, af, g⟩) (hw : Want ops env g = some false) (h : RefD P n ops pl (env.put d undef) pd m K) : RefD P n ops (.lp i :: pl) env pd m K := fun w Q hm hp => ⟨_, hi, .inr ⟨hw, h w Q hm hp⟩⟩
theorem RefD.skipI {i : Nat} {d : Option Tmp} {op : Op} {ty : TypeId} {pos : String} {af : Array Edge} {g : Option (Nat × Bool)} (hi : ops[i]? = some ⟨d, op, ty, pos, af, g⟩) (hw : Want ops env g = some false) (h : RefD P n ops pl (env.put d undef) pd m K) : RefD P n ops (.li i :: pl) env pd m K := fun w Q hm hp => ⟨_, hi, .inr ⟨hw, h w Q hm hp⟩⟩
theorem RefD.skipH {i : Nat} {d : Option Tmp} {op : Op} {ty : TypeId} {pos : String} {af : Array Edge} {g : Option (Nat × Bool)} (hi : ops[i]? = some ⟨d, op, ty, pos, af, g⟩) (hw : Want ops env g = some false) (h : RefD P n ops pl (env.put d undef) pd m K) : RefD P n ops (.hv i :: pl) env pd m K := fun w Q hm hp => ⟨_, hi, .inr ⟨hw, h w Q hm hp⟩⟩

/-! ### 2. Which plans serve -/
/-- the operations ahead of each, as bits -/
def masksOk (ops : Array Oper) (ms : List Nat) : Bool :=
  (List.range ops.size).all fun j => match ops[j]? with
    | some o => (o.after.toList.all fun e => !Region.binds .any e || Nat.blt e.on j) &&
        Nat.beq (ms.getD j 0) (o.after.toList.foldl (fun s e => bif Region.binds .any e then s ||| 2 ^ e.on ||| ms.getD e.on 0 else s) 0)
    | none => false
def ahead (ms : List Nat) (i j : Nat) : Bool := (ms.getD j 0).testBit i
def sel : Op → Bool
  | .select _ _ => true
  | _ => false
def flow (ops : Array Oper) (ms : List Nat) (s i : Nat) : Bool :=
  match ops[s]?, ops[i]? with
  | some x, some y => !Nat.beq s i && (match x.dst, y.dst with | some d, some e => !Nat.beq d e | _, _ => true) && (x.apart ops y || ahead ms s i) && !ahead ms i s
  | _, _ => false
def planOk (ops : Array Oper) (ms : List Nat) : List Stp → List Nat → List Nat → List Nat → Option Nat → Bool
  | [], seen, _, need, _ => need.isEmpty && (List.range ops.size).all fun i => seen.contains i
  | .lp i :: r, seen, act, need, last => need.isEmpty && Nat.blt i ops.size && (seen.all fun s => flow ops ms s i) && (match last with | some h => ahead ms h i | none => true) && planOk ops ms r (i :: seen) act [] last
  | .li i :: r, seen, act, need, last => need.isEmpty && Nat.blt i ops.size && (seen.all fun s => flow ops ms s i) && (match last with | some h => ahead ms h i | none => true) && planOk ops ms r (i :: seen) (i :: act) [] last
  | .re i :: r, seen, act, need, last => planOk ops ms r seen act (need.filter fun k => !Nat.beq k i) last
  | .hv i :: r, seen, act, need, _ => need.isEmpty && Nat.blt i ops.size && (seen.all fun s => flow ops ms s i) && planOk ops ms r (i :: seen) (act.filter fun k => !ahead ms k i) (act.filter fun k => !ahead ms k i) (some i)
def heavies : List Stp → List Nat
  | [] => []
  | .hv i :: r => i :: heavies r
  | _ :: r => heavies r
def ixs : List Stp → List Nat
  | [] => []
  | .hv i :: r => i :: ixs r
  | .lp i :: r => i :: ixs r
  | .li i :: r => i :: ixs r
  | .re _ :: r => ixs r
end
/-! ### 3. One canonical order serves all -/
section
variable {P : Program} {n : Nat} {ops : Array Oper} {ms : List Nat}
theorem foldl_bits (l : List Edge) : ∀ (s i : Nat), (l.foldl (fun s e => bif Region.binds .any e then s ||| 2 ^ e.on ||| ms.getD e.on 0 else s) s).testBit i = true → s.testBit i = true ∨ ∃ e ∈ l, Region.binds .any e = true ∧ (e.on = i ∨ ahead ms i e.on = true) := by
  induction l with
  | nil => intro s i h; exact .inl h
  | cons e l ih =>
    intro s i h
    simp only [List.foldl_cons] at h
    rcases ih _ _ h with h | ⟨e', he', h'⟩
    · cases hb : Region.binds .any e with
      | false => simp only [hb, cond_false] at h; exact .inl h
      | true =>
        simp only [hb, cond_true, Nat.testBit_or, Bool.or_eq_true] at h
        rcases h with (h | h) | h
        · exact .inl h
        · refine .inr ⟨e, by simp, hb, .inl ?_⟩
          rw [Nat.testBit_two_pow] at h
          simpa using h
        · exact .inr ⟨e, by simp, hb, .inr h⟩
    · exact .inr ⟨e', by simp [he'], h'⟩
theorem ahead_edge (hm : masksOk ops ms = true) {i j : Nat} {o : Oper} (hj : ops[j]? = some o) (h : ahead ms i j = true) : ∃ e ∈ o.after.toList, Region.binds .any e = true ∧ e.on < j ∧ (e.on = i ∨ ahead ms i e.on = true) := by
  have hlt : j < ops.size := (Array.getElem?_eq_some_iff.1 hj).1
  have h1 := List.all_eq_true.1 hm j (List.mem_range.2 hlt)
  simp only [hj, Bool.and_eq_true] at h1
  obtain ⟨h2, h3⟩ := h1
  unfold ahead at h
  rw [Nat.eq_of_beq_eq_true h3] at h
  rcases foldl_bits _ _ _ h with h | ⟨e, he, hb, h4⟩
  · simp at h
  · refine ⟨e, he, hb, ?_, h4⟩
    have := List.all_eq_true.1 h2 e he
    simpa [hb, Nat.blt_eq] using this
def Dn (listed : Array Bool) (i : Nat) : Prop := listed.getD i false = true
/-- what is listed is closed -/
def Closed (ops : Array Oper) (listed : Array Bool) : Prop := ∀ j o, ops[j]? = some o → Dn listed j → ∀ e ∈ o.after.toList, Region.binds .any e = true → Dn listed e.on
theorem Closed.ahead (hm : masksOk ops ms = true) {listed : Array Bool} (hc : Closed ops listed) : ∀ (j i : Nat) (o : Oper), ops[j]? = some o → (∀ e ∈ o.after.toList, Region.binds .any e = true → Dn listed e.on) → ahead ms i j = true → Dn listed i := by
  intro j
  induction j using Nat.strongRecOn with
  | _ j ih =>
    intro i o hj he h
    obtain ⟨e, hem, hb, hlt, h2⟩ := ahead_edge hm hj h
    have hd := he e hem hb
    rcases h2 with h2 | h2
    · rw [← h2]; exact hd
    · have hlt' : e.on < ops.size := Nat.lt_trans hlt (Array.getElem?_eq_some_iff.1 hj).1
      exact ih e.on hlt i _ (Array.getElem?_eq_getElem hlt') (hc e.on _ (Array.getElem?_eq_getElem hlt') hd) h2
def Valid (ops : Array Oper) : Array Bool → List Nat → Prop
  | listed, [] => ∀ i, i < ops.size → Dn listed i
  | listed, i :: l => i ∈ Region.ready .any ops listed ∧ Valid ops (listed.setIfInBounds i true) l
theorem mem_rdy {listed : Array Bool} {i : Nat} (hs : listed.size = ops.size) : i ∈ Region.ready .any ops listed ↔ i < ops.size ∧ ¬ Dn listed i ∧ ∃ o, ops[i]? = some o ∧ ∀ e ∈ o.after.toList, Region.binds .any e = true → Dn listed e.on := by
  unfold Region.ready Dn
  rw [List.mem_filter, List.mem_range]
  constructor
  · rintro ⟨h1, h2⟩
    simp only [Bool.and_eq_true, Bool.not_eq_true'] at h2
    obtain ⟨h2, h3⟩ := h2
    rw [Array.getElem?_eq_getElem h1] at h3
    refine ⟨h1, ?_, _, Array.getElem?_eq_getElem h1, ?_⟩
    · have : i < listed.size := by omega
      simp [this] at h2 ⊢; exact h2
    · intro e he hb
      simp only [Option.map_some, Option.getD_some, Array.all_eq_true', Bool.or_eq_true, Bool.not_eq_true'] at h3
      have := h3 e (by simpa using he)
      rcases this with h | h
      · rw [hb] at h; cases h
      · exact h
  · rintro ⟨h1, h2, o, ho, h3⟩
    refine ⟨h1, ?_⟩
    simp only [Bool.and_eq_true, Bool.not_eq_true']
    constructor
    · have : i < listed.size := by omega
      simp [this] at h2 ⊢; exact h2
    · rw [ho]
      simp only [Option.map_some, Option.getD_some, Array.all_eq_true', Bool.or_eq_true, Bool.not_eq_true']
      intro e he
      cases hb : Region.binds .any e with
      | false => exact .inl rfl
      | true => exact .inr (h3 e (by simpa using he) hb)
theorem Dn_set {listed : Array Bool} {i j : Nat} (h : i < listed.size) : Dn (listed.setIfInBounds i true) j ↔ j = i ∨ Dn listed j := by
  unfold Dn
  by_cases e : j = i
  · subst e; simp [h]
  · have : ¬ i = j := fun h => e h.symm
    simp [e, this]
theorem Closed.set {listed : Array Bool} (hs : listed.size = ops.size) {i : Nat} (hc : Closed ops listed) (hi : i ∈ Region.ready .any ops listed) : Closed ops (listed.setIfInBounds i true) := by
  obtain ⟨h1, _, o, ho, h3⟩ := (mem_rdy hs).1 hi
  have hlt : i < listed.size := by omega
  intro j o' hj hd e he hb
  rw [Dn_set hlt]
  rcases (Dn_set hlt).1 hd with rfl | hd
  · rw [ho] at hj; simp only [Option.some.injEq] at hj; subst hj; exact .inr (h3 e he hb)
  · exact .inr (hc j o' hj hd e he hb)
/-- every schedule is valid -/
theorem valid_go (hm : masksOk ops ms = true) : ∀ (fuel t : Nat) (listed : Array Bool), listed.size = ops.size → Closed ops listed → (List.range ops.size).countP (fun i => !listed.getD i false) ≤ fuel →
    Valid ops listed (Region.linearise.go .any ops fuel t listed []) := by
  have hnone : ∀ (listed : Array Bool), listed.size = ops.size → Closed ops listed → Region.ready .any ops listed = [] → ∀ i, i < ops.size → Dn listed i := by
    intro listed hs hc hr i
    induction i using Nat.strongRecOn with
    | _ i ih =>
      intro hi
      apply Classical.byContradiction
      intro hd
      have : i ∈ Region.ready .any ops listed := by
        refine (mem_rdy hs).2 ⟨hi, hd, _, Array.getElem?_eq_getElem hi, ?_⟩
        intro e he hb
        have h1 := List.all_eq_true.1 hm i (List.mem_range.2 hi)
        rw [Array.getElem?_eq_getElem hi] at h1
        simp only [Bool.and_eq_true] at h1
        have := List.all_eq_true.1 h1.1 e he
        have hlt : e.on < i := by simpa [hb, Nat.blt_eq] using this
        exact ih e.on hlt (Nat.lt_trans hlt hi)
      rw [hr] at this
      simp at this
  intro fuel
  induction fuel with
  | zero =>
    intro t listed hs hc h0
    simp only [Region.linearise.go, List.reverse_nil, Valid]
    intro i hi
    have h1 : (List.range ops.size).countP (fun i => !listed.getD i false) = 0 := by omega
    have := List.countP_eq_zero.1 h1 i (List.mem_range.2 hi)
    unfold Dn
    simpa using this
  | succ fuel ih =>
    intro t listed hs hc h0
    simp only [Region.linearise.go]
    change Valid ops listed (match (Region.ready .any ops listed)[t % (Region.ready .any ops listed).length]? with
      | some i => Region.linearise.go .any ops fuel (t / (Region.ready .any ops listed).length) (listed.setIfInBounds i true) [i]
      | none => [].reverse)
    cases hi : (Region.ready .any ops listed)[t % (Region.ready .any ops listed).length]? with
    | none =>
      have hnil : Region.ready .any ops listed = [] := by
        cases hr : Region.ready .any ops listed with
        | nil => rfl
        | cons x xs =>
          rw [hr] at hi
          have hlt : t % (x :: xs).length < (x :: xs).length := Nat.mod_lt _ (by simp)
          simp at hi
          simp at hlt
          omega
      simp only [List.reverse_nil, Valid]
      exact hnone listed hs hc hnil
    | some i =>
      have hmem := List.mem_of_getElem? hi
      simp only []
      rw [linearise_go_acc, List.reverse_singleton, List.singleton_append]
      refine ⟨hmem, ih _ _ (by simpa using hs) (hc.set hs hmem) ?_⟩
      obtain ⟨h1, h2, _⟩ := (mem_rdy hs).1 hmem
      have hlt : i < listed.size := by omega
      have key : ∀ (l : List Nat), l.Nodup → i ∈ l → l.countP (fun j => !(listed.setIfInBounds i true).getD j false) + 1 ≤ l.countP (fun j => !listed.getD j false) := by
        intro l
        have hle : ∀ l' : List Nat, l'.countP (fun j => !(listed.setIfInBounds i true).getD j false) ≤ l'.countP (fun j => !listed.getD j false) := by
          intro l'
          apply List.countP_mono_left
          intro x _ hx
          by_cases e : i = x
          · subst e; simp [hlt] at hx
          · simpa [e] using hx
        induction l with
        | nil => intro _ h; simp at h
        | cons x l ihl =>
          intro hn hx
          have hn' := List.nodup_cons.1 hn
          by_cases e : x = i
          · subst e
            have h3 : (!listed.getD x false) = true := by unfold Dn at h2; simpa using h2
            have h4 : (!(listed.setIfInBounds x true).getD x false) = false := by simp [hlt]
            have := hle l
            simp only [List.countP_cons, h3, h4, if_true]
            simp only [Bool.false_eq_true, if_false]
            omega
          · have hx' : i ∈ l := by rcases List.mem_cons.1 hx with h | h; exact absurd h.symm e; exact h
            have := ihl hn'.2 hx'
            have e2 : (!(listed.setIfInBounds i true).getD x false) = (!listed.getD x false) := by
              have : ¬ i = x := fun h => e h.symm
              simp [this]
            simp only [List.countP_cons, e2]
            omega
      have := key (List.range ops.size) List.nodup_range (List.mem_range.2 h1)
      omega
theorem valid_schedule (hm : masksOk ops ms = true) (t : Nat) : Valid ops (Array.replicate ops.size false) (Region.linearise .any ops t) := by
  refine valid_go hm ops.size t _ (by simp) ?_ ?_
  · intro j o hj hd
    unfold Dn at hd
    simp [Array.getElem?_replicate] at hd
    exfalso
    split at hd <;> simp at hd
  · exact Nat.le_trans List.countP_le_length (by simp)
/-! #### the main proof -/
structure KE where
  i : Nat
  e : Env
  v : Value
  b : Bool      -- wanted
def flows (ops : Array Oper) (ms : List Nat) (s i : Nat) : Prop := flow ops ms s i = true
theorem flow_spec {s i : Nat} {x y : Oper} (hx : ops[s]? = some x) (hy : ops[i]? = some y) (h : flow ops ms s i = true) :
    s ≠ i ∧ (∀ d e, x.dst = some d → y.dst = some e → d ≠ e) ∧ (x.apart ops y = true ∨ ahead ms s i = true) ∧ ahead ms i s = false := by
  unfold flow at h
  rw [hx, hy] at h
  simp only [Bool.and_eq_true, Bool.or_eq_true, Bool.not_eq_true'] at h
  obtain ⟨⟨⟨h1, h2⟩, h3⟩, h4⟩ := h
  refine ⟨fun e => by subst e; simp at h1, fun d e hd he hde => ?_, h3, h4⟩
  subst hde
  rw [hd, he] at h2
  simp at h2
structure Inv (P : Program) (n : Nat) (ops : Array Oper) (ms : List Nat) (listed : Array Bool) (a : Act) (w : World) (env : Env) (pd : Pend) (U : List KE) (seen act need : List Nat) : Prop where
  size : a.tmps.size = n
  defers : a.defers = []
  done : ∀ i, i < ops.size → (Dn listed i ↔ i ∈ seen ∧ ∀ k ∈ U, k.i ≠ i)
  uniq : ∀ x ∈ U, ∀ y ∈ U, x.i = y.i → x = y
  useen : ∀ k ∈ U, k.i ∈ seen
  pair : ∀ x ∈ seen, ∀ y ∈ seen, x ≠ y → flow ops ms x y = true ∨ flow ops ms y x = true
  op : ∀ k ∈ U, ∃ o, ops[k.i]? = some o ∧ (k.b = true → Want ops k.e o.guard = some true ∧ (k.i ∈ need ∨ RanE P k.e o w k.v)) ∧ (k.b = false → Want ops k.e o.guard = some false ∧ k.v = undef)
  keep : ∀ k ∈ U, k.b = true → (∀ o, ops[k.i]? = some o → ∀ u, RanE P k.e o u k.v) ∨ (k.i ∈ act ∧ (k.i, k.e, k.v) ∈ pd)
  at_ : ∀ k ∈ U, ∀ o, ops[k.i]? = some o → ∀ t ∈ o.looksAt ops, ∀ v, k.e.get t = some v → (∃ s ∈ U, ∃ o', ops[s.i]? = some o' ∧ o'.dst = some t ∧ ahead ms s.i k.i = true) ∨ a.tmps.getD t undef = v
  env_ : ∀ t v, env.get t = some v → (∃ s ∈ U, ∃ o', ops[s.i]? = some o' ∧ o'.dst = some t ∧ s.v = v) ∨ a.tmps.getD t undef = v
  between : ∀ s ∈ U, ∀ k ∈ U, ahead ms s.i k.i = true → ∀ o d, ops[s.i]? = some o → o.dst = some d → k.e.get d = some s.v
  inEnv : ∀ s ∈ U, ∀ o d, ops[s.i]? = some o → o.dst = some d → env.get d = some s.v
/-- operands agree, so the operation comes to the same -/
theorem agree_exec {e : Env} {a : Act} {o : Oper} (hsel : sel o.op = false) (h : ∀ t ∈ o.looksAt ops, ∀ v, e.get t = some v → a.tmps.getD t undef = v) : ∃ ρ, Agrees e ρ ∧ execOp a.eval o = execOp ρ o := by
  refine ⟨fun x => match e.ev x with | some v => v | none => a.eval x, fun x v hx => by simp only [hx], ?_⟩
  refine execOp_congr o (fun cs b hh => by rw [hh] at hsel; simp [sel] at hsel) (fun x hx => ?_)
  cases x with
  | tmp t =>
    have ht : t ∈ o.looksAt ops := by
      unfold Oper.looksAt
      refine List.mem_append.2 (.inl (List.mem_filterMap.2 ⟨.tmp t, by simpa using hx, rfl⟩))
    simp only [Env.ev]
    cases hg : e.get t with
    | none => rfl
    | some v => simp only [Act.eval]; exact h t ht v hg
  | const c => rfl
  | global g => rfl
  | func f => rfl
theorem agree_want {e : Env} {a : Act} {o : Oper} {b : Bool} (hw : Want ops e o.guard = some b) (h : ∀ t ∈ o.looksAt ops, ∀ v, e.get t = some v → a.tmps.getD t undef = v) : Region.wanted o (yielded ops a.tmps) = b := by
  unfold Want at hw
  unfold Region.wanted
  split at hw
  · rename_i hg; rw [hg]; simpa using hw
  · rename_i j want hg
    rw [hg]
    split at hw
    · rename_i s hs
      split at hw
      · rename_i c hc
        have ht : s ∈ o.looksAt ops := by
          unfold Oper.looksAt
          rw [hg]
          refine List.mem_append.2 (.inr ?_)
          simp only [hs, Option.toList_some, List.mem_singleton]
        have h1 := h s ht _ hc
        have h2 : yielded ops a.tmps j = some c := by
          unfold yielded
          rw [hs]
          simp only [Option.bind_some]
          rw [Array.getD_eq_getD_getElem?] at h1
          cases hh : a.tmps[s]? with
          | none => rw [hh] at h1; simp [undef] at h1
          | some v => rw [hh] at h1; simp at h1; subst h1; rfl
        simp only [h2]
        simp at hw
        rw [← hw]
        cases c <;> cases want <;> rfl
      · rename_i vs hb
        have ht : s ∈ o.looksAt ops := by
          unfold Oper.looksAt
          rw [hg]
          refine List.mem_append.2 (.inr ?_)
          simp only [hs, Option.toList_some, List.mem_singleton]
        simp only [Option.some.injEq] at hw
        subst hw
        simp only [yielded_not hs (h s ht _ hb)]
        rfl
      · simp at hw
    · simp at hw
theorem put_getD {a : Act} {d : Option Tmp} {v : Value} {t : Nat} (hd : inB a.tmps.size d = true) : (a.put d v).tmps.getD t undef = if d = some t then v else a.tmps.getD t undef := by
  cases d with
  | none => simp [Act.put]
  | some d =>
    have hd' : d < a.tmps.size := by simpa [inB, Nat.blt_eq] using hd
    by_cases e : d = t
    · subst e; simp [Act.put, hd']
    · have : ¬ (some d = some t) := fun h => e (Option.some.inj h)
      simp only [this, if_false, Act.put, Array.getD_eq_getD_getElem?]
      rw [Array.getElem?_setIfInBounds_ne e]
theorem get_put {e : Env} {d : Option Tmp} {v : Value} {t : Nat} : (e.put d v).get t = if d = some t then some v else e.get t := by
  cases d with
  | none => simp [Env.put]
  | some d =>
    by_cases e1 : d = t
    · subst e1; simp [Env.put, Env.get]
    · have h1 : ¬ (some d = some t) := fun h => e1 (Option.some.inj h)
      have h2 : Nat.beq d t = false := by
        cases hb : Nat.beq d t with
        | false => rfl
        | true => exact absurd (Nat.eq_of_beq_eq_true hb) e1
      simp [Env.put, Env.get, h1, h2]
theorem apart_look {x y : Oper} (h : x.apart ops y = true) : (∀ d, x.dst = some d → d ∉ y.looksAt ops) ∧ (∀ d, y.dst = some d → d ∉ x.looksAt ops) := ⟨(Oper.apart_spec h).1, (Oper.apart_spec h).2.2⟩

/-- a light step of the canonical order: it may come up from now on -/
theorem ahead_lt (hm : masksOk ops ms = true) : ∀ {j i : Nat} {o : Oper}, ops[j]? = some o → ahead ms i j = true → i < j := by
  intro j
  induction j using Nat.strongRecOn with
  | _ j ih =>
    intro i o hj h
    obtain ⟨e, hem, hb, hlt, h2⟩ := ahead_edge hm hj h
    rcases h2 with h2 | h2
    · omega
    · have hlt' : e.on < ops.size := Nat.lt_trans hlt (Array.getElem?_eq_some_iff.1 hj).1
      have := ih e.on hlt (Array.getElem?_eq_getElem hlt') h2
      omega
theorem Inv.light (hm : masksOk ops ms = true) {listed : Array Bool} {a : Act} {w : World} {env : Env} {pd pd' : Pend} {U : List KE} {seen act act' : List Nat} (h : Inv P n ops ms listed a w env pd U seen act []) {i : Nat} {o : Oper} {v : Value} {b : Bool}
    (hi : ops[i]? = some o) (hf : ∀ s ∈ seen, flow ops ms s i = true) (hlow : ¬ Dn listed i)
    (hb : b = true → Want ops env o.guard = some true ∧ RanE P env o w v) (hb' : b = false → Want ops env o.guard = some false ∧ v = undef)
    (hkeep : b = true → (∀ u, RanE P env o u v) ∨ (i ∈ act' ∧ (i, env, v) ∈ pd')) (hact : ∀ k ∈ act, k ∈ act') (hpd : ∀ e ∈ pd, e ∈ pd') :
    Inv P n ops ms listed a w (env.put o.dst v) pd' (⟨i, env, v, b⟩ :: U) (i :: seen) act' [] := by
  have hns : i ∉ seen := fun hs => (flow_spec hi hi (hf i hs)).1 rfl
  have hnU : ∀ k ∈ U, k.i ≠ i := fun k hk e => hns (e ▸ h.useen k hk)
  have hdst : ∀ k ∈ U, ∀ o' d e, ops[k.i]? = some o' → o'.dst = some d → o.dst = some e → d ≠ e := fun k hk o' d e ho' hd he => (flow_spec ho' hi (hf _ (h.useen k hk))).2.1 d e hd he
  refine ⟨h.size, h.defers, ?_, ?_, ?_, ?_, ?_, ?_, ?_, ?_, ?_, ?_⟩
  · intro j hj
    rw [h.done j hj]
    constructor
    · rintro ⟨h1, h2⟩
      refine ⟨List.mem_cons_of_mem _ h1, fun k hk => ?_⟩
      rcases List.mem_cons.1 hk with rfl | hk
      · exact fun e => hns (by simp only at e; rw [e]; exact h1)
      · exact h2 k hk
    · rintro ⟨h1, h2⟩
      have h3 : i ≠ j := h2 _ (List.mem_cons_self ..)
      rcases List.mem_cons.1 h1 with e | h1
      · exact absurd e.symm h3
      · exact ⟨h1, fun k hk => h2 k (List.mem_cons_of_mem _ hk)⟩
  · intro x hx y hy hxy
    rcases List.mem_cons.1 hx with rfl | hx <;> rcases List.mem_cons.1 hy with rfl | hy
    · rfl
    · exact absurd hxy.symm (hnU y hy)
    · exact absurd hxy (hnU x hx)
    · exact h.uniq x hx y hy hxy
  · intro k hk
    rcases List.mem_cons.1 hk with rfl | hk
    · exact List.mem_cons_self ..
    · exact List.mem_cons_of_mem _ (h.useen k hk)
  · intro x hx y hy hxy
    rcases List.mem_cons.1 hx with e | hx'
    · rcases List.mem_cons.1 hy with e' | hy'
      · exact absurd (e.trans e'.symm) hxy
      · rw [e]; exact .inr (hf y hy')
    · rcases List.mem_cons.1 hy with e' | hy'
      · rw [e']; exact .inl (hf x hx')
      · exact h.pair x hx' y hy' hxy
  · intro k hk
    rcases List.mem_cons.1 hk with rfl | hk
    · exact ⟨_, hi, fun e => ⟨(hb e).1, .inr (hb e).2⟩, hb'⟩
    · exact h.op k hk
  · intro k hk hkb
    rcases List.mem_cons.1 hk with rfl | hk
    · rcases hkeep hkb with h1 | h1
      · refine .inl fun o' ho' => ?_
        simp only at ho'
        rw [hi] at ho'; simp only [Option.some.injEq] at ho'; subst ho'; exact h1
      · exact .inr h1
    · rcases h.keep k hk hkb with h1 | ⟨h1, h2⟩
      · exact .inl h1
      · exact .inr ⟨hact _ h1, hpd _ h2⟩
  · intro k hk o' ho' t ht v' hv'
    rcases List.mem_cons.1 hk with rfl | hk
    · simp only at ho' hv'
      rw [hi] at ho'; simp only [Option.some.injEq] at ho'; subst ho'
      rcases h.env_ t v' hv' with ⟨s, hs, os, hos, hds, _⟩ | h1
      · refine .inl ⟨s, List.mem_cons_of_mem _ hs, os, hos, hds, ?_⟩
        rcases (flow_spec hos hi (hf _ (h.useen s hs))).2.2.1 with hap | hap
        · exact absurd ht ((apart_look hap).1 t hds)
        · exact hap
      · exact .inr h1
    · rcases h.at_ k hk o' ho' t ht v' hv' with ⟨s, hs, os, hos, hds, hah⟩ | h1
      · exact .inl ⟨s, List.mem_cons_of_mem _ hs, os, hos, hds, hah⟩
      · exact .inr h1
  · intro t v' hg
    rw [get_put] at hg
    split at hg
    · rename_i e
      simp only [Option.some.injEq] at hg
      exact .inl ⟨⟨i, env, v, b⟩, List.mem_cons_self .., o, hi, e, hg⟩
    · rcases h.env_ t v' hg with ⟨s, hs, os, hos, hds, hsv⟩ | h1
      · exact .inl ⟨s, List.mem_cons_of_mem _ hs, os, hos, hds, hsv⟩
      · exact .inr h1
  · intro s hs k hk hah os d hos hd
    rcases List.mem_cons.1 hk with rfl | hk
    · rcases List.mem_cons.1 hs with rfl | hs
      · exact absurd (ahead_lt hm hi hah) (Nat.lt_irrefl _)
      · exact h.inEnv s hs os d hos hd
    · rcases List.mem_cons.1 hs with rfl | hs
      · obtain ⟨ok, hok, _⟩ := h.op k hk
        have := (flow_spec hok hi (hf _ (h.useen k hk))).2.2.2
        simp only at hah
        rw [hah] at this; cases this
      · exact h.between s hs k hk hah os d hos hd
  · intro s hs os d hos hd
    rw [get_put]
    rcases List.mem_cons.1 hs with rfl | hs
    · simp only at hos
      rw [hi] at hos; simp only [Option.some.injEq] at hos; subst hos
      simp [hd]
    · split
      · rename_i e
        exact absurd rfl (hdst s hs os d d hos hd e)
      · exact h.inEnv s hs os d hos hd
/-- one that may come up does -/
theorem Inv.exec (hm : masksOk ops ms = true) (hdst : ∀ (i : Nat) (o : Oper), ops[i]? = some o → inB n o.dst = true) {listed : Array Bool} {a : Act} {w : World} {env : Env} {pd : Pend} {U : List KE} {seen act : List Nat} (h : Inv P n ops ms listed a w env pd U seen act []) (hs : listed.size = ops.size) (hc : Closed ops listed) {k0 : KE} {o : Oper} (hk0 : k0 ∈ U)
    (ho : ops[k0.i]? = some o) (hr : ∀ e ∈ o.after.toList, Region.binds .any e = true → Dn listed e.on) :
    Inv P n ops ms (listed.setIfInBounds k0.i true) (a.put o.dst k0.v) w env pd (U.filter fun k => !Nat.beq k.i k0.i) seen act [] := by
  have hlt : k0.i < listed.size := by have := (Array.getElem?_eq_some_iff.1 ho).1; omega
  have hmem : ∀ k, k ∈ U.filter (fun k => !Nat.beq k.i k0.i) ↔ k ∈ U ∧ k.i ≠ k0.i := by
    intro k
    rw [List.mem_filter]
    constructor
    · rintro ⟨h1, h2⟩
      refine ⟨h1, fun e => ?_⟩
      rw [e] at h2
      simp at h2
    · rintro ⟨h1, h2⟩
      refine ⟨h1, ?_⟩
      cases hb : Nat.beq k.i k0.i with
      | false => rfl
      | true => exact absurd (Nat.eq_of_beq_eq_true hb) h2
  have hnd : ∀ k ∈ U, ¬ Dn listed k.i := fun k hk hd => by
    obtain ⟨ok, hok, _⟩ := h.op k hk
    exact ((h.done k.i (Array.getElem?_eq_some_iff.1 hok).1).1 hd).2 k hk rfl
  have hput : ∀ t, (a.put o.dst k0.v).tmps.getD t undef = if o.dst = some t then k0.v else a.tmps.getD t undef := fun t => put_getD (by rw [h.size]; exact hdst _ _ ho)
  refine ⟨?_, ?_, ?_, ?_, ?_, h.pair, ?_, ?_, ?_, ?_, ?_, ?_⟩
  · cases hd : o.dst <;> simp [Act.put, h.size]
  · cases hd : o.dst <;> simp [Act.put, h.defers]
  · intro j hj
    rw [Dn_set hlt, h.done j hj]
    constructor
    · rintro (rfl | ⟨h1, h2⟩)
      · exact ⟨h.useen k0 hk0, fun k hk => ((hmem k).1 hk).2⟩
      · exact ⟨h1, fun k hk => h2 k ((hmem k).1 hk).1⟩
    · rintro ⟨h1, h2⟩
      by_cases e : j = k0.i
      · exact .inl e
      · exact .inr ⟨h1, fun k hk ek => h2 k ((hmem k).2 ⟨hk, by rw [ek]; exact e⟩) ek⟩
  · intro x hx y hy hxy; exact h.uniq x ((hmem x).1 hx).1 y ((hmem y).1 hy).1 hxy
  · intro k hk; exact h.useen k ((hmem k).1 hk).1
  · intro k hk; exact h.op k ((hmem k).1 hk).1
  · intro k hk; exact h.keep k ((hmem k).1 hk).1
  · intro k hk ok hok t ht v hv
    obtain ⟨hkU, hki⟩ := (hmem k).1 hk
    rw [hput]
    rcases h.at_ k hkU ok hok t ht v hv with ⟨s, hsU, os, hos, hds, hah⟩ | h1
    · by_cases e : s.i = k0.i
      · have : s = k0 := h.uniq s hsU k0 hk0 e
        subst this
        rw [ho] at hos; simp only [Option.some.injEq] at hos; subst hos
        have := h.between s hsU k hkU hah o t ho hds
        rw [hv] at this; simp only [Option.some.injEq] at this
        right; rw [if_pos hds, this]
      · exact .inl ⟨s, (hmem s).2 ⟨hsU, e⟩, os, hos, hds, hah⟩
    · right
      by_cases e : o.dst = some t
      · rw [if_pos e]
        have fin : ahead ms k0.i k.i = true → k0.v = v := fun hah => by
          have := h.between k0 hk0 k hkU hah o t ho e
          rw [hv] at this; simpa using this.symm
        rcases h.pair k0.i (h.useen k0 hk0) k.i (h.useen k hkU) (fun e => hki e.symm) with hf | hf
        · rcases (flow_spec ho hok hf).2.2.1 with hap | hap
          · exact absurd ht ((apart_look hap).1 t e)
          · exact fin hap
        · rcases (flow_spec hok ho hf).2.2.1 with hap | hap
          · exact absurd ht ((apart_look hap).2 t e)
          · exact absurd (hc.ahead hm _ _ o ho hr hap) (hnd k hkU)
      · rw [if_neg e]; exact h1
  · intro t v hg
    rw [hput]
    rcases h.env_ t v hg with ⟨s, hsU, os, hos, hds, hsv⟩ | h1
    · by_cases e : s.i = k0.i
      · have : s = k0 := h.uniq s hsU k0 hk0 e
        subst this
        rw [ho] at hos; simp only [Option.some.injEq] at hos; subst hos
        right; rw [if_pos hds]; exact hsv
      · exact .inl ⟨s, (hmem s).2 ⟨hsU, e⟩, os, hos, hds, hsv⟩
    · right
      by_cases e : o.dst = some t
      · rw [if_pos e]
        have := h.inEnv k0 hk0 o t ho e
        rw [hg] at this; simpa using this.symm
      · rw [if_neg e]; exact h1
  · intro s hs' k hk; exact h.between s ((hmem s).1 hs').1 k ((hmem k).1 hk).1
  · intro s hs'; exact h.inEnv s ((hmem s).1 hs').1
/-- one that changes memory does -/
theorem Inv.heavy (hm : masksOk ops ms = true) (hdst : ∀ (i : Nat) (o : Oper), ops[i]? = some o → inB n o.dst = true) {listed : Array Bool} {a : Act} {w u : World} {env : Env} {pd : Pend} {U : List KE} {seen act : List Nat} (h : Inv P n ops ms listed a w env pd U seen act []) (hs : listed.size = ops.size) (hc : Closed ops listed) {i : Nat} {o : Oper} {v : Value}
    (ho : ops[i]? = some o) (hr : ∀ e ∈ o.after.toList, Region.binds .any e = true → Dn listed e.on) (hf : ∀ s ∈ seen, flow ops ms s i = true) :
    Inv P n ops ms (listed.setIfInBounds i true) (a.put o.dst v) u (env.put o.dst v) pd U (i :: seen) (act.filter fun k => !ahead ms k i) (act.filter fun k => !ahead ms k i) := by
  have hlt : i < listed.size := by have := (Array.getElem?_eq_some_iff.1 ho).1; omega
  have hns : i ∉ seen := fun hs => (flow_spec ho ho (hf i hs)).1 rfl
  have hnU : ∀ k ∈ U, k.i ≠ i := fun k hk e => hns (e ▸ h.useen k hk)
  have hnd : ∀ k ∈ U, ¬ Dn listed k.i := fun k hk hd => by
    obtain ⟨ok, hok, _⟩ := h.op k hk
    exact ((h.done k.i (Array.getElem?_eq_some_iff.1 hok).1).1 hd).2 k hk rfl
  have hna : ∀ k ∈ U, ahead ms k.i i = false := fun k hk => by
    cases hb : ahead ms k.i i with
    | false => rfl
    | true => exact absurd (hc.ahead hm _ _ o ho hr hb) (hnd k hk)
  have hput : ∀ t, (a.put o.dst v).tmps.getD t undef = if o.dst = some t then v else a.tmps.getD t undef := fun t => put_getD (by rw [h.size]; exact hdst _ _ ho)
  refine ⟨?_, ?_, ?_, h.uniq, ?_, ?_, ?_, ?_, ?_, ?_, h.between, ?_⟩
  · cases hd : o.dst <;> simp [Act.put, h.size]
  · cases hd : o.dst <;> simp [Act.put, h.defers]
  · intro j hj
    rw [Dn_set hlt, h.done j hj]
    constructor
    · rintro (rfl | ⟨h1, h2⟩)
      · exact ⟨List.mem_cons_self .., hnU⟩
      · exact ⟨List.mem_cons_of_mem _ h1, h2⟩
    · rintro ⟨h1, h2⟩
      rcases List.mem_cons.1 h1 with e | h1
      · exact .inl e
      · exact .inr ⟨h1, h2⟩
  · intro k hk; exact List.mem_cons_of_mem _ (h.useen k hk)
  · intro x hx y hy hxy
    rcases List.mem_cons.1 hx with e | hx'
    · rcases List.mem_cons.1 hy with e' | hy'
      · exact absurd (e.trans e'.symm) hxy
      · rw [e]; exact .inr (hf y hy')
    · rcases List.mem_cons.1 hy with e' | hy'
      · rw [e']; exact .inl (hf x hx')
      · exact h.pair x hx' y hy' hxy
  · intro k hk
    obtain ⟨ok, hok, h1, h2⟩ := h.op k hk
    refine ⟨ok, hok, fun hb => ⟨(h1 hb).1, ?_⟩, h2⟩
    rcases h.keep k hk hb with h3 | ⟨h3, _⟩
    · exact .inr (h3 ok hok u)
    · exact .inl (List.mem_filter.2 ⟨h3, by simp [hna k hk]⟩)
  · intro k hk hb
    rcases h.keep k hk hb with h3 | ⟨h3, h4⟩
    · exact .inl h3
    · exact .inr ⟨List.mem_filter.2 ⟨h3, by simp [hna k hk]⟩, h4⟩
  · intro k hk ok hok t ht v' hv
    rcases h.at_ k hk ok hok t ht v' hv with h1 | h1
    · exact .inl h1
    · right
      rw [hput]
      by_cases e : o.dst = some t
      · rcases (flow_spec hok ho (hf _ (h.useen k hk))).2.2.1 with hap | hap
        · exact absurd ht ((apart_look hap).2 t e)
        · rw [hna k hk] at hap; cases hap
      · rw [if_neg e]; exact h1
  · intro t v' hg
    rw [get_put] at hg
    rw [hput]
    by_cases e : o.dst = some t
    · rw [if_pos e] at hg ⊢
      right; simpa using hg
    · rw [if_neg e] at hg ⊢
      exact h.env_ t v' hg
  · intro s hsU os d hos hd
    rw [get_put]
    split
    · rename_i e
      exact absurd rfl ((flow_spec hos ho (hf _ (h.useen s hsU))).2.1 d d hd e)
    · exact h.inEnv s hsU os d hos hd
def norm : List Stp → Prop
  | [] => True
  | .hv _ :: _ => True
  | _ => False
/-- on to the next step that changes memory -/
theorem advance (hm : masksOk ops ms = true) (hv : Nat → Bool) {listed : Array Bool} {a : Act} {w : World} {Qf : Env → World → Prop} {goal : Prop} : ∀ (pl : List Stp) (env : Env) (pd : Pend) (U : List KE) (seen act need : List Nat) (last : Option Nat),
    Inv P n ops ms listed a w env pd U seen act need → Chk P ops pl env pd w Qf → planOk ops ms pl seen act need last = true → (∀ k ∈ U, hv k.i = false) → (∀ i ∈ pl, ∀ j, i = .lp j ∨ i = .li j → hv j = false) → (∀ i ∈ pl, ∀ j, i = .hv j → hv j = true) →
    (∀ (pl' : List Stp) (env : Env) (pd : Pend) (U : List KE) (seen act : List Nat) (last : Option Nat), norm pl' → Inv P n ops ms listed a w env pd U seen act [] → Chk P ops pl' env pd w Qf → planOk ops ms pl' seen act [] last = true → (∀ k ∈ U, hv k.i = false) → (∀ i ∈ pl', ∀ j, i = .lp j ∨ i = .li j → hv j = false) → (∀ i ∈ pl', ∀ j, i = .hv j → hv j = true) → heavies pl' = heavies pl → goal) → goal := by
  intro pl
  induction pl with
  | nil =>
    intro env pd U seen act need last h1 h2 h3 h4 h5 h6 fin
    have e : need = [] := by simp only [planOk, Bool.and_eq_true, List.isEmpty_iff] at h3; exact h3.1
    subst e
    exact fin [] env pd U seen act last trivial h1 h2 h3 h4 h5 h6 rfl
  | cons x r ih =>
    intro env pd U seen act need last h1 h2 h3 h4 h5 h6 fin
    have h5' : ∀ i ∈ r, ∀ j, i = .lp j ∨ i = .li j → hv j = false := fun i hi => h5 i (List.mem_cons_of_mem _ hi)
    have h6' : ∀ i ∈ r, ∀ j, i = .hv j → hv j = true := fun i hi => h6 i (List.mem_cons_of_mem _ hi)
    cases x with
    | hv i =>
      have e : need = [] := by simp only [planOk, Bool.and_eq_true, List.isEmpty_iff] at h3; exact h3.1.1.1
      subst e
      exact fin (.hv i :: r) env pd U seen act last (by simp [norm]) h1 h2 h3 h4 h5 h6 rfl
    | re i =>
      simp only [planOk] at h3
      obtain ⟨h7, h8⟩ := h2
      refine ih env pd U seen act _ last ⟨h1.size, h1.defers, h1.done, h1.uniq, h1.useen, h1.pair, ?_, h1.keep, h1.at_, h1.env_, h1.between, h1.inEnv⟩ h8 h3 h4 h5' h6' (fun pl' env pd U seen act last a1 a2 a3 a4 a5 a6 a7 a8 => fin pl' env pd U seen act last a1 a2 a3 a4 a5 a6 a7 (by rw [a8]; rfl))
      intro k hk
      obtain ⟨ok, hok, g1, g2⟩ := h1.op k hk
      refine ⟨ok, hok, fun hb => ⟨(g1 hb).1, ?_⟩, g2⟩
      rcases (g1 hb).2 with g3 | g3
      · by_cases e : k.i = i
        · right
          rcases h1.keep k hk hb with g4 | ⟨_, g4⟩
          · exact g4 ok hok w
          · exact h7 _ g4 e ok (e ▸ hok)
        · left
          refine List.mem_filter.2 ⟨g3, ?_⟩
          cases hb : Nat.beq k.i i with
          | false => rfl
          | true => exact absurd (Nat.eq_of_beq_eq_true hb) e
      · exact .inr g3
    | lp i =>
      simp only [planOk, Bool.and_eq_true, List.isEmpty_iff, List.all_eq_true] at h3
      obtain ⟨⟨⟨⟨rfl, g1⟩, g2⟩, _⟩, g4⟩ := h3
      obtain ⟨o, ho, g5⟩ := h2
      have hnd : ¬ Dn listed i := fun hd => absurd rfl (flow_spec ho ho (g2 i ((h1.done i (Array.getElem?_eq_some_iff.1 ho).1).1 hd).1)).1
      rcases g5 with ⟨g5, v, g6, g7⟩ | ⟨g5, g7⟩
      · refine ih _ pd _ _ _ _ last (h1.light (act' := act) (pd' := pd) (b := true) hm ho g2 hnd (fun _ => ⟨g5, g6 w⟩) (fun e => by cases e) (fun _ => .inl g6) (fun _ hk => hk) (fun _ he => he)) g7 g4 ?_ h5' h6' (fun pl' env pd U seen act last a1 a2 a3 a4 a5 a6 a7 a8 => fin pl' env pd U seen act last a1 a2 a3 a4 a5 a6 a7 (by rw [a8]; rfl))
        intro k hk
        rcases List.mem_cons.1 hk with rfl | hk
        · exact h5 _ (List.mem_cons_self ..) i (.inl rfl)
        · exact h4 k hk
      · refine ih _ pd _ _ _ _ last (h1.light (act' := act) (pd' := pd) (v := undef) (b := false) hm ho g2 hnd (fun e => by cases e) (fun _ => ⟨g5, rfl⟩) (fun e => by cases e) (fun _ hk => hk) (fun _ he => he)) g7 g4 ?_ h5' h6' (fun pl' env pd U seen act last a1 a2 a3 a4 a5 a6 a7 a8 => fin pl' env pd U seen act last a1 a2 a3 a4 a5 a6 a7 (by rw [a8]; rfl))
        intro k hk
        rcases List.mem_cons.1 hk with rfl | hk
        · exact h5 _ (List.mem_cons_self ..) i (.inl rfl)
        · exact h4 k hk
    | li i =>
      simp only [planOk, Bool.and_eq_true, List.isEmpty_iff, List.all_eq_true] at h3
      obtain ⟨⟨⟨⟨rfl, g1⟩, g2⟩, _⟩, g4⟩ := h3
      obtain ⟨o, ho, g5⟩ := h2
      have hnd : ¬ Dn listed i := fun hd => absurd rfl (flow_spec ho ho (g2 i ((h1.done i (Array.getElem?_eq_some_iff.1 ho).1).1 hd).1)).1
      rcases g5 with ⟨g5, v, g6, g7⟩ | ⟨g5, g7⟩
      · refine ih _ _ _ _ _ _ last (h1.light (act' := i :: act) (pd' := (i, env, v) :: pd) (b := true) hm ho g2 hnd (fun _ => ⟨g5, g6⟩) (fun e => by cases e) (fun _ => .inr ⟨List.mem_cons_self .., List.mem_cons_self ..⟩) (fun _ hk => List.mem_cons_of_mem _ hk) (fun _ he => List.mem_cons_of_mem _ he)) g7 g4 ?_ h5' h6' (fun pl' env pd U seen act last a1 a2 a3 a4 a5 a6 a7 a8 => fin pl' env pd U seen act last a1 a2 a3 a4 a5 a6 a7 (by rw [a8]; rfl))
        intro k hk
        rcases List.mem_cons.1 hk with rfl | hk
        · exact h5 _ (List.mem_cons_self ..) i (.inr rfl)
        · exact h4 k hk
      · refine ih _ _ _ _ _ _ last (h1.light (act' := i :: act) (pd' := pd) (v := undef) (b := false) hm ho g2 hnd (fun e => by cases e) (fun _ => ⟨g5, rfl⟩) (fun e => by cases e) (fun _ hk => List.mem_cons_of_mem _ hk) (fun _ he => he)) g7 g4 ?_ h5' h6' (fun pl' env pd U seen act last a1 a2 a3 a4 a5 a6 a7 a8 => fin pl' env pd U seen act last a1 a2 a3 a4 a5 a6 a7 (by rw [a8]; rfl))
        intro k hk
        rcases List.mem_cons.1 hk with rfl | hk
        · exact h5 _ (List.mem_cons_self ..) i (.inr rfl)
        · exact h4 k hk
theorem cover : ∀ (pl : List Stp) (seen act need : List Nat) (last : Option Nat), planOk ops ms pl seen act need last = true → ∀ i, i < ops.size → i ∈ seen ∨ i ∈ ixs pl := by
  intro pl
  induction pl with
  | nil =>
    intro seen act need last h i hi
    simp only [planOk, Bool.and_eq_true, List.all_eq_true] at h
    exact .inl (by simpa using h.2 i (List.mem_range.2 hi))
  | cons x r ih =>
    intro seen act need last h i hi
    have key : ∀ j act' need' last', planOk ops ms r (j :: seen) act' need' last' = true → i ∈ seen ∨ i ∈ j :: ixs r := by
      intro j act' need' last' hh
      rcases ih _ _ _ _ hh i hi with h1 | h1
      · rcases List.mem_cons.1 h1 with h1 | h1
        · exact .inr (by rw [h1]; exact List.mem_cons_self ..)
        · exact .inl h1
      · exact .inr (List.mem_cons_of_mem _ h1)
    cases x <;> simp only [planOk, Bool.and_eq_true] at h
    · exact key _ _ _ _ h.2
    · exact key _ _ _ _ h.2
    · exact ih _ _ _ _ h i hi
    · exact key _ _ _ _ h.2
theorem heavies_new : ∀ (pl : List Stp) (seen act need : List Nat) (last : Option Nat), planOk ops ms pl seen act need last = true → ∀ h ∈ heavies pl, h ∉ seen := by
  have hne : ∀ s i, flow ops ms s i = true → s ≠ i := fun s i h e => by
    subst e
    unfold flow at h
    split at h <;> simp at h
  intro pl
  induction pl with
  | nil => intro seen act need last h i hi; simp [heavies] at hi
  | cons x r ih =>
    intro seen act need last h i hi
    cases x <;> simp only [planOk, Bool.and_eq_true, heavies, List.all_eq_true] at h hi
    · exact fun hs => ih _ _ _ _ h.2 i hi (List.mem_cons_of_mem _ hs)
    · exact fun hs => ih _ _ _ _ h.2 i hi (List.mem_cons_of_mem _ hs)
    · exact ih _ _ _ _ h i hi
    · rcases List.mem_cons.1 hi with rfl | hi
      · exact fun hs => hne _ _ (h.1.2 i hs) rfl
      · exact fun hs => ih _ _ _ _ h.2 i hi (List.mem_cons_of_mem _ hs)
theorem light_after : ∀ (pl : List Stp) (seen act need : List Nat) (h : Nat), planOk ops ms pl seen act need (some h) = true → ∀ i, (.lp i ∈ pl ∨ .li i ∈ pl) → ∃ h', (h' = h ∨ h' ∈ heavies pl) ∧ ahead ms h' i = true := by
  intro pl
  induction pl with
  | nil => intro seen act need h hp i hi; simp at hi
  | cons x r ih =>
    intro seen act need h hp i hi
    cases x <;> simp only [planOk, Bool.and_eq_true, heavies] at hp ⊢
    · rename_i j
      by_cases e : j = i
      · subst e; exact ⟨h, .inl rfl, hp.1.2⟩
      · refine ih _ _ _ _ hp.2 i ?_
        rcases hi with hi | hi <;> rcases List.mem_cons.1 hi with h1 | h1
        · exact absurd (by injection h1 with h1; exact h1.symm) e
        · exact .inl h1
        · cases h1
        · exact .inr h1
    · rename_i j
      by_cases e : j = i
      · subst e; exact ⟨h, .inl rfl, hp.1.2⟩
      · refine ih _ _ _ _ hp.2 i ?_
        rcases hi with hi | hi <;> rcases List.mem_cons.1 hi with h1 | h1
        · cases h1
        · exact .inl h1
        · exact absurd (by injection h1 with h1; exact h1.symm) e
        · exact .inr h1
    · refine ih _ _ _ _ hp i ?_
      rcases hi with hi | hi <;> rcases List.mem_cons.1 hi with h1 | h1
      · cases h1
      · exact .inl h1
      · cases h1
      · exact .inr h1
    · have : .lp i ∈ r ∨ .li i ∈ r := by
        rcases hi with hi | hi <;> rcases List.mem_cons.1 hi with h1 | h1
        · cases h1
        · exact .inl h1
        · cases h1
        · exact .inr h1
      obtain ⟨h', h1, h2⟩ := ih _ _ _ _ hp.2 i this
      refine ⟨h', .inr ?_, h2⟩
      rcases h1 with h1 | h1
      · rw [h1]; exact List.mem_cons_self ..
      · exact List.mem_cons_of_mem _ h1
theorem ixs_split : ∀ (pl : List Stp) (i : Nat), i ∈ ixs pl → (.lp i ∈ pl ∨ .li i ∈ pl) ∨ .hv i ∈ pl := by
  intro pl
  induction pl with
  | nil => intro i h; simp [ixs] at h
  | cons x r ih =>
    intro i h
    have up : (.lp i ∈ r ∨ .li i ∈ r) ∨ .hv i ∈ r → (.lp i ∈ x :: r ∨ .li i ∈ x :: r) ∨ .hv i ∈ x :: r := by
      rintro ((h | h) | h)
      · exact .inl (.inl (List.mem_cons_of_mem _ h))
      · exact .inl (.inr (List.mem_cons_of_mem _ h))
      · exact .inr (List.mem_cons_of_mem _ h)
    cases x <;> simp only [ixs] at h
    · rcases List.mem_cons.1 h with rfl | h
      · exact .inl (.inl (List.mem_cons_self ..))
      · exact up (ih i h)
    · rcases List.mem_cons.1 h with rfl | h
      · exact .inl (.inr (List.mem_cons_self ..))
      · exact up (ih i h)
    · exact up (ih i h)
    · rcases List.mem_cons.1 h with rfl | h
      · exact .inr (List.mem_cons_self ..)
      · exact up (ih i h)
theorem any_order (hm : masksOk ops ms = true) (hsel : ∀ (i : Nat) (o : Oper), ops[i]? = some o → sel o.op = false) (hdst : ∀ (i : Nat) (o : Oper), ops[i]? = some o → inB n o.dst = true) (hv : Nat → Bool) {Q : Exit → Act → World → Prop} {Qf : Env → World → Prop} (hQ : ∀ env u, Qf env u → ∀ a, Sim n env a → Q .normal a u) :
    ∀ (l : List Nat) (listed : Array Bool) (a : Act) (w : World) (pl : List Stp) (env : Env) (pd : Pend) (U : List KE) (seen act need : List Nat) (last : Option Nat), listed.size = ops.size → Closed ops listed → Valid ops listed l →
    Inv P n ops ms listed a w env pd U seen act need → Chk P ops pl env pd w Qf → planOk ops ms pl seen act need last = true → (∀ k ∈ U, hv k.i = false) → (∀ i ∈ pl, ∀ j, i = .lp j ∨ i = .li j → hv j = false) → (∀ i ∈ pl, ∀ j, i = .hv j → hv j = true) →
    l.filter hv = heavies pl → wpOps P ops Q l a w := by
  intro l
  induction l with
  | nil =>
    intro listed a w pl env pd U seen act need last hs hc hval h1 h2 h3 h4 h5 h6 h7
    refine advance hm hv pl env pd U seen act need last h1 h2 h3 h4 h5 h6 ?_
    intro pl' env pd U seen act last a1 a2 a3 a4 a5 a6 a7 a8
    have hpl : pl' = [] := by
      cases pl' with
      | nil => rfl
      | cons x r =>
        cases x <;> simp only [norm] at a1
        rw [← h7] at a8
        simp [heavies] at a8
    subst hpl
    have hU : U = [] := by
      cases U with
      | nil => rfl
      | cons k r =>
        obtain ⟨o, ho, _⟩ := a2.op k (List.mem_cons_self ..)
        have hlt := (Array.getElem?_eq_some_iff.1 ho).1
        exact absurd rfl (((a2.done k.i hlt).1 (hval k.i hlt)).2 k (List.mem_cons_self ..))
    subst hU
    simp only [wpOps]
    refine hQ env w a3 a ⟨a2.size, a2.defers, fun t v hg => ?_⟩
    rcases a2.env_ t v hg with ⟨s, hs, _⟩ | h
    · simp at hs
    · exact h
  | cons i l ihl =>
    intro listed a w pl env pd U seen act need last hs hc hval h1 h2 h3 h4 h5 h6 h7
    refine advance hm hv pl env pd U seen act need last h1 h2 h3 h4 h5 h6 ?_
    intro pl' env pd U seen act last a1 a2 a3 a4 a5 a6 a7 a8
    rw [← a8] at h7
    clear a8 h1 h2 h3 h4 h5 h6
    obtain ⟨hrdy, hval⟩ := hval
    obtain ⟨hi, hnd, o, ho, hr⟩ := (mem_rdy hs).1 hrdy
    have hs' : (listed.setIfInBounds i true).size = ops.size := by simpa using hs
    have hc' := hc.set hs hrdy
    have hnU : ∀ k ∈ U, ¬ Dn listed k.i := fun k hk hd => by
      obtain ⟨ok, hok, _⟩ := a2.op k hk
      exact ((a2.done k.i (Array.getElem?_eq_some_iff.1 hok).1).1 hd).2 k hk rfl
    rw [wpOps_cons]
    unfold wpOp
    rw [ho]
    simp only []
    by_cases hseen : i ∈ seen
    · have hex : ∃ k ∈ U, k.i = i := by
        apply Classical.byContradiction
        intro hno
        exact hnd ((a2.done i hi).2 ⟨hseen, fun k hk e => hno ⟨k, hk, e⟩⟩)
      obtain ⟨k, hk, rfl⟩ := hex
      obtain ⟨o', ho', g1, g2⟩ := a2.op k hk
      rw [ho] at ho'; simp only [Option.some.injEq] at ho'; subst ho'
      have hA : ∀ t ∈ o.looksAt ops, ∀ v, k.e.get t = some v → a.tmps.getD t undef = v := by
        intro t ht v hv'
        rcases a2.at_ k hk o ho t ht v hv' with ⟨s, hsU, _, _, _, hah⟩ | h
        · exact absurd (hc.ahead hm _ _ o ho hr hah) (hnU s hsU)
        · exact h
      have hI := a2.exec hm hdst hs hc hk ho hr
      have hfl : l.filter hv = heavies pl' := by
        rw [← h7, List.filter_cons_of_neg (by simp [a5 k hk])]
      have fin : wpOps P ops Q l (a.put o.dst k.v) w := ihl _ _ _ pl' env pd _ seen act [] last hs' hc' hval hI a3 a4 (fun k' hk' => a5 k' (List.mem_filter.1 hk').1) a6 a7 hfl
      cases hb : k.b with
      | true =>
        obtain ⟨g3, g4⟩ := g1 hb
        rw [agree_want g3 hA]
        simp only [if_true]
        refine .inl ?_
        obtain ⟨ρ, hρ, he⟩ := agree_exec (hsel _ o ho) hA
        have g5 : RanE P k.e o w k.v := by rcases g4 with g4 | g4; simp at g4; exact g4
        unfold Oper.wp
        rw [he, g5 ρ hρ]
        exact fin
      | false =>
        obtain ⟨g3, g4⟩ := g2 hb
        rw [agree_want g3 hA]
        simp only [Bool.false_eq_true, if_false]
        rw [← g4]; exact fin
    · have hix : i ∈ ixs pl' := (cover pl' seen act [] last a4 i hi).resolve_left hseen
      cases pl' with
      | nil => simp [ixs] at hix
      | cons x r =>
        cases x <;> simp only [norm] at a1
        rename_i h
        have hHi : hv i = true := by
          rcases ixs_split _ _ hix with hx | hx
          · exfalso
            have hx' : .lp i ∈ r ∨ .li i ∈ r := by
              rcases hx with hx | hx <;> rcases List.mem_cons.1 hx with h1 | h1
              · cases h1
              · exact .inl h1
              · cases h1
              · exact .inr h1
            have hp := a4
            simp only [planOk, Bool.and_eq_true] at hp
            obtain ⟨h', h1, h2⟩ := light_after r _ _ _ h hp.2 i hx'
            have hmem : h' ∈ heavies (.hv h :: r) := by
              simp only [heavies]
              rcases h1 with h1 | h1
              · rw [h1]; exact List.mem_cons_self ..
              · exact List.mem_cons_of_mem _ h1
            have hd := hc.ahead hm _ _ o ho hr h2
            have hlt : h' < ops.size := Nat.lt_trans (ahead_lt hm ho h2) hi
            exact heavies_new _ _ _ _ _ a4 h' hmem ((a2.done h' hlt).1 hd).1
          · exact a7 _ hx i rfl
        have hih : i = h := by
          rw [List.filter_cons_of_pos hHi] at h7
          simp only [heavies] at h7
          injection h7
        subst hih
        have hp := a4
        simp only [planOk, Bool.and_eq_true, List.all_eq_true] at hp
        obtain ⟨⟨⟨_, _⟩, hf⟩, hp⟩ := hp
        obtain ⟨o', ho', g⟩ := a3
        rw [ho] at ho'; simp only [Option.some.injEq] at ho'; subst ho'
        have hA : ∀ t ∈ o.looksAt ops, ∀ v, env.get t = some v → a.tmps.getD t undef = v := by
          intro t ht v hv'
          rcases a2.env_ t v hv' with ⟨s, hsU, os, hos, hds, _⟩ | h
          · rcases (flow_spec hos ho (hf _ (a2.useen s hsU))).2.2.1 with hap | hap
            · exact absurd ht ((apart_look hap).1 t hds)
            · exact absurd (hc.ahead hm _ _ o ho hr hap) (hnU s hsU)
          · exact h
        have hfl : l.filter hv = heavies r := by
          rw [List.filter_cons_of_pos hHi] at h7
          simp only [heavies] at h7
          injection h7
        have a6' : ∀ x ∈ r, ∀ j, x = .lp j ∨ x = .li j → hv j = false := fun x hx => a6 x (List.mem_cons_of_mem _ hx)
        have a7' : ∀ x ∈ r, ∀ j, x = .hv j → hv j = true := fun x hx => a7 x (List.mem_cons_of_mem _ hx)
        rcases g with ⟨g1, g2⟩ | ⟨g1, g2⟩
        · rw [agree_want g1 hA]
          simp only [if_true]
          refine .inl ?_
          obtain ⟨ρ, hρ, he⟩ := agree_exec (hsel _ o ho) hA
          refine OpRan.wp (R := fun v u' => Chk P ops r (env.put o.dst v) pd u' Qf) (by rw [he]; exact g2 ρ hρ) ?_
          intro v u' hch
          exact ihl _ _ _ r _ pd U _ _ _ _ hs' hc' hval (a2.heavy hm hdst hs hc ho hr hf) hch hp a5 a6' a7' hfl
        · rw [agree_want g1 hA]
          simp only [Bool.false_eq_true, if_false]
          exact ihl _ _ _ r _ pd U _ _ _ _ hs' hc' hval (a2.heavy hm hdst hs hc ho hr hf) g2 hp a5 a6' a7' hfl
/-! ### 4. The rules for a region that draws -/
/-- in which orders those that change memory may come -/
def linx (ms : List Nat) : Nat → List Nat → List (List Nat)
  | 0, _ => [[]]
  | k + 1, rem => bif rem.isEmpty then [[]] else (rem.filter fun h => rem.all fun h' => !ahead ms h' h).flatMap fun h => (linx ms k (rem.filter fun x => !Nat.beq x h)).map (h :: ·)
theorem linx_spec (hm : masksOk ops ms = true) (hv : Nat → Bool) : ∀ (l : List Nat) (listed : Array Bool) (k : Nat) (rem : List Nat), listed.size = ops.size → Closed ops listed → Valid ops listed l → rem.length ≤ k →
    (∀ h, h ∈ rem ↔ h < ops.size ∧ hv h = true ∧ ¬ Dn listed h) → l.filter hv ∈ linx ms k rem := by
  intro l
  induction l with
  | nil =>
    intro listed k rem hs hc hval hk hr
    have : rem = [] := by
      cases rem with
      | nil => rfl
      | cons x r =>
        obtain ⟨h1, _, h3⟩ := (hr x).1 (List.mem_cons_self ..)
        exact absurd (hval x h1) h3
    subst this
    cases k <;> simp [linx]
  | cons i l ih =>
    intro listed k rem hs hc hval hk hr
    obtain ⟨hrdy, hval⟩ := hval
    obtain ⟨hi, hnd, o, ho, he⟩ := (mem_rdy hs).1 hrdy
    have hlt : i < listed.size := by omega
    have hs' : (listed.setIfInBounds i true).size = ops.size := by simpa using hs
    have hc' := hc.set hs hrdy
    cases hh : hv i with
    | false =>
      rw [List.filter_cons_of_neg (by simp [hh])]
      refine ih _ k rem hs' hc' hval hk (fun h => ?_)
      rw [hr h, Dn_set hlt]
      constructor
      · rintro ⟨h1, h2, h3⟩
        refine ⟨h1, h2, ?_⟩
        rintro (e | h4)
        · subst e; rw [hh] at h2; cases h2
        · exact h3 h4
      · rintro ⟨h1, h2, h3⟩; exact ⟨h1, h2, fun h4 => h3 (.inr h4)⟩
    | true =>
      rw [List.filter_cons_of_pos hh]
      have him : i ∈ rem := (hr i).2 ⟨hi, hh, hnd⟩
      have hlen : (rem.filter fun x => !Nat.beq x i).length < rem.length := by
        rw [List.length_filter_lt_length_iff_exists]
        exact ⟨i, him, by simp⟩
      cases k with
      | zero => simp only [Nat.le_zero, List.length_eq_zero_iff] at hk; subst hk; simp at him
      | succ k =>
        have hne : rem.isEmpty = false := by cases rem <;> simp at him ⊢
        simp only [linx, hne, cond_false, List.mem_flatMap]
        refine ⟨i, List.mem_filter.2 ⟨him, ?_⟩, List.mem_map.2 ⟨_, ih _ k _ hs' hc' hval (by omega) (fun h => ?_), rfl⟩⟩
        · rw [List.all_eq_true]
          intro h' hh'
          cases hb : ahead ms h' i with
          | false => rfl
          | true => exact absurd (hc.ahead hm _ _ o ho he hb) ((hr h').1 hh').2.2
        · rw [List.mem_filter, hr h, Dn_set hlt]
          constructor
          · rintro ⟨⟨h1, h2, h3⟩, h4⟩
            refine ⟨h1, h2, ?_⟩
            rintro (e | h5)
            · subst e; simp at h4
            · exact h3 h5
          · rintro ⟨h1, h2, h3⟩
            refine ⟨⟨h1, h2, fun h4 => h3 (.inr h4)⟩, ?_⟩
            cases hb : Nat.beq h i with
            | false => rfl
            | true => exact absurd (.inl (Nat.eq_of_beq_eq_true hb)) h3
def hvOf (pl : List Stp) (i : Nat) : Bool := (heavies pl).any fun h => Nat.beq h i
def eqL : List Nat → List Nat → Bool
  | [], [] => true
  | x :: a, y :: b => Nat.beq x y && eqL a b
  | _, _ => false
theorem eqL_eq : ∀ {a b : List Nat}, eqL a b = true → a = b
  | [], [], _ => rfl
  | x :: a, y :: b, h => by
    simp only [eqL, Bool.and_eq_true] at h
    rw [Nat.eq_of_beq_eq_true h.1, eqL_eq h.2]
  | [], _ :: _, h => by simp [eqL] at h
  | _ :: _, [], h => by simp [eqL] at h
def opsOk (n : Nat) (l : List Oper) : Bool := l.all fun o => !sel o.op && inB n o.dst
/-- a plan among all -/
def onePlan (ops : Array Oper) (ms : List Nat) (hv : Nat → Bool) (pl : List Stp) : Bool :=
  planOk ops ms pl [] [] [] none && pl.all fun s => match s with | .lp j => !hv j | .li j => !hv j | .hv j => hv j | .re _ => true
def drawOk (n : Nat) (l : List Oper) (ms : List Nat) (pl : List Stp) : Bool :=
  masksOk l.toArray ms && opsOk n l && onePlan l.toArray ms (hvOf pl) pl && (linx ms l.length ((List.range l.length).filter (hvOf pl))).all fun p => eqL p (heavies pl)
def drawOk2 (n : Nat) (l : List Oper) (ms : List Nat) (pl pl' : List Stp) : Bool :=
  masksOk l.toArray ms && opsOk n l && onePlan l.toArray ms (hvOf pl) pl && onePlan l.toArray ms (hvOf pl) pl' && (linx ms l.length ((List.range l.length).filter (hvOf pl))).all fun p => eqL p (heavies pl) || eqL p (heavies pl')
theorem opsOk_spec {l : List Oper} (h : opsOk n l = true) : (∀ (i : Nat) (o : Oper), l.toArray[i]? = some o → sel o.op = false) ∧ (∀ (i : Nat) (o : Oper), l.toArray[i]? = some o → inB n o.dst = true) := by
  unfold opsOk at h
  rw [List.all_eq_true] at h
  constructor <;> intro i o ho <;>
    · have : o ∈ l := by simp at ho; exact List.mem_of_getElem? ho
      have := h o this
      simp only [Bool.and_eq_true, Bool.not_eq_true'] at this
      first | exact this.1 | exact this.2
theorem draw_orders {l : List Oper} (hm : masksOk l.toArray ms = true) (hv : Nat → Bool) (t : Nat) : (Region.linearise .any l.toArray t).filter hv ∈ linx ms l.length ((List.range l.length).filter hv) := by
  refine linx_spec hm hv _ (Array.replicate l.toArray.size false) _ _ (by simp) ?_ (valid_schedule hm t) ?_ ?_
  · intro j o hj hd
    unfold Dn at hd
    simp [Array.getElem?_replicate] at hd
    exfalso
    split at hd <;> simp at hd
  · exact Nat.le_trans (List.length_filter_le ..) (by simp)
  · intro h
    unfold Dn
    simp only [List.mem_filter, List.mem_range, List.size_toArray]
    constructor
    · rintro ⟨h1, h2⟩
      refine ⟨h1, h2, ?_⟩
      simp [Array.getElem?_replicate, h1]
    · rintro ⟨h1, h2, _⟩; exact ⟨h1, h2⟩
theorem run_plan {l : List Oper} {pl : List Stp} {env : Env} {a : Act} {w : World} {hv : Nat → Bool} {Q : Exit → Act → World → Prop} {Qf : Env → World → Prop} (hm : masksOk l.toArray ms = true) (hops : opsOk n l = true) (hpl : onePlan l.toArray ms hv pl = true) (hQ : ∀ env u, Qf env u → ∀ a, Sim n env a → Q .normal a u) (hs : Sim n env a) (hch : Chk P l.toArray pl env [] w Qf) (t : Nat)
    (hord : (Region.linearise .any l.toArray t).filter hv = heavies pl) : wpOps P l.toArray Q (Region.linearise .any l.toArray t) a w := by
  obtain ⟨o1, o2⟩ := opsOk_spec hops
  simp only [onePlan, Bool.and_eq_true, List.all_eq_true] at hpl
  refine any_order hm o1 o2 hv hQ _ (Array.replicate l.toArray.size false) a w pl env [] [] [] [] [] none (by simp) ?_ (valid_schedule hm t) ?_ hch hpl.1 (by simp) ?_ ?_ hord
  · intro j o hj hd
    unfold Dn at hd
    simp [Array.getElem?_replicate] at hd
    exfalso
    split at hd <;> simp at hd
  · refine ⟨hs.size, hs.defers, ?_, by simp, by simp, by simp, by simp, by simp, by simp, fun t v hg => .inr (hs.get t v hg), by simp, by simp⟩
    intro i hi
    unfold Dn
    simp [Array.getElem?_replicate]
    split <;> simp
  · rintro i hi j (rfl | rfl)
    · simpa using hpl.2 _ hi
    · simpa using hpl.2 _ hi
  · rintro i hi j rfl
    simpa using hpl.2 _ hi
theorem RefC.draw {ρ : Type} {env : Env} {m : G ρ} {K : Post ρ} {id : Nat} {l : List Oper} (hmix : P.follows .mixedOrders = true) (ms : List Nat) (pl : List Stp) (hok : drawOk n l ms pl = true) (h : RefD P n l.toArray pl env [] m K) : RefC P n (.region id l.toArray true) env (Lg.drw m) K := fun w Q hm a hs => by
  simp only [drawOk, Bool.and_eq_true, List.all_eq_true] at hok
  obtain ⟨⟨⟨g1, g2⟩, g3⟩, g4⟩ := hok
  refine wp_region_draw fun t => ?_
  simp only [Region.schedule, hmix, Bool.true_or, if_true]
  refine run_plan (env := env) g1 g2 g3 (fun env u hq => hq) hs (h w.drew Q hm (fun e he => by simp at he)) t ?_
  exact eqL_eq (g4 _ (draw_orders g1 _ t))
theorem RefC.draw2 {ρ : Type} {env : Env} {m m' : G ρ} {K : Post ρ} {id : Nat} {l : List Oper} (hmix : P.follows .mixedOrders = true) (ms : List Nat) (pl pl' : List Stp) (hok : drawOk2 n l ms pl pl' = true) (h : RefD P n l.toArray pl env [] m K) (h' : RefD P n l.toArray pl' env [] m' K) : RefC P n (.region id l.toArray true) env (Lg.drw2 m m') K := fun w Q hm a hs => by
  simp only [drawOk2, Bool.and_eq_true, Bool.or_eq_true, List.all_eq_true] at hok
  obtain ⟨⟨⟨⟨g1, g2⟩, g3⟩, g3'⟩, g4⟩ := hok
  refine wp_region_draw fun t => ?_
  simp only [Region.schedule, hmix, Bool.true_or, if_true]
  rcases g4 _ (draw_orders g1 _ t) with e | e
  · exact run_plan (env := env) g1 g2 g3 (fun env u hq => hq) hs (h w.drew Q hm.1 (fun e he => by simp at he)) t (eqL_eq e)
  · exact run_plan (env := env) g1 g2 g3' (fun env u hq => hq) hs (h' w.drew Q hm.2 (fun e he => by simp at he)) t (eqL_eq e)
end
/-! #### more rules inside a region that draws -/
section
variable {P : Program} {n : Nat} {ρ : Type} {ops : Array Oper} {env : Env} {m : G ρ} {K : Post ρ} {pl : List Stp} {pd : PendF}
def EqE (e e' : Env) : Prop := ∀ t, e.get t = e'.get t
theorem EqE.ev {e e' : Env} (h : EqE e e') (x : Operand) : e.ev x = e'.ev x := by cases x <;> simp [Env.ev, h _]
theorem EqE.want {e e' : Env} (h : EqE e e') (g : Option (Nat × Bool)) : Want ops e g = Want ops e' g := by
  unfold Want
  cases g with
  | none => rfl
  | some p => simp only [h _]
theorem EqE.agrees {e e' : Env} (h : EqE e e') {ρ : Operand → Value} (hρ : Agrees e' ρ) : Agrees e ρ := fun x v hx => hρ x v (by rw [← h.ev]; exact hx)
theorem EqE.put {e e' : Env} (h : EqE e e') (d : Option Tmp) (v : Value) : EqE (e.put d v) (e'.put d v) := fun t => by rw [get_put, get_put, h t]
theorem EqE.ranE {e e' : Env} (h : EqE e e') {o : Oper} {u : World} {v : Value} (hr : RanE P e o u v) : RanE P e' o u v := fun ρ hρ => hr ρ (h.agrees hρ)
theorem Chk.congr : ∀ (pl : List Stp) {env env' : Env} {pd pd' : Pend} {u : World} {Q Q' : Env → World → Prop}, EqE env env' → (∀ x' ∈ pd', ∃ x ∈ pd, x.1 = x'.1 ∧ EqE x.2.1 x'.2.1 ∧ x.2.2 = x'.2.2) → (∀ e e' u, EqE e e' → Q e u → Q' e' u) → Chk P ops pl env pd u Q → Chk P ops pl env' pd' u Q' := by
  intro pl
  induction pl with
  | nil => intro env env' pd pd' u Q Q' h1 h2 h3 h; exact h3 _ _ _ h1 h
  | cons x r ih =>
    intro env env' pd pd' u Q Q' h1 h2 h3 h
    cases x with
    | lp i =>
      obtain ⟨o, ho, h⟩ := h
      refine ⟨o, ho, ?_⟩
      rcases h with ⟨h4, v, h5, h6⟩ | ⟨h4, h6⟩
      · exact .inl ⟨by rw [← h1.want]; exact h4, v, fun u => h1.ranE (h5 u), ih (h1.put _ _) h2 h3 h6⟩
      · exact .inr ⟨by rw [← h1.want]; exact h4, ih (h1.put _ _) h2 h3 h6⟩
    | li i =>
      obtain ⟨o, ho, h⟩ := h
      refine ⟨o, ho, ?_⟩
      rcases h with ⟨h4, v, h5, h6⟩ | ⟨h4, h6⟩
      · refine .inl ⟨by rw [← h1.want]; exact h4, v, h1.ranE h5, ih (h1.put _ _) ?_ h3 h6⟩
        intro x' hx'
        rcases List.mem_cons.1 hx' with rfl | hx'
        · exact ⟨_, List.mem_cons_self .., rfl, h1, rfl⟩
        · obtain ⟨x, hx, g⟩ := h2 x' hx'
          exact ⟨x, List.mem_cons_of_mem _ hx, g⟩
      · exact .inr ⟨by rw [← h1.want]; exact h4, ih (h1.put _ _) h2 h3 h6⟩
    | re i =>
      obtain ⟨h4, h5⟩ := h
      refine ⟨?_, ih h1 h2 h3 h5⟩
      intro x' hx' hi o ho
      obtain ⟨x, hx, g1, g2, g3⟩ := h2 x' hx'
      have := g2.ranE (h4 x hx (g1.trans hi) o ho)
      rw [g3] at this; exact this
    | hv i =>
      obtain ⟨o, ho, h⟩ := h
      refine ⟨o, ho, ?_⟩
      rcases h with ⟨h4, h5⟩ | ⟨h4, h6⟩
      · exact .inl ⟨by rw [← h1.want]; exact h4, fun ρ hρ => (h5 ρ (h1.agrees hρ)).imp fun v w hc => ih (h1.put _ _) h2 h3 hc⟩
      · exact .inr ⟨by rw [← h1.want]; exact h4, ih (h1.put _ _) h2 h3 h6⟩
theorem EqE.sim {e e' : Env} (h : EqE e e') {a : Act} (hs : Sim n e' a) : Sim n e a := ⟨hs.size, hs.defers, fun t v hg => hs.get t v (by rw [← h t]; exact hg)⟩
theorem RefD.eqE {env' : Env} (h : EqE env' env) (hr : RefD P n ops pl env' pd m K) : RefD P n ops pl env pd m K := fun w Q hm hp =>
  Chk.congr pl h (fun x hx => ⟨x, hx, rfl, fun _ => rfl, rfl⟩) (fun e e' u he hq a hs => hq a (he.sim hs)) (hr w Q hm hp)
theorem EqE.named {s : Nat} {v : Value} (h : env.get s = some v) : EqE ((s, v) :: env) env := fun t => by
  simp only [Env.get]
  cases hb : Nat.beq s t with
  | true => have e := Nat.eq_of_beq_eq_true hb; subst e; simp [h]
  | false => rfl
theorem RefD.ite {s : Nat} {b : Bool} {m1 m2 : G ρ} (hb : env.get s = some (.bool b)) (h1 : RefD P n ops pl ((s, .bool true) :: env) pd m1 K) (h2 : RefD P n ops pl ((s, .bool false) :: env) pd m2 K) : RefD P n ops pl env pd (if b = true then m1 else m2) K := by
  cases b with
  | true => simpa using RefD.eqE (EqE.named hb) h1
  | false => simpa using RefD.eqE (EqE.named hb) h2
theorem RefD.lt {α : Type} {v : α} {f : α → G ρ} (s : Nat) (enc : α → Value) (hg : env.get s = some (enc v)) (h : ∀ y, RefD P n ops pl ((s, enc y) :: env) pd (f y) K) : RefD P n ops pl env pd (Lg.lt v f) K := RefD.eqE (EqE.named hg) (h v)
theorem RefD.chk {c : Prop} {f : G ρ} (h : c → RefD P n ops pl env pd f K) : RefD P n ops pl env pd (Lg.chk c f) K := fun w Q hm hp => h hm.1 w Q hm.2 hp
end
end Go.Lg
