/-
  Each operation of the evaluator tells what the machine's operation does: the whole of it.
-/
import Derived.Test.YtgjfedaoffgiaaaGreatDoorE15
namespace Go.Eng
def notNum : Value → Value → Bool
  | .int _ _, .int _ _ => false
  | .string _, .string _ => false
  | .float _ _, .float _ _ => false
  | .complex _ _ _, .complex _ _ _ => false
  | _, _ => true
theorem binOp_eql (t : TypeId) {x y : Value} (h : notNum x y = true) : binOp .eql t x y = (do pure (.bool (← Op.equal t x y))) := by
  cases x <;> cases y <;> first | rfl | (simp [notNum] at h)
theorem binOp_neq (t : TypeId) {x y : Value} (h : notNum x y = true) : binOp .neq t x y = (do pure (.bool (!(← Op.equal t x y)))) := by
  cases x <;> cases y <;> first | rfl | (simp [notNum] at h)
section
variable {P : Program} {C : Cfg} {φ : Phi} {s s' : ASt} {w : World} {N : Nat} {T : Tm} {a : Act}

theorem VR.notNum {x y x' y' : Value} (hx : VR φ x x') (hy : VR φ y y') : Go.Eng.notNum x' y' = Go.Eng.notNum x y := by
  cases hx <;> cases hy <;> rfl
theorem aEq_not {t : Nat} {r : Bool} {k1 k2 : FloatKind} {n1 n2 : Nat} (h : aEq C t (.float k1 n1) (.float k2 n2) s = some (r, s')) : False := by
  unfold aEq at h
  obtain ⟨h1, _⟩ := lift_ok h
  cases hd : C.depth with
  | zero => rw [hd] at h1; simp [eqA] at h1
  | succ d =>
    rw [hd] at h1
    unfold eqA at h1
    cases hi : C.ti t with
    | none => rw [hi] at h1; cases h1
    | some ti => rw [hi] at h1; simp only at h1; cases hU : ti.u <;> rw [hU] at h1 <;> cases h1
theorem aEq_not2 {t : Nat} {r : Bool} {k1 k2 : FloatKind} {a1 a2 b1 b2 : Nat} (h : aEq C t (.complex k1 a1 b1) (.complex k2 a2 b2) s = some (r, s')) : False := by
  unfold aEq at h
  obtain ⟨h1, _⟩ := lift_ok h
  cases hd : C.depth with
  | zero => rw [hd] at h1; simp [eqA] at h1
  | succ d =>
    rw [hd] at h1
    unfold eqA at h1
    cases hi : C.ti t with
    | none => rw [hi] at h1; cases h1
    | some ti => rw [hi] at h1; simp only at h1; cases hU : ti.u <;> rw [hU] at h1 <;> cases h1
theorem agg_guard (K : CfgOK P C) {t : Nat} {r : Bool} {c e : Array Value} (h : aEq C t (.agg c) (.agg e) s = some (r, s')) : P.eqGuardType P.depth t = false := by
  unfold aEq at h
  obtain ⟨h1, _⟩ := lift_ok h
  cases hd : C.depth with
  | zero => rw [hd] at h1; simp [eqA] at h1
  | succ d =>
    rw [hd] at h1
    unfold eqA at h1
    cases hi : C.ti t with
    | none => rw [hi] at h1; cases h1
    | some ti =>
      rw [hi] at h1
      simp only at h1
      cases hU : ti.u <;> rw [hU] at h1 <;> try (cases h1; done)
      simp only at h1
      cases hq : ti.eqok with
      | false => rw [hq] at h1; cases h1
      | true => exact ((K.ti _ _ hi).eq hq).2
/-- '==' and '!=' of what are no numbers and no strings. -/
theorem eq_ok (K : CfgOK P C) (R : Rel φ s.heap w) {t : Nat} {X Y : Operand} {x y x' y' : Value} {r : Bool} (hx : VR φ x x') (hy : VR φ y y') (hn : notNum x y = true)
    (hc : x = .nilIface → y = .nilIface → (isC X || isC Y) = true) (h : aEq C t x y s = some (r, s')) :
    s'.heap = s.heap ∧ (do eqGuard .eql t X Y x' y'; binOp .eql t x' y' : Sem Value).run P w = .ok (.bool r) w ∧ (do eqGuard .neq t X Y x' y'; binOp .neq t x' y' : Sem Value).run P w = .ok (.bool !r) w := by
  obtain ⟨e, hr⟩ := aEq_ok K R hx hy h
  have hn' : notNum x' y' = true := by rw [hx.notNum hy]; exact hn
  have hg : ∀ op : BinOp, (op = .eql ∨ op = .neq) → (eqGuard op t X Y x' y').run P w = .ok () w := by
    intro op hop
    by_cases h1 : x' = .nilIface ∧ y' = .nilIface
    · obtain ⟨rfl, rfl⟩ := h1
      have hx0 : x = .nilIface := by cases hx; rfl
      have hy0 : y = .nilIface := by cases hy; rfl
      have := hc hx0 hy0
      rcases hop with rfl | rfl <;> (cases X <;> cases Y <;> simp [isC] at this <;> simp [eqGuard])
    · by_cases h2 : ∃ c e, x' = .agg c ∧ y' = .agg e
      · obtain ⟨c, e, rfl, rfl⟩ := h2
        have hq : P.eqGuardType P.depth t = false := by
          cases hx; cases hy
          exact agg_guard K h
        exact run_eqGuard_agg w op t X Y c e hq
      · have : eqGuard op t X Y x' y' = pure () := by
          rcases hop with rfl | rfl <;> (unfold eqGuard; simp only [Bool.not_true, Bool.false_eq_true, if_false]; split <;> first | rfl | (exact absurd ⟨rfl, rfl⟩ h1) | (exact absurd ⟨_, _, rfl, rfl⟩ h2))
        rw [this]; rfl
  refine ⟨e, ?_, ?_⟩
  · rw [Sem.run_bind, hg _ (.inl rfl), Result.andThen_ok, binOp_eql t hn']
    simp [hr]
  · rw [Sem.run_bind, hg _ (.inr rfl), Result.andThen_ok, binOp_neq t hn']
    simp [hr]

theorem aBin_ok (K : CfgOK P C) (R : Rel φ s.heap w) {op : BinOp} {t : Nat} {X Y : Operand} {x y x' y' : Value} {r : Go.Eng.R} (hx : VR φ x x') (hy : VR φ y y') (h : aBin C op t (isC X || isC Y) x y s = some (r, s')) :
    ∃ v, r = .val v ∧ ValOK P φ s.heap w v s'.heap (do eqGuard op t X Y x' y'; binOp op t x' y') := by
  have eqs : notNum x y = true → (x = .nilIface → y = .nilIface → (isC X || isC Y) = true) →
      aEqOp C op t x y s = some (r, s') → ∃ v, r = .val v ∧ ValOK P φ s.heap w v s'.heap (do eqGuard op t X Y x' y'; binOp op t x' y') := by
    intro hn hc h
    unfold aEqOp at h
    cases op <;> try exact (fail_ok h).elim
    · obtain ⟨b, s1, h1, h2⟩ := bind_ok h
      obtain ⟨e, q, _⟩ := eq_ok K R hx hy hn hc h1
      obtain ⟨rfl, rfl⟩ := val_ok h2
      refine ⟨_, rfl, ?_⟩
      rw [e]
      exact .here R q (.bool _)
    · obtain ⟨b, s1, h1, h2⟩ := bind_ok h
      obtain ⟨e, _, q⟩ := eq_ok K R hx hy hn hc h1
      obtain ⟨rfl, rfl⟩ := val_ok h2
      refine ⟨_, rfl, ?_⟩
      rw [e]
      exact .here R q (.bool _)
  have floats : notNum x y = false → (∀ k n k2 n2, x = .int k n → y = .int k2 n2 → False) → (∀ a b, x = .string a → y = .string b → False) →
      aEqOp C op t x y s = some (r, s') → False := by
    intro hn h1 h2 h
    unfold aEqOp at h
    have hh : ∃ b s1, aEq C t x y s = some (b, s1) := by
      cases op <;> try exact (fail_ok h).elim
      · obtain ⟨b, s1, h1, _⟩ := bind_ok h; exact ⟨b, s1, h1⟩
      · obtain ⟨b, s1, h1, _⟩ := bind_ok h; exact ⟨b, s1, h1⟩
    obtain ⟨b, s1, hh⟩ := hh
    cases x <;> cases y <;> first | (simp [notNum] at hn; done) | exact aEq_not hh | exact aEq_not2 hh | exact h1 _ _ _ _ rfl rfl | exact h2 _ _ rfl rfl
  have guard : ∀ x y : Value, (∀ c, x = .agg c → False) → (x = .nilIface → False) → eqGuard op t X Y x y = pure () := by
    intro x y h1 h2
    unfold eqGuard
    cases op <;> (simp only [Bool.not_true, Bool.not_false, Bool.false_eq_true, if_false, if_true]; try rfl) <;> (split <;> first | rfl | (exact (h2 rfl).elim) | (exact (h1 _ rfl).elim))
  cases hx <;> cases hy
  all_goals first
    | (refine eqs rfl ?_ h; intro h1 h2; first | (cases h1; done) | (cases h2; done))
    | (refine (floats rfl ?_ ?_ h).elim <;> intros <;> first | (rename_i q _; cases q; done) | (rename_i q; cases q; done))
    | skip
  · obtain ⟨v, hv, rfl, rfl⟩ := valO_ok h
    obtain ⟨q1, q2⟩ := pureOf_ok hv w
    refine ⟨_, rfl, .here R (v' := v) ?_ (VR.okc q2)⟩
    rw [guard _ _ (fun _ h => by cases h) (fun h => by cases h)]
    simpa using q1
  · obtain ⟨v, hv, rfl, rfl⟩ := valO_ok h
    obtain ⟨q1, q2⟩ := pureOf_ok hv w
    refine ⟨_, rfl, .here R (v' := v) ?_ (VR.okc q2)⟩
    rw [guard _ _ (fun _ h => by cases h) (fun h => by cases h)]
    simpa using q1
  · unfold aBin at h
    cases hc : (isC X || isC Y) with
    | false => rw [hc] at h; simp only [cond_false] at h; exact (fail_ok h).elim
    | true =>
      rw [hc] at h
      simp only [cond_true] at h
      exact eqs rfl (fun _ _ => hc) h
end
end Go.Eng
