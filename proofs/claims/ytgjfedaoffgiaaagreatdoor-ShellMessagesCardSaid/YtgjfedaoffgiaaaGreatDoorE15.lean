/-
  Each operation of the evaluator tells what the machine's operation does: the whole of it.
-/
import Derived.Test.YtgjfedaoffgiaaaGreatDoorE14
namespace Go.Eng
structure TR (φ : Phi) (N : Nat) (T : Tm) (a : Act) : Prop where
  size : a.tmps.size = N
  val : ∀ t, VR φ (gett T t) (a.tmps.getD t undef)
  pin : Pinned φ
def ResR (φ' : Phi) (r : R) (res : Result Next) (w' : World) : Prop := match r with
  | .val v => ∃ v', res = .ok (.value v') w' ∧ VR φ' v v'
  | .unit => res = .ok .skip w'
  | .call f args => ∃ args' : Array Value, res = .ok (.enter f args') w' ∧ VRs φ' args args'.toList
  | .pan v => ∃ v', res = .halt (.panic v') w' ∧ VR φ' v v'
def OpOK (P : Program) (φ : Phi) (H : Tr AObj) (w : World) (r : R) (H' : Tr AObj) (m : Sem Next) : Prop :=
  ∃ φ' w', Step φ H w φ' H' w' ∧ ResR φ' r (m.run P w) w'
section
variable {P : Program} {C : Cfg} {φ : Phi} {s s' : ASt} {w : World} {N : Nat} {T : Tm} {a : Act}

theorem OpOK.of_val {H H' : Tr AObj} {r : R} {m : Sem Value} (h : ∃ v, r = .val v ∧ ValOK P φ H w v H' m) : OpOK P φ H w r H' (do pure (.value (← m))) := by
  obtain ⟨v, rfl, φ', w', v', st, hr, hv⟩ := h
  exact ⟨φ', w', st, v', by simp [hr], hv⟩
theorem OpOK.of_unit {H H' : Tr AObj} {r : R} {m : Sem Unit} (h : r = .unit ∧ UnitOK P φ H w H' m) : OpOK P φ H w r H' (do m; pure .skip) := by
  obtain ⟨rfl, φ', w', st, hr⟩ := h
  refine ⟨φ', w', st, ?_⟩
  simp only [ResR, Sem.run_bind, hr, Result.andThen_ok]
  rfl
theorem ev_ok (h : TR φ N T a) {x : Operand} {v : Value} (e : ev T x = some v) : VR φ v (a.eval x) := by
  cases x with
  | tmp t => simp [ev] at e; subst e; exact h.val t
  | const c =>
    simp only [ev] at e
    cases hc : okc c with
    | false => rw [hc] at e; cases e
    | true => rw [hc] at e; simp at e; subst e; exact VR.okc hc
  | global g =>
    simp only [ev] at e
    cases hg : Nat.blt g pinned with
    | false => rw [hg] at e; cases e
    | true =>
      rw [hg] at e; simp at e; subst e
      exact .ptr (h.pin g (by simpa using hg))
  | func f => simp [ev] at e; subst e; exact .func f .nil .nil
theorem evs_ok (h : TR φ N T a) : ∀ {xs : List Operand} {vs : List Value}, evs T xs = some vs → VRs φ vs (xs.map a.eval)
  | [], vs, e => by simp [evs] at e; subst e; exact .nil
  | x :: xs, vs, e => by
    simp only [evs] at e
    cases h1 : ev T x with
    | none => rw [h1] at e; cases e
    | some v =>
    cases h2 : evs T xs with
    | none => rw [h1, h2] at e; cases e
    | some us =>
    rw [h1, h2] at e
    simp at e; subst e
    exact .cons (ev_ok h h1) (evs_ok h h2)
theorem evps_ok (h : TR φ N T a) : ∀ {xs : List (Nat × Operand)} {vs : List (Nat × Value)}, evps T xs = some vs → PR φ vs (xs.map fun (i, x) => (i, a.eval x))
  | [], vs, e => by simp [evps] at e; subst e; exact .nil
  | (i, x) :: xs, vs, e => by
    simp only [evps] at e
    cases h1 : ev T x with
    | none => rw [h1] at e; cases e
    | some v =>
    cases h2 : evps T xs with
    | none => rw [h1, h2] at e; cases e
    | some us =>
    rw [h1, h2] at e
    simp at e; subst e
    exact .cons i (ev_ok h h1) (evps_ok h h2)
theorem evo_ok (h : TR φ N T a) {x : Option Operand} {v : Option Value} (e : evo T x = some v) : OR φ v (x.map a.eval) := by
  cases x with
  | none => simp [evo] at e; subst e; exact .none
  | some x =>
    simp only [evo] at e
    cases h1 : ev T x with
    | none => rw [h1] at e; cases e
    | some u => rw [h1] at e; simp at e; subst e; exact .some (ev_ok h h1)
theorem with1_ok {x : Operand} {f : Value → M R} {r : R} (h : TR φ N T a) (e : with1 T x f s = some (r, s')) : ∃ v, VR φ v (a.eval x) ∧ f v s = some (r, s') := by
  unfold with1 at e
  cases h1 : ev T x with
  | none => rw [h1] at e; exact (fail_ok e).elim
  | some v => rw [h1] at e; exact ⟨v, ev_ok h h1, e⟩
theorem with2_ok {x y : Operand} {f : Value → Value → M R} {r : R} (h : TR φ N T a) (e : with2 T x y f s = some (r, s')) : ∃ v u, VR φ v (a.eval x) ∧ VR φ u (a.eval y) ∧ f v u s = some (r, s') := by
  unfold with2 at e
  cases h1 : ev T x with
  | none => rw [h1] at e; exact (fail_ok e).elim
  | some v =>
    rw [h1] at e
    simp only at e
    cases h2 : ev T y with
    | none => rw [h2] at e; exact (fail_ok e).elim
    | some u => rw [h2] at e; exact ⟨v, u, ev_ok h h1, ev_ok h h2, e⟩

/-! ### comparisons -/
theorem aPtrEq_ok (K : CfgOK P C) (R : Rel φ s.heap w) {e t b o b' o' D : Nat} {l l' : Loc} {r : Bool} (ht : P.underlying t = some (.pointer e)) (hl : φ b = some l) (hl' : φ b' = some l') (h : aPtrEq C e b o b' o' s = some (r, s')) :
    s'.heap = s.heap ∧ (Op.equalIn (D + 1) t (.pointer (some ⟨l.blk, l.sh + o, none⟩)) (.pointer (some ⟨l'.blk, l'.sh + o', none⟩))).run P w = .ok r w := by
  unfold aPtrEq at h
  cases hi : C.ti e with
  | none => rw [hi] at h; exact (fail_ok h).elim
  | some et =>
  rw [hi] at h
  simp only at h
  have TE := K.ti _ _ hi
  cases hz : Nat.beq et.size 0 with
  | true => rw [hz] at h; simp only [cond_true] at h; exact (fail_ok h).elim
  | false =>
  rw [hz] at h
  simp only [cond_false] at h
  have hz' : ¬ et.size = 0 := fun q => by rw [q] at hz; cases hz
  obtain ⟨⟨vs, m⟩, s1, h1, h2⟩ := bind_ok h
  obtain ⟨g, e1⟩ := cellsAt_ok h1
  obtain ⟨⟨vs', m'⟩, s2, h3, h4⟩ := bind_ok h2
  obtain ⟨g', e2⟩ := cellsAt_ok h3
  rw [e1] at g'
  simp only at h4
  cases hm : (Nat.beq m 0 && Nat.beq m' 0) with
  | false => rw [hm] at h4; simp only [cond_false] at h4; exact (fail_ok h4).elim
  | true =>
  rw [hm] at h4
  simp only [cond_true] at h4
  obtain ⟨rfl, rfl⟩ := ret_ok h4
  rw [Bool.and_eq_true] at hm
  obtain rfl := Nat.eq_of_beq_eq_true hm.1
  obtain rfl := Nat.eq_of_beq_eq_true hm.2
  refine ⟨by rw [e2, e1], ?_⟩
  obtain ⟨A, tA, lo, hi', hA, _, c0, _⟩ := R.cells g hl
  obtain ⟨B, tB, lo', hi'', hB, _, d0, _⟩ := R.cells g' hl'
  obtain ⟨x1, x2, x3, rfl, rfl⟩ := c0 rfl
  obtain ⟨y1, y2, y3, rfl, rfl⟩ := d0 rfl
  have fA : ∀ i, w.frozen? ⟨l.blk, i, none⟩ = false := fun i => by simp [World.frozen?, hA]
  have fB : ∀ i, w.frozen? ⟨l'.blk, i, none⟩ = false := fun i => by simp [World.frozen?, hB]
  have sA : w.shape? l.blk = some (tA, A.size) := by simp [World.shape?, hA]
  have sB : w.shape? l'.blk = some (tB, B.size) := by simp [World.shape?, hB]
  by_cases hb : b = b'
  · subst hb
    rw [hl] at hl'; cases hl'
    have hq : (Nat.beq b b && Nat.beq o o') = decide (o = o') := by
      rw [show Nat.beq b b = true from Nat.beq_refl b, Bool.true_and]
      by_cases q : o = o'
      · subst q; simp
      · simp [q]
        cases z : Nat.beq o o' with
        | false => rfl
        | true => exact (q (Nat.eq_of_beq_eq_true z)).elim
    rw [hq]
    simp [Op.equalIn, run_underlying ht, run_sizeOf' TE, hz', sameAddr]
    by_cases q : o = o'
    · subst q; simp
    · simp [q]
  · have hne : ¬ l.blk = l'.blk := fun q => hb (R.inj b b' _ _ l l' g g' rfl rfl hl hl' q)
    have hq : (Nat.beq b b' && Nat.beq o o') = false := by
      cases z : Nat.beq b b' with
      | false => rfl
      | true => exact (hb (Nat.eq_of_beq_eq_true z)).elim
    rw [hq]
    have v1 : (viewAt l.blk).run P w = .ok none w := by simp [viewAt, shape, Sem.run, sA]
    have v2 : (viewAt l'.blk).run P w = .ok none w := by simp [viewAt, shape, Sem.run, sB]
    simp [Op.equalIn, run_underlying ht, run_sizeOf' TE, hz', sameAddr, hne, frozen, Sem.run, fA, fB, noView, v1, v2, mayBeOne, stringish, shape, sA, sB]

theorem aEq_ok (K : CfgOK P C) (R : Rel φ s.heap w) {t : Nat} {x y x' y' : Value} {r : Bool} (hx : VR φ x x') (hy : VR φ y y') (h : aEq C t x y s = some (r, s')) :
    s'.heap = s.heap ∧ (Op.equal t x' y').run P w = .ok r w := by
  unfold aEq at h
  have gen : M.lift (eqA C C.depth t x y) s = some (r, s') → s'.heap = s.heap ∧ (Op.equal t x' y').run P w = .ok r w := fun h => by
    obtain ⟨h1, h2⟩ := lift_ok h
    exact ⟨by rw [h2], eqA_ok K K.depth h1 hx hy⟩
  cases ha : addr x with
  | none => rw [ha] at h; exact gen h
  | some bo =>
  obtain ⟨b, o⟩ := bo
  cases hb : addr y with
  | none => rw [ha, hb] at h; exact gen h
  | some bo' =>
  obtain ⟨b', o'⟩ := bo'
  rw [ha, hb] at h
  simp only at h
  cases hi : C.ti t with
  | none => rw [hi] at h; exact (fail_ok h).elim
  | some ti =>
  rw [hi] at h
  simp only at h
  obtain ⟨d, hd, hu⟩ := (K.ti _ _ hi).und
  cases hU : ti.u <;> rw [hU] at h <;> try exact (fail_ok h).elim
  rename_i e
  rw [hU] at hu
  obtain rfl := toU_ptr hu
  obtain ⟨l, hl, rfl⟩ := hx.addr ha
  obtain ⟨l', hl', rfl⟩ := hy.addr hb
  exact aPtrEq_ok (D := 9999) K R hd hl hl' h
end
end Go.Eng
