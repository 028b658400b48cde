/-
  The tables of a seat hold what the program says.
-/
import Derived.Test.YtgjfedaoffgiaaaGreatDoorE26
namespace Go.Eng
def zlO (agg : Bool) : Value → Option (List Value)
  | .agg c => bif agg then some c.toList else none
  | v => bif agg then none else some [v]
def isAgg : U → Bool
  | .struct _ | .array _ _ => true
  | _ => false
def isStruct : U → Bool
  | .struct _ => true
  | _ => false
/-- What the program says of a type. -/
def tiOf (P : Program) (t : Nat) : Option TI := match P.info? t with
  | none => none
  | some x => match P.underlying t with
    | none => none
    | some d => match x.zero with
      | none => none
      | some z => match zlO (isAgg (toU d)) z with
        | none => none
        | some l => bif l.all okc then some ⟨toU d, x.size, x.bytes, l, isStruct (toU d) && !(P.stoodInHeld t) && !(P.eqGuardType P.depth t)⟩ else none
theorem agg_eq (t : TI) : t.agg = isAgg t.u := by
  unfold TI.agg isAgg
  cases t.u <;> rfl
theorem tiOf_ok {P : Program} {t : Nat} {i : TI} (h : tiOf P t = some i) : TIok P t i := by
  unfold tiOf at h
  cases hx : P.info? t with
  | none => rw [hx] at h; cases h
  | some x =>
  cases hd : P.underlying t with
  | none => rw [hx, hd] at h; cases h
  | some d =>
  cases hz : x.zero with
  | none => rw [hx, hd] at h; simp only at h; rw [hz] at h; cases h
  | some z =>
  rw [hx, hd] at h; simp only at h; rw [hz] at h; simp only at h
  cases hl : zlO (isAgg (toU d)) z with
  | none => rw [hl] at h; cases h
  | some l =>
  rw [hl] at h; simp only at h
  cases hk : l.all okc with
  | false => rw [hk] at h; cases h
  | true =>
  rw [hk] at h
  simp only [cond_true, Option.some.injEq] at h
  subst h
  have hzv : z = TI.zv ⟨toU d, x.size, x.bytes, l, isStruct (toU d) && !(P.stoodInHeld t) && !(P.eqGuardType P.depth t)⟩ ∧ (isAgg (toU d) = false → l = [TI.zv ⟨toU d, x.size, x.bytes, l, isStruct (toU d) && !(P.stoodInHeld t) && !(P.eqGuardType P.depth t)⟩]) := by
    unfold TI.zv
    rw [agg_eq]
    simp only
    cases hag : isAgg (toU d) with
    | true =>
      rw [hag] at hl
      cases z <;> simp [zlO] at hl
      subst hl
      simp
    | false =>
      rw [hag] at hl
      cases z <;> simp [zlO] at hl <;> (subst hl; simp)
  refine ⟨⟨x, hx, rfl, rfl, by rw [hz, ← hzv.1]⟩, fun q => ?_, ⟨d, hd, rfl⟩, hk, fun q => ?_⟩
  · rw [agg_eq] at q
    exact hzv.2 q
  · simp only [Bool.and_eq_true, Bool.not_eq_true'] at q
    exact ⟨q.1.2, q.2⟩
/-- The numbers that a trie holds. -/
def Tr.keysLt {α : Type} (n : Nat) : Tr α → Nat → Nat → Bool
  | .leaf, _, _ => true
  | .node l v r, a, b => (match v with
    | some _ => Nat.blt b n
    | none => true) && Tr.keysLt n l (2 * a) (a + b) && Tr.keysLt n r (2 * a) (2 * a + b)
theorem Tr.keys_ok {α : Type} {n : Nat} : ∀ {t : Tr α} {a b : Nat}, Tr.keysLt n t a b = true → ∀ k x, t.get k = some x → a * k + b < n
  | .leaf, a, b, _, k, x, h => by simp [Tr.get_leaf] at h
  | .node l v r, a, b, hb, k, x, h => by
    simp only [Tr.keysLt, Bool.and_eq_true] at hb
    obtain ⟨⟨h1, h2⟩, h3⟩ := hb
    cases k with
    | zero =>
      simp only [Tr.get_zero] at h
      subst h
      simp only at h1
      simpa using h1
    | succ m =>
      simp only [Tr.get_succ] at h
      cases hm : Nat.beq (m % 2) 0 with
      | true =>
        rw [hm] at h
        have := Tr.keys_ok h2 _ _ h
        have hm' : m % 2 = 0 := Nat.eq_of_beq_eq_true hm
        have e : m + 1 = 2 * (m / 2) + 1 := by omega
        have e2 : a * (m + 1) + b = 2 * a * (m / 2) + (a + b) := by
          rw [e, Nat.mul_add, Nat.mul_one, Nat.mul_comm 2 (m / 2), ← Nat.mul_assoc, Nat.mul_comm 2 a, Nat.mul_right_comm]; omega
        rw [e2]; exact this
      | false =>
        rw [hm] at h
        have := Tr.keys_ok h3 _ _ h
        have hm' : m % 2 ≠ 0 := fun q => by rw [q] at hm; cases hm
        have e : m + 1 = 2 * (m / 2) + 2 := by omega
        have e2 : a * (m + 1) + b = 2 * a * (m / 2) + (2 * a + b) := by
          rw [e, Nat.mul_add, Nat.mul_comm a 2, Nat.mul_comm 2 (m / 2), ← Nat.mul_assoc, Nat.mul_right_comm]; rw [Nat.mul_comm a 2]; omega
        rw [e2]; exact this
theorem list_at {α : Type} {n : Nat} {f g : Nat → α} (h : (List.range n).map f = (List.range n).map g) {k : Nat} (hk : k < n) : f k = g k := by
  have := congrArg (·[k]?) h
  simpa [hk] using this
def nmOK (P : Program) (m : Nat) : Bool := (List.range m).all (fun f => match P.funcs[f]? with
    | some fn => !(fn.name == "runtime.NumGoroutine")
    | none => true)
structure TabOK (P : Program) (ti : Tr TI) (fn : Tr Func) (n m : Nat) : Prop where
  tb : Tr.keysLt n ti 1 0 = true
  te : (List.range n).map (Tr.get ti) = (List.range n).map (tiOf P)
  fb : Tr.keysLt m fn 1 0 = true
  fe : (List.range m).map (Tr.get fn) = (List.range m).map (fun f => P.funcs[f]?)
  nm : nmOK P m = true
  mixed : P.follows .mixedOrders = true
theorem TabOK.cfg {P : Program} {ti : Tr TI} {fn : Tr Func} {n m : Nat} (h : TabOK P ti fn n m) {C : Cfg} (h1 : C.ti = fun t => Tr.get ti t) (h2 : C.fn = fun f => Tr.get fn f) (h3 : C.depth ≤ 10000)
    (h4 : ∀ f h, C.ext f = some h → ∀ args v, h args = some v → ∀ (φ : Phi) (args' : Array Value) (w : World), VRs φ args args'.toList → ∃ v', VR φ v v' ∧ (callFunc f args').run P w = .ok (.value v') w) : CfgOK P C where
  ti := fun t i e => by
    rw [h1] at e
    have hb := Tr.keys_ok h.tb t i e
    have := list_at h.te (k := t) (by omega)
    exact tiOf_ok (by rw [← this]; exact e)
  fn := fun f x e => by
    rw [h2] at e
    have hb := Tr.keys_ok h.fb f x e
    have hf := list_at h.fe (k := f) (by omega)
    have hx : P.funcs[f]? = some x := by rw [← hf]; exact e
    refine ⟨hx, ?_⟩
    have := List.all_eq_true.1 h.nm f (List.mem_range.2 (by omega))
    rw [hx] at this
    simpa using this
  depth := h3
  ext := h4
  mixed := h.mixed
end Go.Eng
