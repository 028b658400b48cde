/-
  Regions that draw their order: the parts.
-/
import Derived.Test.YtgjfedaoffgiaaaGreatDoorE19
import Derived.Orders
namespace Go.Eng
/-- What stands somewhere when these have written: the last one's word, or what stood there first. -/
def Cons {β : Type} (W : Nat → Prop) (val : Nat → β) (init : β) (L : Nat → Prop) (x : β) : Prop :=
  (∃ i, L i ∧ W i ∧ (∀ j, L j → W j → j ≤ i) ∧ x = val i) ∨ ((∀ i, L i → ¬ W i) ∧ x = init)
section
variable {β : Type} {W : Nat → Prop} {val : Nat → β} {init : β} {L L' : Nat → Prop} {x y : β}
theorem Cons.congr (a : Cons W val init L x) (b : Cons W val init L' y) (h : ∀ i, W i → (L i ↔ L' i)) : x = y := by
  rcases a with ⟨i, li, wi, mi, rfl⟩ | ⟨ni, rfl⟩
  · rcases b with ⟨j, lj, wj, mj, rfl⟩ | ⟨nj, rfl⟩
    · have h1 := mi j ((h j wj).2 lj) wj
      have h2 := mj i ((h i wi).1 li) wi
      rw [Nat.le_antisymm h1 h2]
    · exact absurd wi (nj i ((h i wi).1 li))
  · rcases b with ⟨j, lj, wj, mj, rfl⟩ | ⟨nj, rfl⟩
    · exact absurd wj (ni j ((h j wj).2 lj))
    · rfl
theorem Cons.skip {i : Nat} (a : Cons W val init L x) (h : ¬ W i) (hL : ∀ j, L' j ↔ L j ∨ j = i) : Cons W val init L' x := by
  rcases a with ⟨k, lk, wk, mk, rfl⟩ | ⟨nk, rfl⟩
  · refine .inl ⟨k, (hL k).2 (.inl lk), wk, fun j lj wj => ?_, rfl⟩
    rcases (hL j).1 lj with q | rfl
    · exact mk j q wj
    · exact absurd wj h
  · refine .inr ⟨fun j lj wj => ?_, rfl⟩
    rcases (hL j).1 lj with q | rfl
    · exact nk j q wj
    · exact h wj
theorem Cons.top {i : Nat} (w : W i) (h : ∀ j, L j → W j → j ≤ i) (hL : ∀ j, L' j ↔ L j ∨ j = i) : Cons W val init L' (val i) := by
  refine .inl ⟨i, (hL i).2 (.inr rfl), w, fun j lj wj => ?_, rfl⟩
  rcases (hL j).1 lj with q | rfl
  · exact h j q wj
  · exact Nat.le_refl _
theorem Cons.start (h : ∀ i, ¬ L i) : Cons W val init L init := .inr ⟨fun i l => absurd l (h i), rfl⟩
end

/-- The run in the text's order. -/
structure Lex where
  T : Nat → Tm
  H : Nat → Tr AObj
  n : Nat → Nat
  v : Nat → Value
  F : Nat → List (Nat × Bool)
def Lex.foot (X : Lex) (k : Nat) : Foot := ⟨k, X.F k, X.n k, X.n (k + 1)⟩
section
variable (C : Cfg) (call : CallF) (N : Nat) (all : List Oper)
def Lex.at (X : Lex) (k : Nat) : ASt := ⟨X.H k, X.n k, X.n k, []⟩
def Lex.step (X : Lex) (k : Nat) : Prop := ∃ o s1, all[k]? = some o ∧ runW C call all (X.T k) o (X.at k) = some (.ret (X.v k), s1) ∧ s1.log = X.F k ∧ s1.heap = X.H (k + 1) ∧ s1.next = X.n (k + 1) ∧ putT N (X.T k) o.dst (X.v k) = some (X.T (k + 1))
end
section
variable {C : Cfg} {call : CallF} {N : Nat} {all : List Oper}
theorem dOps_lex : ∀ (rest : List Oper) (i : Nat) (fs : List Foot) (T : Tm) (s : ASt) {fs' : List Foot} {T' : Tm} {s' : ASt}, rest = all.drop i → dOps C call N all i rest fs T s = some ((fs', T'), s') →
    ∃ X : Lex, X.T i = T ∧ X.H i = s.heap ∧ X.n i = s.next ∧ X.T (i + rest.length) = T' ∧ X.H (i + rest.length) = s'.heap ∧ (∀ k, i ≤ k → k < i + rest.length → X.step C call N all k) ∧
      (allFree all fs' = true → allFree all fs = true ∧ (∀ x ∈ fs, ∀ k, i ≤ k → k < i + rest.length → free all x (X.foot k) = true) ∧ ∀ j k, i ≤ j → j < k → k < i + rest.length → free all (X.foot j) (X.foot k) = true)
  | [], i, fs, T, s, fs', T', s', hr, h => by
    obtain ⟨e, rfl⟩ := ret_ok h
    simp only [Prod.mk.injEq] at e
    obtain ⟨rfl, rfl⟩ := e
    exact ⟨⟨fun _ => T', fun _ => s'.heap, fun _ => s'.next, fun _ => undef, fun _ => []⟩, rfl, rfl, rfl, rfl, rfl, fun k a b => by simp only [List.length_nil] at b; omega,
      fun q => ⟨q, fun _ _ k a b => by simp only [List.length_nil] at b; omega, fun j k a b c => by simp only [List.length_nil] at c; omega⟩⟩
  | o :: rest, i, fs, T, s, fs', T', s', hr, h => by
    have ho : all[i]? = some o := by
      have := congrArg (·[0]?) hr
      simpa using this.symm
    have hrest : rest = all.drop (i + 1) := by
      have := congrArg List.tail hr
      simpa using this
    unfold dOps at h
    obtain ⟨r, s1, h1, h2⟩ := bind_ok h
    unfold sub at h1
    cases e : runW C call all T o ⟨s.heap, s.next, s.next, []⟩ with
    | none => rw [e] at h1; cases h1
    | some q =>
      obtain ⟨r0, s2⟩ := q
      rw [e] at h1
      simp only [Option.some.injEq, Prod.mk.injEq] at h1
      obtain ⟨rfl, rfl⟩ := h1
      cases r0 with
      | pan v => exact (fail_ok h2).elim
      | ret v =>
        simp only at h2
        cases hp : putT N T o.dst v with
        | none => rw [hp] at h2; exact (fail_ok h2).elim
        | some T1 =>
          rw [hp] at h2
          obtain ⟨X, x1, x2, x3, x4, x5, x6, x7⟩ := dOps_lex rest (i + 1) _ T1 _ hrest h2
          simp only at x2 x3
          have hl : i + (o :: rest).length = i + 1 + rest.length := by simp only [List.length_cons]; omega
          have hX : ∀ k, i + 1 ≤ k → ∀ (α : Type) (a : α) (f : Nat → α), (if k = i then a else f k) = f k := fun k q α a f => if_neg (by omega)
          refine ⟨⟨fun k => if k = i then T else X.T k, fun k => if k = i then s.heap else X.H k, fun k => if k = i then s.next else X.n k, fun k => if k = i then v else X.v k, fun k => if k = i then s2.log else X.F k⟩, if_pos rfl, if_pos rfl, if_pos rfl, ?_, ?_, ?_, ?_⟩
          · rw [hl]; simp only; rw [hX _ (by omega)]; exact x4
          · rw [hl]; simp only; rw [hX _ (by omega)]; exact x5
          · intro k a b
            rw [hl] at b
            by_cases q : k = i
            · subst q
              refine ⟨o, s2, ho, ?_, ?_, ?_, ?_, ?_⟩
              · simp only [Lex.at, if_true]; exact e
              · simp only [if_true]
              · simp only; rw [hX _ (by omega)]; exact x2.symm
              · simp only; rw [hX _ (by omega)]; exact x3.symm
              · simp only [if_true]; rw [hX _ (by omega), x1]; exact hp
            · obtain ⟨o', s', y1, y2, y3, y4, y5, y6⟩ := x6 k (by omega) b
              refine ⟨o', s', y1, ?_, ?_, ?_, ?_, ?_⟩
              · simp only [Lex.at, if_neg q]; exact y2
              · simp only [if_neg q]; exact y3
              · simp only; rw [hX _ (by omega)]; exact y4
              · simp only; rw [hX _ (by omega)]; exact y5
              · simp only [if_neg q]; rw [hX _ (by omega)]; exact y6
          · intro q
            obtain ⟨z1, z2, z3⟩ := x7 q
            simp only [allFree, Bool.and_eq_true, List.all_eq_true] at z1
            have hf : ∀ k, i + 1 ≤ k → Lex.foot ⟨fun k => if k = i then T else X.T k, fun k => if k = i then s.heap else X.H k, fun k => if k = i then s.next else X.n k, fun k => if k = i then v else X.v k, fun k => if k = i then s2.log else X.F k⟩ k = X.foot k := fun k hk => by
              simp only [Lex.foot]
              rw [hX _ hk, hX _ hk, hX _ (by omega)]
            have hi : Lex.foot ⟨fun k => if k = i then T else X.T k, fun k => if k = i then s.heap else X.H k, fun k => if k = i then s.next else X.n k, fun k => if k = i then v else X.v k, fun k => if k = i then s2.log else X.F k⟩ i = ⟨i, s2.log, s.next, s2.next⟩ := by
              simp only [Lex.foot, if_true]
              rw [hX _ (by omega), x3]
            refine ⟨z1.2, fun x hx k a b => ?_, fun j k a b c => ?_⟩
            · rw [hl] at b
              by_cases q : k = i
              · subst q
                rw [hi]
                exact z1.1 x hx
              · rw [hf k (by omega)]
                exact z2 x (List.mem_cons_of_mem _ hx) k (by omega) b
            · rw [hl] at c
              by_cases q : j = i
              · subst q
                rw [hi, hf k (by omega)]
                exact z2 _ (List.mem_cons_self ..) k (by omega) c
              · rw [hf j (by omega), hf k (by omega)]
                exact z3 j k (by omega) b c
end
end Go.Eng
