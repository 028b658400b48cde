/-
  Regions that draw their order: one step in any order.
-/
import Derived.Test.YtgjfedaoffgiaaaGreatDoorE24
namespace Go.Eng
theorem memN_iff {i : Nat} : ∀ {l : List Nat}, memN i l = true ↔ i ∈ l
  | [] => by simp [memN]
  | j :: l => by
    simp only [memN]
    cases h : Nat.beq i j with
    | true => have := Nat.eq_of_beq_eq_true h; subst this; simp
    | false =>
      have : i ≠ j := fun q => by subst q; simp at h
      simp only [cond_false, List.mem_cons, this, false_or]
      exact memN_iff
theorem backs_get : ∀ {rest : List Oper} {i k : Nat} {o : Oper}, backs i rest = true → rest[k]? = some o → ∀ x ∈ direct o, x < i + k
  | [], i, k, o, _, h => by simp at h
  | p :: rest, i, k, o, hb, h => by
    simp only [backs, Bool.and_eq_true, List.all_eq_true] at hb
    intro x hx
    cases k with
    | zero =>
      simp at h; subst h
      have := hb.1 x hx
      simpa using this
    | succ k =>
      have := backs_get hb.2 (by simpa using h) x hx
      omega
section
variable {all : List Oper}
theorem anc_lt (hb : backs 0 all = true) : ∀ (f j x : Nat), x ∈ anc all f j → x < j
  | 0, j, x, h => by simp [anc] at h
  | f + 1, j, x, h => by
    simp only [anc] at h
    cases hj : all[j]? with
    | none => rw [hj] at h; simp at h
    | some o =>
      rw [hj] at h
      simp only [List.mem_flatMap, List.mem_cons] at h
      obtain ⟨i, hi, h⟩ := h
      have h1 := backs_get hb hj i hi
      rcases h with rfl | h
      · omega
      · have := anc_lt hb f i x h; omega
theorem anc_closed {L : Nat → Prop} (hL : ∀ j o, all[j]? = some o → L j → ∀ x ∈ direct o, L x) : ∀ (f j x : Nat), x ∈ anc all f j → (∀ o, all[j]? = some o → ∀ x ∈ direct o, L x) → L x
  | 0, j, x, h, _ => by simp [anc] at h
  | f + 1, j, x, h, hd => by
    simp only [anc] at h
    cases hj : all[j]? with
    | none => rw [hj] at h; simp at h
    | some o =>
      rw [hj] at h
      simp only [List.mem_flatMap, List.mem_cons] at h
      obtain ⟨i, hi, h⟩ := h
      have h1 := hd o hj i hi
      rcases h with rfl | h
      · exact h1
      · exact anc_closed hL f i x h fun o ho => hL i o ho h1
end
structure LocAt (C : Cfg) (call : CallF) (N : Nat) (all : List Oper) (X : Lex) (k : Nat) (o : Oper) : Prop where
  put : putT N (X.T k) o.dst (X.v k) = some (X.T (k + 1))
  lt : ∀ id b, (id, b) ∈ X.F k → id < X.n k
  le : X.n k ≤ X.n (k + 1)
  far : ∀ id, X.n (k + 1) ≤ id → (X.H (k + 1)).get id = (X.H k).get id
  gone : ∀ id, X.n k ≤ id → id < X.n (k + 1) → (X.H k).get id = none
  old : ∀ id, id < X.n k → (id, true) ∉ X.F k → (X.H (k + 1)).get id = (X.H k).get id
  run : ∀ t : Tr AObj, (∀ id, X.n k ≤ id → id < X.n (k + 1) → t.get id = none) → (∀ id b, (id, b) ∈ X.F k → t.get id = (X.H k).get id) →
    ∃ t', runW C call all (X.T k) o ⟨t, X.n k, X.n k, []⟩ = some (.ret (X.v k), t') ∧ (∀ id, X.n k ≤ id → id < X.n (k + 1) → t'.heap.get id = (X.H (k + 1)).get id) ∧
      (∀ id, (id, true) ∈ X.F k → t'.heap.get id = (X.H (k + 1)).get id) ∧ (∀ id, id < X.n k → (id, true) ∉ X.F k → t'.heap.get id = t.get id) ∧ ∀ id, X.n (k + 1) ≤ id → t'.heap.get id = t.get id
section
variable {C : Cfg} {call : CallF} {N : Nat} {all : List Oper} {X : Lex}
theorem Lex.loc (hl : ∀ f args, Local (call f args)) {k : Nat} (st : X.step C call N all k) : ∃ o, all[k]? = some o ∧ LocAt C call N all X k o := by
  obtain ⟨o, s1, y1, y2, y3, y4, y5, y6⟩ := st
  have hs : Fresh (X.at k) := Nat.le_refl _
  obtain ⟨F, R, kk⟩ := Local.runW hl all (X.T k) o _ _ _ hs y2
  have d := Local.self R y2 kk
  have hF : F = X.F k := by rw [← y3, d.log]; simp [Lex.at]
  subst hF
  refine ⟨o, y1, y6, R.lt, ?_, ?_, ?_, ?_, ?_⟩
  · rw [← y5]; exact R.next
  · rw [← y5, ← y4]; exact d.far
  · rw [← y5]; exact R.no
  · rw [← y4]; exact d.old
  · intro t h1 h2
    obtain ⟨t', e, D⟩ := kk ⟨t, X.n k, X.n k, []⟩ ⟨rfl, rfl, fun id a b => by simp only [Lex.at] at a b; omega, by rw [y5]; exact h1, h2⟩
    refine ⟨t', e, ?_, ?_, ?_, ?_⟩
    · rw [← y5, ← y4]; exact D.own
    · rw [← y4]; exact D.wr
    · exact D.old
    · rw [← y5]; exact D.far
def Lex.hits (X : Lex) (all : List Oper) (id k : Nat) : Prop := k < all.length ∧ ((id, true) ∈ X.F k ∨ (X.n k ≤ id ∧ id < X.n (k + 1)))
def puts (all : List Oper) (t k : Nat) : Prop := ∃ o, all[k]? = some o ∧ o.dst = some t
structure Inv (all : List Oper) (X : Lex) (L : Nat → Prop) (T : Tm) (H : Tr AObj) : Prop where
  t : ∀ t, Cons (puts all t) X.v (gett (X.T 0) t) L (gett T t)
  h : ∀ id, Cons (X.hits all id) (fun k => (X.H (k + 1)).get id) ((X.H 0).get id) L (H.get id)
theorem putT_ok {T T' : Tm} {dst : Option Nat} {v : Value} (h : putT N T dst v = some T') (i : Nat) : gett T' i = if dst = some i then v else gett T i := by
  cases dst with
  | none => simp [putT] at h; subst h; simp
  | some d =>
    simp only [putT] at h
    cases hd : Nat.blt d N with
    | false => rw [hd] at h; cases h
    | true =>
      rw [hd] at h; simp at h; subst h
      rw [gett_set]
      by_cases q : i = d
      · subst q; simp
      · rw [if_neg q, if_neg (by simpa using fun e => q e.symm)]
theorem putT_same {T T' U : Tm} {dst : Option Nat} {v : Value} (h : putT N T dst v = some T') : ∃ U', putT N U dst v = some U' := by
  cases dst with
  | none => exact ⟨_, rfl⟩
  | some d =>
    simp only [putT] at h ⊢
    cases hd : Nat.blt d N with
    | false => rw [hd] at h; cases h
    | true => exact ⟨_, rfl⟩

/-- All that the text's order has told. -/
structure Told (C : Cfg) (call : CallF) (N : Nat) (all : List Oper) (X : Lex) : Prop where
  loc : ∀ k o, all[k]? = some o → LocAt C call N all X k o
  free : ∀ j k, j < k → k < all.length → Go.Eng.free all (X.foot j) (X.foot k) = true
  backs : backs 0 all = true
theorem Lex.told (hl : ∀ f args, Local (call f args)) (st : ∀ k, k < all.length → X.step C call N all k)
    (fr : ∀ j k, j < k → k < all.length → Go.Eng.free all (X.foot j) (X.foot k) = true) (hb : Go.Eng.backs 0 all = true) : Told C call N all X := by
  refine ⟨fun k o ho => ?_, fr, hb⟩
  have hk : k < all.length := (List.getElem?_eq_some_iff.1 ho).1
  obtain ⟨o', ho', l⟩ := Lex.loc hl (st k hk)
  rw [ho] at ho'; cases ho'
  exact l
theorem Told.mono (D : Told C call N all X) {j k : Nat} (h : j ≤ k) (hk : k ≤ all.length) : X.n j ≤ X.n k := by
  induction k with
  | zero => have : j = 0 := by omega
            subst this; exact Nat.le_refl _
  | succ k ih =>
    rcases Nat.lt_or_ge k j with q | q
    · have : j = k + 1 := by omega
      subst this; exact Nat.le_refl _
    · have hlt : k < all.length := by omega
      exact Nat.le_trans (ih q (by omega)) (D.loc k all[k] (List.getElem?_eq_getElem hlt)).le
theorem Told.lex (D : Told C call N all X) : ∀ k, k ≤ all.length → Inv all X (fun j => j < k) (X.T k) (X.H k) := by
  intro k
  induction k with
  | zero => intro _; exact ⟨fun t => Cons.start fun i => by omega, fun id => Cons.start fun i => by omega⟩
  | succ k ih =>
    intro hk
    have hlt : k < all.length := by omega
    have ho : all[k]? = some all[k] := List.getElem?_eq_getElem hlt
    have l := D.loc k _ ho
    have I := ih (by omega)
    have hL : ∀ j, (j < k + 1) ↔ (j < k ∨ j = k) := fun j => by omega
    refine ⟨fun t => ?_, fun id => ?_⟩
    · rw [putT_ok l.put]
      by_cases q : all[k].dst = some t
      · rw [if_pos q]
        exact Cons.top ⟨_, ho, q⟩ (fun j a _ => by omega) hL
      · rw [if_neg q]
        exact Cons.skip (I.t t) (fun ⟨o, a, b⟩ => by rw [ho] at a; cases a; exact q b) hL
    · by_cases q : X.hits all id k
      · exact Cons.top (val := fun k => (X.H (k + 1)).get id) q (fun j a _ => by omega) hL
      · have : (X.H (k + 1)).get id = (X.H k).get id := by
          rcases Nat.lt_or_ge id (X.n k) with a | a
          · exact l.old id a fun b => q ⟨hlt, .inl b⟩
          · exact l.far id (by
              rcases Nat.lt_or_ge id (X.n (k + 1)) with b | b
              · exact absurd ⟨hlt, .inr ⟨a, b⟩⟩ q
              · exact b)
        rw [this]
        exact Cons.skip (I.h id) q hL
end
end Go.Eng
