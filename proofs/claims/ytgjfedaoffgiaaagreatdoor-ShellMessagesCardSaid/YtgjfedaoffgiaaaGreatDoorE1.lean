/-
  An evaluator of Go code over a small heap of its own: what it tells of a call is shown (in the texts behind this one) of the machine's call in every world, on every tape. This text: the evaluator's words alone.
-/
import GoSem.Dispatch
import Derived.Calls
namespace Go.Eng

inductive Tr (α : Type) where
  | leaf
  | node (l : Tr α) (v : Option α) (r : Tr α)

namespace Tr
variable {α : Type}
noncomputable def get (t : Tr α) : Nat → Option α :=
  @Tr.rec α (fun _ => Nat → Option α) (fun _ => none) (fun _ v _ gl gr n => @Nat.rec (fun _ => Option α) v (fun m _ => @Bool.rec (fun _ => Option α) (gr (Nat.div m (nat_lit 2))) (gl (Nat.div m (nat_lit 2))) (Nat.beq (Nat.mod m (nat_lit 2)) (nat_lit 0))) n) t
noncomputable def single (f : Nat) : Nat → α → Tr α :=
  @Nat.rec (fun _ => Nat → α → Tr α) (fun _ x => .node .leaf (some x) .leaf) (fun _ g n x => @Nat.rec (fun _ => Tr α) (.node .leaf (some x) .leaf) (fun m _ => @Bool.rec (fun _ => Tr α) (.node .leaf none (g (Nat.div m (nat_lit 2)) x)) (.node (g (Nat.div m (nat_lit 2)) x) none .leaf) (Nat.beq (Nat.mod m (nat_lit 2)) (nat_lit 0))) n) f
noncomputable def set (t : Tr α) : Nat → α → Tr α :=
  @Tr.rec α (fun _ => Nat → α → Tr α) (fun n x => single n n x) (fun l v r sl sr n x => @Nat.rec (fun _ => Tr α) (.node l (some x) r) (fun m _ => @Bool.rec (fun _ => Tr α) (.node l v (sr (Nat.div m (nat_lit 2)) x)) (.node (sl (Nat.div m (nat_lit 2)) x) v r) (Nat.beq (Nat.mod m (nat_lit 2)) (nat_lit 0))) n) t
theorem get_leaf (n : Nat) : (leaf : Tr α).get n = none := rfl
theorem get_zero (l : Tr α) (v : Option α) (r : Tr α) : (node l v r).get 0 = v := rfl
theorem get_succ (l : Tr α) (v : Option α) (r : Tr α) (m : Nat) : (node l v r).get (m + 1) = bif Nat.beq (m % 2) 0 then get l (m / 2) else get r (m / 2) := by
  show @Bool.rec (fun _ => Option α) (get r (m / 2)) (get l (m / 2)) (Nat.beq (m % 2) 0) = _
  cases Nat.beq (m % 2) 0 <;> rfl
theorem single_z (n : Nat) (x : α) : single 0 n x = .node .leaf (some x) .leaf := rfl
theorem single_zero (f : Nat) (x : α) : single (f + 1) 0 x = .node .leaf (some x) .leaf := rfl
theorem single_succ (f m : Nat) (x : α) : single (f + 1) (m + 1) x = bif Nat.beq (m % 2) 0 then .node (single f (m / 2) x) none .leaf else .node .leaf none (single f (m / 2) x) := by
  show @Bool.rec (fun _ => Tr α) (.node .leaf none (single f (m / 2) x)) (.node (single f (m / 2) x) none .leaf) (Nat.beq (m % 2) 0) = _
  cases Nat.beq (m % 2) 0 <;> rfl
theorem set_leaf (n : Nat) (x : α) : (leaf : Tr α).set n x = single n n x := rfl
theorem set_zero (l : Tr α) (v : Option α) (r : Tr α) (x : α) : (node l v r).set 0 x = .node l (some x) r := rfl
theorem set_succ (l : Tr α) (v : Option α) (r : Tr α) (m : Nat) (x : α) : (node l v r).set (m + 1) x = bif Nat.beq (m % 2) 0 then .node (set l (m / 2) x) v r else .node l v (set r (m / 2) x) := by
  show @Bool.rec (fun _ => Tr α) (.node l v (set r (m / 2) x)) (.node (set l (m / 2) x) v r) (Nat.beq (m % 2) 0) = _
  cases Nat.beq (m % 2) 0 <;> rfl

theorem get_single : ∀ (f n k : Nat) (x : α), n ≤ f → (single f n x).get k = if k = n then some x else none := by
  intro f
  induction f with
  | zero =>
    intro n k x h
    obtain rfl : n = 0 := by omega
    cases k <;> simp [single_z, get_zero, get_succ, get_leaf]
  | succ f ih =>
    intro n k x h
    cases n with
    | zero => cases k <;> simp [single_zero, get_zero, get_succ, get_leaf]
    | succ m =>
      simp only [single_succ]
      cases hm : Nat.beq (m % 2) 0 with
      | true =>
        simp only [cond_true]
        have hm' : m % 2 = 0 := Nat.eq_of_beq_eq_true hm
        cases k with
        | zero => simp [get_zero]
        | succ k =>
          simp only [get_succ]
          cases hk : Nat.beq (k % 2) 0 with
          | true =>
            have hk' : k % 2 = 0 := Nat.eq_of_beq_eq_true hk
            simp only [cond_true]
            rw [ih _ _ _ (by omega)]
            by_cases e : k = m
            · subst e; simp
            · rw [if_neg (by omega), if_neg (by omega)]
          | false =>
            have hk' : k % 2 ≠ 0 := fun e => by rw [e] at hk; simp at hk
            simp only [cond_false]
            rw [get_leaf, if_neg (by omega)]
      | false =>
        simp only [cond_false]
        have hm' : m % 2 ≠ 0 := fun e => by rw [e] at hm; simp at hm
        cases k with
        | zero => simp [get_zero]
        | succ k =>
          simp only [get_succ]
          cases hk : Nat.beq (k % 2) 0 with
          | true =>
            have hk' : k % 2 = 0 := Nat.eq_of_beq_eq_true hk
            simp only [cond_true]
            rw [get_leaf, if_neg (by omega)]
          | false =>
            have hk' : k % 2 ≠ 0 := fun e => by rw [e] at hk; simp at hk
            simp only [cond_false]
            rw [ih _ _ _ (by omega)]
            by_cases e : k = m
            · subst e; simp
            · rw [if_neg (by omega), if_neg (by omega)]

theorem get_set : ∀ (t : Tr α) (n k : Nat) (x : α), (t.set n x).get k = if k = n then some x else t.get k := by
  intro t
  induction t with
  | leaf => intro n k x; simp only [set_leaf]; rw [get_single _ _ _ _ (Nat.le_refl _)]; simp [get_leaf]
  | node l v r ihl ihr =>
    intro n k x
    cases n with
    | zero => cases k <;> simp [set_zero, get_zero, get_succ]
    | succ m =>
      simp only [set_succ]
      cases hm : Nat.beq (m % 2) 0 with
      | true =>
        simp only [cond_true]
        have hm' : m % 2 = 0 := Nat.eq_of_beq_eq_true hm
        cases k with
        | zero => simp [get_zero]
        | succ k =>
          simp only [get_succ]
          cases hk : Nat.beq (k % 2) 0 with
          | true =>
            have hk' : k % 2 = 0 := Nat.eq_of_beq_eq_true hk
            simp only [cond_true]
            rw [ihl]
            by_cases e : k = m
            · subst e; simp
            · rw [if_neg (by omega), if_neg (by omega)]
          | false =>
            have hk' : k % 2 ≠ 0 := fun e => by rw [e] at hk; simp at hk
            simp only [cond_false]
            rw [if_neg (by omega)]
      | false =>
        simp only [cond_false]
        have hm' : m % 2 ≠ 0 := fun e => by rw [e] at hm; simp at hm
        cases k with
        | zero => simp [get_zero]
        | succ k =>
          simp only [get_succ]
          cases hk : Nat.beq (k % 2) 0 with
          | true =>
            have hk' : k % 2 = 0 := Nat.eq_of_beq_eq_true hk
            simp only [cond_true]
            rw [if_neg (by omega)]
          | false =>
            have hk' : k % 2 ≠ 0 := fun e => by rw [e] at hk; simp at hk
            simp only [cond_false]
            rw [ihr]
            by_cases e : k = m
            · subst e; simp
            · rw [if_neg (by omega), if_neg (by omega)]
end Tr
end Go.Eng
