/-
  A run of the evaluator, parted at an operation whose value it does not know.
-/
import Derived.Test.YtgjfedaoffgiaaaGreatDoorE33
namespace Go.Eng
noncomputable section
def pre (C : Cfg) (call : CallF) (N : Nat) : Nat → Nat → Code → Tm → ASt → Option (Nat × Code × Tm × ASt)
  | 0, F, c, T, s => some (F, c, T, s)
  | _ + 1, 0, _, _, _ => none
  | k + 1, F + 1, c, T, s => match c with
    | .seq a b => (match aCode C call N F a T s with
      | some (.normal, T', s') => pre C call N k F b T' s'
      | _ => none)
    | _ => none
theorem pre_ok {C : Cfg} {call : CallF} {N : Nat} : ∀ {k F : Nat} {c : Code} {T : Tm} {s : ASt} {F' : Nat} {c' : Code} {T' : Tm} {s' : ASt}, pre C call N k F c T s = some (F', c', T', s') → aCode C call N F c T s = aCode C call N F' c' T' s'
  | 0, F, c, T, s, F', c', T', s', h => by cases h; rfl
  | k + 1, 0, c, T, s, F', c', T', s', h => by cases h
  | k + 1, F + 1, c, T, s, F', c', T', s', h => by
    unfold pre at h
    split at h
    · rename_i a b
      split at h
      · rename_i T1 s1 e
        show (match aCode C call N F a T s with
          | some (.normal, T', s') => aCode C call N F b T' s'
          | r => r) = _
        rw [e]
        exact pre_ok h
      · cases h
    · cases h
def preOps (C : Cfg) (call : CallF) (N : Nat) (all : List Oper) : Nat → List Oper → Tm → ASt → Option (List Oper × Tm × ASt)
  | 0, l, T, s => some (l, T, s)
  | _ + 1, [], _, _ => none
  | k + 1, o :: rest, T, s => bif wantedA all T o then (match opRun C call T o s with
      | some (.ret v, s') => (match putT N T o.dst v with
        | some T' => preOps C call N all k rest T' s'
        | none => none)
      | _ => none) else none
theorem preOps_ok {C : Cfg} {call : CallF} {N : Nat} {all : List Oper} : ∀ {k : Nat} {l : List Oper} {T : Tm} {s : ASt} {l' : List Oper} {T' : Tm} {s' : ASt}, preOps C call N all k l T s = some (l', T', s') → aOps C call N all l T s = aOps C call N all l' T' s'
  | 0, l, T, s, l', T', s', h => by cases h; rfl
  | k + 1, [], T, s, l', T', s', h => by cases h
  | k + 1, o :: rest, T, s, l', T', s', h => by
    unfold preOps at h
    conv => lhs; unfold aOps
    cases hw : wantedA all T o with
    | false => rw [hw] at h; cases h
    | true =>
      rw [hw] at h
      simp only [cond_true] at h ⊢
      cases hr : opRun C call T o s with
      | none => rw [hr] at h; cases h
      | some q =>
        obtain ⟨e, s1⟩ := q
        rw [hr] at h
        cases e with
        | pan v => cases h
        | ret v =>
          simp only at h ⊢
          cases hp : putT N T o.dst v with
          | none => rw [hp] at h; cases h
          | some T1 => rw [hp] at h; simp only at h ⊢; exact preOps_ok h
/-- A place in a run: what is left to do. -/
structure At where
  F : Nat
  rest : Code
  all : List Oper
  ops : List Oper
  T : Tm
  s : ASt
/-- The place behind k pieces of code and j operations of a region. -/
def place (C : Cfg) (call : CallF) (fn : Func) (F k j : Nat) (args : List Value) (s : ASt) : Option At := match fn.body with
  | none => none
  | some b => (match pre C call fn.ntmps k F b (argsT 0 args .leaf) s with
    | some (f + 2, .seq (.region _ ops false) rest, T, s1) => (match preOps C call fn.ntmps ops.toList j ops.toList T s1 with
      | some (l, T', s') => some ⟨f + 1, rest, ops.toList, l, T', s'⟩
      | none => none)
    | _ => none)
def onward (C : Cfg) (call : CallF) (fn : Func) (p : At) : Option (End × ASt) := match (match aOps C call fn.ntmps p.all p.ops p.T p.s with
    | some (.normal, T', s') => aCode C call fn.ntmps p.F p.rest T' s'
    | r => r) with
  | some (.normal, T, s') => (match aRes C T fn.results.toList s' with
    | some (vs, s'') => some (.ret (tupV vs), s'')
    | none => none)
  | some (.ret, T, s') => (match aRes C T fn.results.toList s' with
    | some (vs, s'') => some (.ret (tupV vs), s'')
    | none => none)
  | some (.pan v, _, s') => some (.pan v, s')
  | _ => none
theorem place_ok {C : Cfg} {call : CallF} {fn : Func} {F k j : Nat} {args : List Value} {s : ASt} {p : At} (hl : Nat.ble args.length fn.ntmps = true) (h : place C call fn F k j args s = some p) : aBody C call F fn args s = onward C call fn p := by
  unfold place at h
  unfold aBody
  cases hb : fn.body with
  | none => rw [hb] at h; cases h
  | some b =>
    rw [hb] at h
    simp only at h ⊢
    rw [hl]
    simp only [cond_true]
    split at h
    · rename_i f id ops rest T s1 e
      split at h
      · rename_i l T' s' e2
        cases h
        rw [pre_ok e]
        have : aCode C call fn.ntmps (f + 2) (.seq (.region id ops false) rest) T s1 = (match aOps C call fn.ntmps ops.toList ops.toList T s1 with
          | some (.normal, T', s') => aCode C call fn.ntmps (f + 1) rest T' s'
          | r => r) := rfl
        rw [this, preOps_ok e2]
        rfl
      · cases h
    · cases h
/-- The value of the operation at a place. -/
def opAt (C : Cfg) (call : CallF) (p : At) : Option (Value × ASt) := match p.ops with
  | o :: _ => bif wantedA p.all p.T o then (match opRun C call p.T o p.s with
    | some (.ret v, s') => some (v, s')
    | _ => none) else none
  | [] => none
/-- The place behind it, with a value of one's own. -/
def past (N : Nat) (p : At) (v : Value) (s : ASt) : Option At := match p.ops with
  | o :: l => (match putT N p.T o.dst v with
    | some T => some ⟨p.F, p.rest, p.all, l, T, s⟩
    | none => none)
  | [] => none
theorem past_ok {C : Cfg} {call : CallF} {fn : Func} {p q : At} {v : Value} {s : ASt} (h : opAt C call p = some (v, s)) (k : past fn.ntmps p v s = some q) : onward C call fn p = onward C call fn q := by
  obtain ⟨F, rest, all, ops, T, s0⟩ := p
  cases ops with
  | nil => cases h
  | cons o l =>
    unfold opAt at h
    unfold past at k
    simp only at h k
    cases hw : wantedA all T o with
    | false => rw [hw] at h; cases h
    | true =>
      rw [hw] at h
      simp only [cond_true] at h
      split at h
      · rename_i v1 s1 e
        cases h
        cases hp : putT fn.ntmps T o.dst v with
        | none => rw [hp] at k; cases k
        | some T1 =>
          rw [hp] at k
          cases k
          unfold onward
          simp only
          rw [show aOps C call fn.ntmps all (o :: l) T s0 = aOps C call fn.ntmps all l T1 s from by
            conv => lhs; unfold aOps
            rw [hw]
            simp only [cond_true]
            rw [e]
            simp only
            rw [hp]]
      · cases h
end
end Go.Eng
