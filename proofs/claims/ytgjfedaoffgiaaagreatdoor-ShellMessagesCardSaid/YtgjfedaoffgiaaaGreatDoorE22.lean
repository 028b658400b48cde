/-
  Locality of code and calls.
-/
import Derived.Test.YtgjfedaoffgiaaaGreatDoorE21
namespace Go.Eng
def asM (m : ASt → CRes) : M (AExit × Tm) := fun s => match m s with
  | some (e, T, s') => some ((e, T), s')
  | none => none
theorem asM_some {m : ASt → CRes} {s s' : ASt} {e : AExit} {T : Tm} (h : m s = some (e, T, s')) : asM m s = some ((e, T), s') := by unfold asM; rw [h]
theorem Local.of_eq {α : Type} {m m' : M α} (h : m = m') (k : Local m') : Local m := h ▸ k
section
variable {C : Cfg} {call : CallF} {N : Nat}
theorem opRun_eq (T : Tm) (o : Oper) : opRun C call T o = M.bind (aOp C T o.op) fun r => match r with
    | .val v => M.ret (.ret v)
    | .unit => M.ret (.ret undef)
    | .pan v => M.ret (.pan v)
    | .call f args => call f args := by
  funext s
  unfold opRun M.bind
  cases aOp C T o.op s with
  | none => rfl
  | some q => obtain ⟨r, s'⟩ := q; cases r <;> rfl
theorem Local.opRun (hc : ∀ f args, Local (call f args)) (T : Tm) (o : Oper) : Local (opRun C call T o) := by
  refine Local.of_eq (opRun_eq T o) (Local.bind (Local.aOp _ _ _) fun r => ?_)
  cases r with
  | val v => exact Local.ret _
  | unit => exact Local.ret _
  | pan v => exact Local.ret _
  | call f args => exact hc _ _
theorem Local.runW (hc : ∀ f args, Local (call f args)) (all : List Oper) (T : Tm) (o : Oper) : Local (runW C call all T o) := by
  unfold Go.Eng.runW
  exact Local.cond (Local.opRun hc T o) (Local.ret _)
def optM {α β : Type} (o : Option α) (f : α → M β) : M β := match o with
  | some a => f a
  | none => M.fail
theorem Local.optM {α β : Type} {o : Option α} {f : α → M β} (h : ∀ a, Local (f a)) : Local (optM o f) := by
  cases o with
  | none => exact Local.fail
  | some a => exact h a
theorem aOps_eq (all : List Oper) (o : Oper) (rest : List Oper) (T : Tm) : asM (aOps C call N all (o :: rest) T) =
    bif wantedA all T o then M.bind (opRun C call T o) (fun r => match r with
      | .ret v => optM (putT N T o.dst v) fun T' => asM (aOps C call N all rest T')
      | .pan v => M.ret (.pan v, T))
    else optM (putT N T o.dst undef) fun T' => asM (aOps C call N all rest T') := by
  funext s
  unfold asM
  simp only [aOps]
  cases wantedA all T o with
  | false =>
    simp only [cond_false]
    cases putT N T o.dst undef <;> rfl
  | true =>
    simp only [cond_true, M.bind]
    cases opRun C call T o s with
    | none => rfl
    | some q =>
      obtain ⟨r, s'⟩ := q
      cases r with
      | ret v => simp only; cases putT N T o.dst v <;> rfl
      | pan v => rfl
theorem Local.aOps (hc : ∀ f args, Local (call f args)) (all : List Oper) : ∀ (rest : List Oper) (T : Tm), Local (asM (aOps C call N all rest T))
  | [], T => Local.of_eq (m' := M.ret (AExit.normal, T)) rfl (Local.ret _)
  | o :: rest, T => by
    refine Local.of_eq (aOps_eq all o rest T) (Local.cond (Local.bind (Local.opRun hc T o) fun r => ?_) (Local.optM fun T' => Local.aOps hc all rest T'))
    cases r with
    | ret v => exact Local.optM fun T' => Local.aOps hc all rest T'
    | pan v => exact Local.ret _
theorem Local.dOps (hc : ∀ f args, Local (call f args)) (all : List Oper) : ∀ (rest : List Oper) (i : Nat) (fs : List Foot) (T : Tm), Local (dOps C call N all i rest fs T)
  | [], i, fs, T => Local.ret (fs, T)
  | o :: rest, i, fs, T => by
    unfold Go.Eng.dOps
    refine Local.bind (Local.sub (Local.runW hc all T o)) fun r => ?_
    split
    · split
      · exact Local.dOps hc all rest _ _ _
      · exact Local.fail
    · exact Local.fail
theorem Local.aDraw (hc : ∀ f args, Local (call f args)) (all : List Oper) (T : Tm) : Local (asM (aDraw C call N all T)) := by
  refine Local.of_eq (m' := M.bind (Go.Eng.dOps C call N all 0 all [] T) fun r => bif allFree all r.1 && backs 0 all then M.ret (AExit.normal, r.2) else M.fail) ?_
    (Local.bind (Local.dOps hc all all 0 [] T) fun r => Local.cond (Local.ret _) Local.fail)
  funext s
  unfold asM Go.Eng.aDraw M.bind
  cases Go.Eng.dOps C call N all 0 all [] T s with
  | none => rfl
  | some q =>
    obtain ⟨⟨fs, T'⟩, s'⟩ := q
    simp only
    cases allFree all fs && backs 0 all <;> rfl
theorem Local.aCode (hc : ∀ f args, Local (call f args)) : ∀ (n : Nat) (c : Code) (T : Tm), Local (asM (aCode C call N n c T))
  | 0, c, T => Local.of_eq (m' := M.fail) (by funext s; simp [asM, Go.Eng.aCode, M.fail]) Local.fail
  | n + 1, c, T => by
    have ih := Local.aCode hc n
    cases c with
    | skip => exact Local.of_eq (m' := M.ret (.normal, T)) (by funext s; simp [asM, Go.Eng.aCode, M.ret]) (Local.ret _)
    | label l => exact Local.of_eq (m' := M.ret (.normal, T)) (by funext s; simp [asM, Go.Eng.aCode, M.ret]) (Local.ret _)
    | ret => exact Local.of_eq (m' := M.ret (.ret, T)) (by funext s; simp [asM, Go.Eng.aCode, M.ret]) (Local.ret _)
    | exit id => exact Local.of_eq (m' := M.ret (.exit id, T)) (by funext s; simp [asM, Go.Eng.aCode, M.ret]) (Local.ret _)
    | region id ops d =>
      cases d with
      | true => exact Local.of_eq (m' := asM (Go.Eng.aDraw C call N ops.toList T)) (by funext s; simp [asM, Go.Eng.aCode]) (Local.aDraw hc _ _)
      | false => exact Local.of_eq (m' := asM (Go.Eng.aOps C call N ops.toList ops.toList T)) (by funext s; simp [asM, Go.Eng.aCode]) (Local.aOps hc _ _ _)
    | seq a b =>
      refine Local.of_eq (m' := M.bind (asM (Go.Eng.aCode C call N n a T)) fun r => match r with
        | (.normal, T') => asM (Go.Eng.aCode C call N n b T')
        | r => M.ret r) ?_ (Local.bind (ih a T) fun r => ?_)
      · funext s
        simp only [asM, Go.Eng.aCode, M.bind]
        cases Go.Eng.aCode C call N n a T s with
        | none => rfl
        | some q => obtain ⟨e, T', s'⟩ := q; cases e <;> rfl
      · obtain ⟨e, T'⟩ := r
        cases e with
        | normal => exact ih b T'
        | _ => exact Local.ret _
    | cond c a b =>
      cases he : ev T c with
      | none => exact Local.of_eq (m' := M.fail) (by funext s; simp [asM, Go.Eng.aCode, he, M.fail]) Local.fail
      | some v =>
        cases v with
        | bool q =>
          cases q with
          | true => exact Local.of_eq (m' := asM (Go.Eng.aCode C call N n a T)) (by funext s; simp [asM, Go.Eng.aCode, he]) (ih a T)
          | false => exact Local.of_eq (m' := asM (Go.Eng.aCode C call N n b T)) (by funext s; simp [asM, Go.Eng.aCode, he]) (ih b T)
        | _ => exact Local.of_eq (m' := M.fail) (by funext s; simp [asM, Go.Eng.aCode, he, M.fail]) Local.fail
    | block id b =>
      refine Local.of_eq (m' := M.bind (asM (Go.Eng.aCode C call N n b T)) fun r => match r with
        | (.exit i, T') => M.ret (bif Nat.beq i id then .normal else .exit i, T')
        | r => M.ret r) ?_ (Local.bind (ih b T) fun r => ?_)
      · funext s
        simp only [asM, Go.Eng.aCode, M.bind]
        cases Go.Eng.aCode C call N n b T s with
        | none => rfl
        | some q => obtain ⟨e, T', s'⟩ := q; cases e <;> rfl
      · split <;> exact Local.ret _
    | loop b =>
      refine Local.of_eq (m' := M.bind (asM (Go.Eng.aCode C call N n b T)) fun r => match r with
        | (.normal, T') => asM (Go.Eng.aCode C call N n (.loop b) T')
        | r => M.ret r) ?_ (Local.bind (ih b T) fun r => ?_)
      · funext s
        simp only [asM, Go.Eng.aCode, M.bind]
        cases Go.Eng.aCode C call N n b T s with
        | none => rfl
        | some q => obtain ⟨e, T', s'⟩ := q; cases e <;> rfl
      · obtain ⟨e, T'⟩ := r
        cases e with
        | normal => exact ih (.loop b) T'
        | _ => exact Local.ret _
    | _ => exact Local.of_eq (m' := M.fail) (by funext s; simp [asM, Go.Eng.aCode, M.fail]) Local.fail
theorem Local.aRes (T : Tm) : ∀ rs, Local (aRes C T rs)
  | [] => Local.ret _
  | .tmp t :: rest => by
    unfold Go.Eng.aRes
    exact Local.bind (Local.aRes T rest) fun _ => Local.ret _
  | .cell a t :: rest => by
    unfold Go.Eng.aRes
    refine Local.bind (Local.aLoad _ _ _) fun r => ?_
    split
    · exact Local.bind (Local.aRes T rest) fun _ => Local.ret _
    · exact Local.fail
theorem Local.aBody (hc : ∀ f args, Local (call f args)) (F : Nat) (fn : Func) (args : List Value) : Local (aBody C call F fn args) := by
  cases hb : fn.body with
  | none => exact Local.of_eq (m' := M.fail) (by funext s; simp [Go.Eng.aBody, hb, M.fail]) Local.fail
  | some body =>
    refine Local.of_eq (m' := bif Nat.ble args.length fn.ntmps then M.bind (asM (Go.Eng.aCode C call fn.ntmps F body (argsT 0 args .leaf))) fun r => match r with
      | (.normal, T) => M.bind (Go.Eng.aRes C T fn.results.toList) fun vs => M.ret (.ret (tupV vs))
      | (.ret, T) => M.bind (Go.Eng.aRes C T fn.results.toList) fun vs => M.ret (.ret (tupV vs))
      | (.pan v, _) => M.ret (.pan v)
      | _ => M.fail
      else M.fail) ?_ (Local.cond (Local.bind (Local.aCode hc _ _ _) fun r => ?_) Local.fail)
    · funext s
      simp only [Go.Eng.aBody, hb]
      cases Nat.ble args.length fn.ntmps with
      | false => rfl
      | true =>
        simp only [cond_true, asM, M.bind]
        cases Go.Eng.aCode C call fn.ntmps F body (argsT 0 args .leaf) s with
        | none => rfl
        | some q =>
          obtain ⟨e, T', s'⟩ := q
          cases e with
          | normal => simp only [M.bind, M.ret]; cases Go.Eng.aRes C T' fn.results.toList s' <;> rfl
          | ret => simp only [M.bind, M.ret]; cases Go.Eng.aRes C T' fn.results.toList s' <;> rfl
          | pan v => rfl
          | exit i => rfl
          | goto l => rfl
    · split
      · exact Local.bind (Local.aRes _ _) fun _ => Local.ret _
      · exact Local.bind (Local.aRes _ _) fun _ => Local.ret _
      · exact Local.ret _
      · exact Local.fail
theorem Local.aCall (ho : ∀ f g, C.over f = some g → ∀ call, (∀ f args, Local (call f args)) → ∀ args, Local (g call args)) (F : Nat) : ∀ (n : Nat) (f : FuncId) (args : List Value), Local (aCall C F n f args)
  | 0, f, args => Local.fail
  | n + 1, f, args => by
    unfold Go.Eng.aCall
    split
    · rename_i g hg
      exact ho f g hg _ (Local.aCall ho F n) args
    · split
      · exact Local.aBody (Local.aCall ho F n) F _ _
      · exact Local.fail
end
end Go.Eng
