/-
  The evaluator's calls tell what the machine's calls do.
-/
import Derived.Test.YtgjfedaoffgiaaaGreatDoorE18
namespace Go.Eng
section
variable {P : Program} {C : Cfg} {call : CallF} {φ : Phi} {N : Nat}

theorem argsT_get : ∀ (l : List Value) (k : Nat) (T : Tm) (i : Nat), gett (argsT k l T) i = if k ≤ i ∧ i < k + l.length then l.getD (i - k) undef else gett T i
  | [], k, T, i => by simp only [argsT, List.length_nil]; rw [if_neg (by omega)]
  | v :: l, k, T, i => by
    simp only [argsT]
    rw [argsT_get l (k + 1), gett_set]
    simp only [List.length_cons]
    by_cases h : k + 1 ≤ i ∧ i < k + 1 + l.length
    · rw [if_pos h, if_pos (by omega), show i - k = (i - (k + 1)) + 1 by omega]; simp
    · rw [if_neg h]
      by_cases q : i = k
      · subst q; rw [if_pos rfl, if_pos (by omega)]; simp
      · rw [if_neg q, if_neg (by omega)]
theorem args_TR {args : List Value} {args' : Array Value} (hpin : Pinned φ) (h : VRs φ args args'.toList) (hl : args.length ≤ N) :
    TR φ N (argsT 0 args .leaf) { tmps := args' ++ Array.replicate (N - args'.size) undef, defers := [] } := by
  have hlen := h.length
  have hsz : args'.size = args.length := by rw [← Array.length_toList, hlen]
  refine ⟨by simp; omega, fun t => ?_, hpin⟩
  rw [argsT_get, Array.getD_eq_getD_getElem?]
  by_cases q : t < args.length
  · rw [if_pos (by omega)]
    obtain ⟨v', h1, h2⟩ := h.get t args[t] (by rw [List.getElem?_eq_getElem])
    simp only [Nat.sub_zero]
    rw [List.getD_eq_getElem?_getD, List.getElem?_eq_getElem q, Option.getD_some]
    rw [Array.getElem?_append_left (by omega), ← Array.getElem?_toList, h1]
    exact h2
  · rw [if_neg (by omega)]
    rw [Array.getElem?_append_right (by omega), Array.getElem?_replicate]
    have : gett (Tr.leaf : Tm) t = undef := rfl
    rw [this]
    split <;> exact .tuple .nil

theorem aLoad_run (K : CfgOK P C) {s s' : ASt} {w : World} (R : Rel φ s.heap w) {t : TypeId} {p p' : Value} {r : Go.Eng.R} (hp : VR φ p p') (h : aLoad C t p s = some (r, s')) :
    s'.heap = s.heap ∧ ∃ v ad v', r = .val v ∧ p' = .pointer (some ad) ∧ (loadVar t ad).run P w = .ok v' w ∧ VR φ v v' := by
  unfold aLoad at h
  cases hi : C.ti t with
  | none => rw [hi] at h; exact (fail_ok h).elim
  | some i =>
  cases ha : addr p with
  | none => rw [hi, ha] at h; exact (fail_ok h).elim
  | some bo =>
  obtain ⟨b, o⟩ := bo
  rw [hi, ha] at h
  simp only at h
  obtain ⟨l, hl, rfl⟩ := hp.addr ha
  obtain ⟨⟨vs, m⟩, s1, h1, h2⟩ := bind_ok h
  obtain ⟨g, e1⟩ := cellsAt_ok h1
  have T := K.ti _ _ hi
  simp only at h2
  cases hg : i.agg with
  | true =>
    rw [hg] at h2
    simp only [cond_true] at h2
    cases hc : lsub vs o i.size with
    | none => rw [hc] at h2; exact (fail_ok h2).elim
    | some cs =>
      rw [hc] at h2
      obtain ⟨rfl, rfl⟩ := val_ok h2
      obtain ⟨r', hl', _, hv, hrun⟩ := R.stretch (P := P) g hl hc
      exact ⟨e1, _, _, .agg r'.toArray, rfl, rfl, by simp [loadVar, run_isAgg T, hg, run_sizeOf' T, hrun], .agg (by simpa using hv)⟩
  | false =>
    rw [hg] at h2
    simp only [cond_false] at h2
    obtain ⟨v, hv, rfl, rfl⟩ := valO_ok h2
    obtain ⟨v', h3, h4⟩ := R.cell g hl hv
    exact ⟨e1, _, _, v', rfl, rfl, by simp [loadVar, run_isAgg T, hg, run_load, h3], h4⟩
def resF (tmps : Array Value) : ResultVar → Sem Value
  | .tmp t => pure (tmps.getD t undef)
  | .cell a t => do loadVar t (← asAddr (tmps.getD a undef))
theorem aRes_ok (K : CfgOK P C) {T : Tm} {a : Act} {w : World} (t : TR φ N T a) : ∀ {rs : List ResultVar} {s s' : ASt} {vs : List Value}, Rel φ s.heap w → aRes C T rs s = some (vs, s') →
    s'.heap = s.heap ∧ ∃ vs', VRs φ vs vs' ∧ (rs.mapM (resF a.tmps)).run P w = .ok vs' w
  | [], s, s', vs, R, h => by
    obtain ⟨rfl, rfl⟩ := ret_ok h
    exact ⟨rfl, [], .nil, by simp⟩
  | .tmp x :: rest, s, s', vs, R, h => by
    obtain ⟨us, s1, h1, h2⟩ := bind_ok h
    obtain ⟨rfl, rfl⟩ := ret_ok h2
    obtain ⟨e, us', h3, h4⟩ := aRes_ok K t R h1
    exact ⟨e, _, .cons (t.val x) h3, by simp [List.mapM_cons, resF, h4]⟩
  | .cell x ty :: rest, s, s', vs, R, h => by
    obtain ⟨r, s1, h1, h2⟩ := bind_ok h
    obtain ⟨e1, v, ad, v', rfl, hp, hrun, hv⟩ := aLoad_run K R (t.val x) h1
    simp only at h2
    obtain ⟨us, s2, h3, h4⟩ := bind_ok h2
    obtain ⟨rfl, rfl⟩ := ret_ok h4
    obtain ⟨e, us', h5, h6⟩ := aRes_ok K t (by rw [e1]; exact R) h3
    exact ⟨by rw [e, e1], v' :: us', .cons hv h5, by rw [List.mapM_cons]; simp only [resF, hp, asAddr, pure_bind, Sem.run_bind, hrun, Result.andThen_ok, h6]; rfl⟩
theorem tupV_ok {vs : List Value} {vs' : List Value} (h : VRs φ vs vs') : VR φ (tupV vs) (if hh : vs'.toArray.size = 1 then vs'.toArray[0] else .tuple vs'.toArray) := by
  cases h with
  | nil => exact .tuple .nil
  | cons hv t =>
    cases t with
    | nil => exact hv
    | cons hv2 t => rw [dif_neg (by simp)]; exact .tuple (.cons hv (.cons hv2 t))
theorem results_ok (K : CfgOK P C) {T : Tm} {a : Act} {w : World} {fn : Func} {s s' : ASt} {vs : List Value} (t : TR φ N T a) (R : Rel φ s.heap w) (h : aRes C T fn.results.toList s = some (vs, s')) :
    s'.heap = s.heap ∧ ∃ v', (results fn a.tmps).run P w = .ok v' w ∧ VR φ (tupV vs) v' := by
  obtain ⟨e, vs', h1, h2⟩ := aRes_ok K t R h
  refine ⟨e, _, ?_, tupV_ok h1⟩
  have hf : results fn a.tmps = (do let vs ← (List.toArray <$> fn.results.toList.mapM (resF a.tmps)); pure (if h : vs.size = 1 then vs[0] else .tuple vs)) := by
    unfold results
    rw [Array.mapM_eq_mapM_toList]
    have : ∀ (f : ResultVar → Sem Value) (g : Array Value → Sem Value), (∀ r, f r = resF a.tmps r) →
        (do let vs ← (List.toArray <$> fn.results.toList.mapM f); g vs : Sem Value) = (do let vs ← (List.toArray <$> fn.results.toList.mapM (resF a.tmps)); g vs) := fun f g h => by rw [show f = resF a.tmps from funext h]
    exact this _ _ (fun r => by cases r <;> rfl)
  rw [hf]
  simp only [Sem.run_bind, Sem.run_map, h2, Result.andThen_ok]
  rfl

theorem aBody_ok (K : CfgOK P C) (hc : CallOK P call) (hd : ∀ N, DrawOK P C call N) {F f : Nat} {fn : Func} (hf : P.funcs[f]? = some fn) {args : List Value} {s s' : ASt} {e : End} (h : aBody C call F fn args s = some (e, s'))
    {w : World} {args' : Array Value} (R : Rel φ s.heap w) (ha : VRs φ args args'.toList) :
    Calls P f args' w fun e' w' => ∃ φ', Step φ s.heap w φ' s'.heap w' ∧ EndR φ' e e' := by
  unfold aBody at h
  cases hb : fn.body with
  | none => rw [hb] at h; cases h
  | some body =>
  rw [hb] at h
  simp only at h
  cases hl : Nat.ble args.length fn.ntmps with
  | false => rw [hl] at h; cases h
  | true =>
  rw [hl] at h
  simp only [cond_true] at h
  cases hr : aCode C call fn.ntmps F body (argsT 0 args .leaf) s with
  | none => rw [hr] at h; cases h
  | some r =>
  obtain ⟨e1, T1, s1⟩ := r
  rw [hr] at h
  refine calls_of_wp hf hb ((aCode_wp K hc (hd fn.ntmps) F).1 body R (args_TR R.pin ha (Nat.le_of_ble_eq_true hl)) rfl hr ?_)
  intro φ1 a1 w1 e1' st t1 d1 x
  cases x with
  | normal =>
    simp only at h
    cases hq : aRes C T1 fn.results.toList s1 with
    | none => rw [hq] at h; cases h
    | some r =>
      obtain ⟨vs, s2⟩ := r
      rw [hq] at h
      simp only [Option.some.injEq, Prod.mk.injEq] at h
      obtain ⟨rfl, rfl⟩ := h
      obtain ⟨e2, v', h1, h2⟩ := results_ok K t1 st.rel hq
      exact ⟨d1, v', h1, φ1, by rw [e2]; exact st, .ret h2⟩
  | ret =>
    simp only at h
    cases hq : aRes C T1 fn.results.toList s1 with
    | none => rw [hq] at h; cases h
    | some r =>
      obtain ⟨vs, s2⟩ := r
      rw [hq] at h
      simp only [Option.some.injEq, Prod.mk.injEq] at h
      obtain ⟨rfl, rfl⟩ := h
      obtain ⟨e2, v', h1, h2⟩ := results_ok K t1 st.rel hq
      exact ⟨d1, v', h1, φ1, by rw [e2]; exact st, .ret h2⟩
  | pan hv =>
    simp only [Option.some.injEq, Prod.mk.injEq] at h
    obtain ⟨rfl, rfl⟩ := h
    exact ⟨d1, φ1, st, .pan hv⟩
  | exit id => cases h
  | goto l => cases h

/-- What stands in a function's place. -/
structure OverOK (P : Program) (f : FuncId) (g : CallF → List Value → M End) : Prop where
  loc : ∀ call, (∀ f args, Local (call f args)) → ∀ args, Local (g call args)
  ok : ∀ call, CallOK P call → (∀ f args, Local (call f args)) → ∀ args s e s', g call args s = some (e, s') → ∀ (φ : Phi) (w : World) (args' : Array Value), Rel φ s.heap w → VRs φ args args'.toList →
    Calls P f args' w fun e' w' => ∃ φ', Step φ s.heap w φ' s'.heap w' ∧ EndR φ' e e'
theorem aCall_loc (ho : ∀ f g, C.over f = some g → OverOK P f g) (F n : Nat) (f : FuncId) (args : List Value) : Local (aCall C F n f args) := Local.aCall (fun f g h => (ho f g h).loc) F n f args
theorem aCall_ok (K : CfgOK P C) (ho : ∀ f g, C.over f = some g → OverOK P f g) (F : Nat) (hd : ∀ n, CallOK P (aCall C F n) → ∀ N, DrawOK P C (aCall C F n) N) : ∀ n, CallOK P (aCall C F n)
  | 0 => fun f args s e s' h => by simp [aCall, M.fail] at h
  | n + 1 => by
    intro f args s e s' h φ w args' R ha
    have ih := aCall_ok K ho F hd n
    simp only [aCall] at h
    cases hov : C.over f with
    | some g =>
      rw [hov] at h
      exact (ho f g hov).ok _ ih (aCall_loc ho F n) args s e s' h φ w args' R ha
    | none =>
      rw [hov] at h
      simp only at h
      cases hf : C.fn f with
      | none => rw [hf] at h; exact (fail_ok h).elim
      | some fn =>
        rw [hf] at h
        exact aBody_ok K ih (hd n ih) (K.fn _ _ hf).1 h R ha
end
end Go.Eng
