/-
  The evaluator's code tells what the machine's code does.
-/
import Derived.Test.YtgjfedaoffgiaaaGreatDoorE23
import Derived.LoopN
namespace Go.Eng
inductive EndR (φ : Phi) : End → Ending → Prop
  | ret {v v' : Value} (h : VR φ v v') : EndR φ (.ret v) (.returned v')
  | pan {v v' : Value} (h : VR φ v v') : EndR φ (.pan v) (.panicked [{ v := v', recovered := false }])
inductive ExitR (φ : Phi) : AExit → Exit → Prop
  | normal : ExitR φ .normal .normal
  | exit (id : Nat) : ExitR φ (.exit id) (.exit id)
  | goto (l : Nat) : ExitR φ (.goto l) (.goto l)
  | ret : ExitR φ .ret .ret
  | pan {v v' : Value} (h : VR φ v v') : ExitR φ (.pan v) (.panic [{ v := v', recovered := false }])
def CallOK (P : Program) (call : CallF) : Prop := ∀ f args s e s', call f args s = some (e, s') → ∀ (φ : Phi) (w : World) (args' : Array Value), Rel φ s.heap w → VRs φ args args'.toList →
  Calls P f args' w fun e' w' => ∃ φ', Step φ s.heap w φ' s'.heap w' ∧ EndR φ' e e'
/-- What is asked behind some code. -/
def After (φ : Phi) (H : Tr AObj) (w : World) (N : Nat) (e : AExit) (T' : Tm) (H' : Tr AObj) (Q : Exit → Act → World → Prop) : Prop :=
  ∀ φ' a' w' e', Step φ H w φ' H' w' → TR φ' N T' a' → a'.defers = [] → ExitR φ' e e' → Q e' a' w'
theorem After.step {φ φ1 : Phi} {H H1 H' : Tr AObj} {w w1 : World} {N : Nat} {e : AExit} {T' : Tm} {Q : Exit → Act → World → Prop} (h : After φ H w N e T' H' Q) (st : Step φ H w φ1 H1 w1) : After φ1 H1 w1 N e T' H' Q :=
  fun φ' a' w' e' st' t d x => h φ' a' w' e' (st.trans st') t d x

section
variable {P : Program} {C : Cfg} {call : CallF} {φ : Phi} {N : Nat}
theorem TR.mono {φ' : Phi} {T : Tm} {a : Act} (h : TR φ N T a) (e : Ext φ φ') : TR φ' N T a := ⟨h.size, fun t => (h.val t).mono e, h.pin.mono e⟩
theorem put_tmps (a : Act) (dst : Option Nat) (v : Value) : (a.put dst v).tmps = match dst with
    | some d => a.tmps.setIfInBounds d v
    | none => a.tmps := by cases dst <;> rfl
theorem put_defers (a : Act) (dst : Option Nat) (v : Value) : (a.put dst v).defers = a.defers := by cases dst <;> rfl
theorem gett_set (T : Tm) (d i : Nat) (v : Value) : gett (T.set d v) i = if i = d then v else gett T i := by
  unfold gett
  rw [Tr.get_set]
  by_cases h : i = d
  · rw [if_pos h, if_pos h]
  · rw [if_neg h, if_neg h]
theorem TR.put {T T' : Tm} {a : Act} {dst : Option Nat} {v v' : Value} (h : TR φ N T a) (hv : VR φ v v') (e : putT N T dst v = some T') : TR φ N T' (a.put dst v') := by
  cases dst with
  | none => simp [putT] at e; subst e; exact h
  | some d =>
    simp only [putT] at e
    cases hd : Nat.blt d N with
    | false => rw [hd] at e; cases e
    | true =>
      rw [hd] at e
      simp at e; subst e
      have hd : d < N := by simpa using hd
      refine ⟨by rw [put_tmps]; simpa using h.size, fun t => ?_, h.pin⟩
      rw [gett_set, put_tmps]
      simp only [Array.getD_eq_getD_getElem?, Array.getElem?_setIfInBounds]
      by_cases q : t = d
      · subst q
        rw [if_pos rfl, if_pos rfl, if_pos (by rw [h.size]; exact hd)]
        exact hv
      · rw [if_neg q, if_neg (fun x => q x.symm)]
        have := h.val t
        rwa [Array.getD_eq_getD_getElem?] at this

theorem wanted_ok {T : Tm} {a : Act} (h : TR φ N T a) (ops : Array Oper) (o : Oper) : Region.wanted o (yielded ops a.tmps) = wantedA ops.toList T o := by
  unfold Region.wanted wantedA
  cases o.guard with
  | none => rfl
  | some g =>
    obtain ⟨j, want⟩ := g
    simp only [yielded]
    cases hj : ops[j]? with
    | none =>
      have : ops.toList[j]? = none := by simpa using hj
      rw [this]; simp
    | some p =>
      have : ops.toList[j]? = some p := by simpa using hj
      rw [this]
      simp only [Option.bind_some]
      cases hd : p.dst with
      | none => simp
      | some d =>
        simp only [Option.bind_some]
        have hv := h.val d
        rw [Array.getD_eq_getD_getElem?] at hv
        cases ht : a.tmps[d]? with
        | none =>
          rw [ht] at hv
          simp only [Option.getD_none] at hv
          generalize gett T d = g at hv
          unfold undef at hv
          cases hv
          rfl
        | some u =>
          rw [ht] at hv
          simp only [Option.getD_some] at hv
          generalize gett T d = g at hv
          cases hv <;> first | rfl | (rename_i b; cases b <;> cases want <;> rfl)

/-- One operation. -/
theorem opRun_wp (K : CfgOK P C) (hc : CallOK P call) {s s' : ASt} {w : World} {T : Tm} {a : Act} {o : Oper} {e : End} (R : Rel φ s.heap w) (TRa : TR φ N T a) (h : opRun C call T o s = some (e, s'))
    {K' : Act → World → Prop} {Q : Exit → Act → World → Prop}
    (hret : ∀ v φ' w' v', e = .ret v → Step φ s.heap w φ' s'.heap w' → VR φ' v v' → K' (a.put o.dst v') w')
    (hpan : ∀ v φ' w' v', e = .pan v → Step φ s.heap w φ' s'.heap w' → VR φ' v v' → Q (.panic [{ v := v', recovered := false }]) a w') : o.wp P a w K' Q := by
  unfold opRun at h
  unfold Oper.wp
  cases hr : aOp C T o.op s with
  | none => rw [hr] at h; cases h
  | some rs =>
    obtain ⟨r, s1⟩ := rs
    rw [hr] at h
    obtain ⟨φ1, w1, st, hres⟩ := aOp_ok K R TRa hr
    cases r with
    | val v =>
      simp at h
      obtain ⟨rfl, rfl⟩ := h
      obtain ⟨v', he, hv⟩ := hres
      rw [he]
      exact hret v φ1 w1 v' rfl st hv
    | unit =>
      simp at h
      obtain ⟨rfl, rfl⟩ := h
      have he : (execOp a.eval o).run P w = .ok .skip w1 := hres
      rw [he]
      exact hret undef φ1 w1 undef rfl st (.tuple .nil)
    | pan v =>
      simp at h
      obtain ⟨rfl, rfl⟩ := h
      obtain ⟨v', he, hv⟩ := hres
      rw [he]
      exact hpan v φ1 w1 v' rfl st hv
    | call f args =>
      simp only at h
      obtain ⟨args', he, hv⟩ := hres
      rw [he]
      simp only [Oper.upon]
      refine (hc f args s1 e s' h φ1 w1 args' st.rel hv).mono fun e' w' ⟨φ2, st2, hE⟩ => ?_
      cases hE with
      | ret hv2 => exact hret _ φ2 w' _ rfl (st.trans st2) hv2
      | pan hv2 => exact hpan _ φ2 w' _ rfl (st.trans st2) hv2

theorem aOps_wp (K : CfgOK P C) (hc : CallOK P call) (ops : Array Oper) : ∀ (rest : List Oper) (k : Nat) {φ : Phi} {s s' : ASt} {w : World} {T T' : Tm} {a : Act} {e : AExit} {Q : Exit → Act → World → Prop},
    rest = ops.toList.drop k → Rel φ s.heap w → TR φ N T a → a.defers = [] → aOps C call N ops.toList rest T s = some (e, T', s') → After φ s.heap w N e T' s'.heap Q →
    wpOps P ops Q (List.range' k rest.length) a w
  | [], k, φ, s, s', w, T, T', a, e, Q, hk, R, t, d, h, aft => by
    simp only [aOps, Option.some.injEq, Prod.mk.injEq] at h
    obtain ⟨rfl, rfl, rfl⟩ := h
    exact aft φ a w .normal (Step.refl R) t d .normal
  | o :: rest, k, φ, s, s', w, T, T', a, e, Q, hk, R, t, d, h, aft => by
    have ho : ops[k]? = some o := by
      have : ops.toList[k]? = some o := by
        have := congrArg (·[0]?) hk
        simpa using this.symm
      simpa using this
    have hrest : rest = ops.toList.drop (k + 1) := by
      have := congrArg List.tail hk
      simpa using this
    simp only [List.length_cons, List.range'_succ, wpOps, ho]
    rw [wanted_ok t]
    simp only [aOps] at h
    cases hw : wantedA ops.toList T o with
    | false =>
      rw [hw] at h
      simp only [cond_false] at h
      rw [if_neg (by simp)]
      cases hp : putT N T o.dst undef with
      | none => rw [hp] at h; cases h
      | some T1 =>
        rw [hp] at h
        exact aOps_wp K hc ops rest (k + 1) hrest R (t.put (.tuple .nil) hp) (by rw [put_defers]; exact d) h aft
    | true =>
      rw [hw] at h
      simp only [cond_true] at h
      rw [if_pos rfl]
      left
      cases hr : opRun C call T o s with
      | none => rw [hr] at h; cases h
      | some es =>
        obtain ⟨en, s1⟩ := es
        rw [hr] at h
        refine opRun_wp K hc R t hr ?_ ?_
        · intro v φ1 w1 v' he st hv
          subst he
          simp only at h
          cases hp : putT N T o.dst v with
          | none => rw [hp] at h; cases h
          | some T1 =>
            rw [hp] at h
            exact aOps_wp K hc ops rest (k + 1) hrest st.rel ((t.mono st.ext).put hv hp) (by rw [put_defers]; exact d) h (aft.step st)
        · intro v φ1 w1 v' he st hv
          subst he
          simp only [Option.some.injEq, Prod.mk.injEq] at h
          obtain ⟨rfl, rfl, rfl⟩ := h
          exact aft φ1 a w1 _ st (t.mono st.ext) d (.pan hv)

/-- What is to be shown of regions that draw their order. -/
def DrawOK (P : Program) (C : Cfg) (call : CallF) (N : Nat) : Prop := ∀ (ops : Array Oper) (id : Nat) {φ : Phi} {s s' : ASt} {w : World} {T T' : Tm} {a : Act} {e : AExit} {Q : Exit → Act → World → Prop},
    Rel φ s.heap w → TR φ N T a → a.defers = [] → aDraw C call N ops.toList T s = some (e, T', s') → After φ s.heap w N e T' s'.heap Q → (Code.region id ops true).wp P Q a w

theorem aCode_wp (K : CfgOK P C) (hc : CallOK P call) (hd : DrawOK P C call N) : ∀ (n : Nat),
    (∀ (c : Code) {φ : Phi} {s s' : ASt} {w : World} {T T' : Tm} {a : Act} {e : AExit} {Q : Exit → Act → World → Prop},
      Rel φ s.heap w → TR φ N T a → a.defers = [] → aCode C call N n c T s = some (e, T', s') → After φ s.heap w N e T' s'.heap Q → c.wp P Q a w) ∧
    (∀ (c : Code) {φ : Phi} {s s' : ASt} {w : World} {T T' : Tm} {a : Act} {e : AExit} {Q : Exit → Act → World → Prop},
      Rel φ s.heap w → TR φ N T a → a.defers = [] → aCode C call N n (.loop c) T s = some (e, T', s') → After φ s.heap w N e T' s'.heap Q → Code.rounds P c Q n a w)
  | 0 => ⟨fun c _ _ _ _ _ _ _ _ _ _ _ _ h => by simp [aCode] at h, fun c _ _ _ _ _ _ _ _ _ _ _ _ h => by simp [aCode] at h⟩
  | n + 1 => by
    obtain ⟨ih, ihl⟩ := aCode_wp K hc hd n
    have loops : ∀ (c : Code) {φ : Phi} {s s' : ASt} {w : World} {T T' : Tm} {a : Act} {e : AExit} {Q : Exit → Act → World → Prop},
      Rel φ s.heap w → TR φ N T a → a.defers = [] → aCode C call N (n + 1) (.loop c) T s = some (e, T', s') → After φ s.heap w N e T' s'.heap Q → Code.rounds P c Q (n + 1) a w := by
      intro c φ s s' w T T' a e Q R t d h aft
      rw [rounds_succ]
      simp only [aCode] at h
      cases hb : aCode C call N n c T s with
      | none => rw [hb] at h; cases h
      | some r =>
        obtain ⟨e1, T1, s1⟩ := r
        rw [hb] at h
        refine ih c R t d hb ?_
        intro φ1 a1 w1 e1' st t1 d1 x
        cases x with
        | normal => exact ihl c st.rel t1 d1 h (aft.step st)
        | exit id => simp only [Option.some.injEq, Prod.mk.injEq] at h; obtain ⟨rfl, rfl, rfl⟩ := h; exact aft _ _ _ _ st t1 d1 (.exit id)
        | goto l => simp only [Option.some.injEq, Prod.mk.injEq] at h; obtain ⟨rfl, rfl, rfl⟩ := h; exact aft _ _ _ _ st t1 d1 (.goto l)
        | ret => simp only [Option.some.injEq, Prod.mk.injEq] at h; obtain ⟨rfl, rfl, rfl⟩ := h; exact aft _ _ _ _ st t1 d1 .ret
        | pan hv => simp only [Option.some.injEq, Prod.mk.injEq] at h; obtain ⟨rfl, rfl, rfl⟩ := h; exact aft _ _ _ _ st t1 d1 (.pan hv)
    refine ⟨?_, loops⟩
    intro c φ s s' w T T' a e Q R t d h aft
    cases c with
    | loop c => exact wp_loop_rounds (n + 1) (loops c R t d h aft)
    | skip =>
      simp only [aCode, Option.some.injEq, Prod.mk.injEq] at h; obtain ⟨rfl, rfl, rfl⟩ := h
      exact wp_skip (aft _ _ _ _ (Step.refl R) t d .normal)
    | label l =>
      simp only [aCode, Option.some.injEq, Prod.mk.injEq] at h; obtain ⟨rfl, rfl, rfl⟩ := h
      exact wp_label (aft _ _ _ _ (Step.refl R) t d .normal)
    | ret =>
      simp only [aCode, Option.some.injEq, Prod.mk.injEq] at h; obtain ⟨rfl, rfl, rfl⟩ := h
      exact wp_ret (aft _ _ _ _ (Step.refl R) t d .ret)
    | exit id =>
      simp only [aCode, Option.some.injEq, Prod.mk.injEq] at h; obtain ⟨rfl, rfl, rfl⟩ := h
      exact wp_exit (aft _ _ _ _ (Step.refl R) t d (.exit id))
    | region id ops dr =>
      simp only [aCode] at h
      cases dr with
      | true => exact hd ops id R t d h aft
      | false =>
        simp only [cond_false] at h
        refine wp_region ?_
        have := aOps_wp K hc ops ops.toList 0 rfl R t d h aft
        rwa [Array.length_toList, ← List.range_eq_range'] at this
    | seq x y =>
      simp only [aCode] at h
      cases hb : aCode C call N n x T s with
      | none => rw [hb] at h; cases h
      | some r =>
        obtain ⟨e1, T1, s1⟩ := r
        rw [hb] at h
        refine wp_seq (ih x R t d hb ?_)
        intro φ1 a1 w1 e1' st t1 d1 z
        cases z with
        | normal => exact ih y st.rel t1 d1 h (aft.step st)
        | exit id => simp only [Option.some.injEq, Prod.mk.injEq] at h; obtain ⟨rfl, rfl, rfl⟩ := h; exact aft _ _ _ _ st t1 d1 (.exit id)
        | goto l => simp only [Option.some.injEq, Prod.mk.injEq] at h; obtain ⟨rfl, rfl, rfl⟩ := h; exact aft _ _ _ _ st t1 d1 (.goto l)
        | ret => simp only [Option.some.injEq, Prod.mk.injEq] at h; obtain ⟨rfl, rfl, rfl⟩ := h; exact aft _ _ _ _ st t1 d1 .ret
        | pan hv => simp only [Option.some.injEq, Prod.mk.injEq] at h; obtain ⟨rfl, rfl, rfl⟩ := h; exact aft _ _ _ _ st t1 d1 (.pan hv)
    | cond c x y =>
      simp only [aCode] at h
      cases he : ev T c with
      | none => rw [he] at h; cases h
      | some v =>
        rw [he] at h
        have hv := ev_ok t he
        generalize hq : a.eval c = q at hv
        cases hv <;> try (cases h; done)
        rename_i b
        cases b with
        | true => exact wp_cond_true hq (ih x R t d h aft)
        | false => exact wp_cond_false hq (ih y R t d h aft)
    | block id b =>
      simp only [aCode] at h
      cases hb : aCode C call N n b T s with
      | none => rw [hb] at h; cases h
      | some r =>
        obtain ⟨e1, T1, s1⟩ := r
        rw [hb] at h
        refine wp_block (ih b R t d hb ?_)
        intro φ1 a1 w1 e1' st t1 d1 z
        cases z with
        | normal => simp only [Option.some.injEq, Prod.mk.injEq] at h; obtain ⟨rfl, rfl, rfl⟩ := h; exact aft _ _ _ _ st t1 d1 .normal
        | exit i =>
          simp only [Option.some.injEq, Prod.mk.injEq] at h
          obtain ⟨he, rfl, rfl⟩ := h
          cases hq : Nat.beq i id with
          | true =>
            rw [hq] at he
            simp only [cond_true] at he
            have := Nat.eq_of_beq_eq_true hq
            subst this
            subst he
            simp only [Exit.inBlock, if_true]
            exact aft _ _ _ _ st t1 d1 .normal
          | false =>
            rw [hq] at he
            simp only [cond_false] at he
            have : ¬ i = id := fun q => by subst q; simp at hq
            subst he
            simp only [Exit.inBlock, if_neg this]
            exact aft _ _ _ _ st t1 d1 (.exit i)
        | goto l => simp only [Option.some.injEq, Prod.mk.injEq] at h; obtain ⟨rfl, rfl, rfl⟩ := h; exact aft _ _ _ _ st t1 d1 (.goto l)
        | ret => simp only [Option.some.injEq, Prod.mk.injEq] at h; obtain ⟨rfl, rfl, rfl⟩ := h; exact aft _ _ _ _ st t1 d1 .ret
        | pan hv => simp only [Option.some.injEq, Prod.mk.injEq] at h; obtain ⟨rfl, rfl, rfl⟩ := h; exact aft _ _ _ _ st t1 d1 (.pan hv)
    | _ => simp [aCode] at h
end
end Go.Eng
