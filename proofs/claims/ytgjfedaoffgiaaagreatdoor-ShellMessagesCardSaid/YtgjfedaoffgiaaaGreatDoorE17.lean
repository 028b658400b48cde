/-
  Each operation of the evaluator tells what the machine's operation does: the whole of it.
-/
import Derived.Test.YtgjfedaoffgiaaaGreatDoorE16
namespace Go.Eng
section
variable {P : Program} {C : Cfg} {φ : Phi} {s s' : ASt} {w : World} {N : Nat} {T : Tm} {a : Act}

theorem aMinMax_go_ok (isMax : Bool) : ∀ {l : List Value} {l' : List Value} {k : IntKind} {n : Int} {v : Value}, VRs φ l l' → aMinMax.go isMax k n l = some v →
    VR φ v v ∧ (l'.foldlM (bif isMax then Builtin.max2 else Builtin.min2) (.int k n)).run P w = .ok v w
  | [], _, k, n, v, .nil, h => by simp [aMinMax.go] at h; subst h; exact ⟨.int _ _, by simp⟩
  | x :: l, _, k, n, v, .cons hx t, h => by
    cases hx <;> simp only [aMinMax.go] at h <;> try (cases h; done)
    rename_i k' m
    split at h
    · rename_i e; subst e
      obtain ⟨h1, h2⟩ := aMinMax_go_ok isMax t h
      refine ⟨h1, ?_⟩
      cases isMax with
      | true =>
        simp only [cond_true] at h2 ⊢
        simp only [List.foldlM_cons, Builtin.max2, pure_bind]
        exact h2
      | false =>
        simp only [cond_false] at h2 ⊢
        simp only [List.foldlM_cons, Builtin.min2, pure_bind]
        exact h2
    · cases h
theorem aMinMax_ok {isMax : Bool} {l l' : List Value} {v : Value} (hl : VRs φ l l') (h : aMinMax isMax l = some v) (ts : Array TypeId) (ty : TypeId) :
    VR φ v v ∧ ((bif isMax then Builtin.max_ ts ty l'.toArray else Builtin.min_ ts ty l'.toArray)).run P w = .ok v w := by
  cases hl with
  | nil => simp [aMinMax] at h
  | cons hx t =>
    cases hx <;> simp only [aMinMax] at h <;> try (cases h; done)
    obtain ⟨h1, h2⟩ := aMinMax_go_ok (P := P) (w := w) isMax t h
    refine ⟨h1, ?_⟩
    cases isMax with
    | true => simpa [Builtin.max_] using h2
    | false => simpa [Builtin.min_] using h2

theorem run_valM (m : Sem Value) (w : World) : (do pure (Next.value (← m)) : Sem Next).run P w = (m.run P w).andThen fun v w' => .ok (.value v) w' := by simp
theorem list1 {α : Type} {A : Array α} {x : α} (h : A.toList = [x]) : A = #[x] := by cases A; simp at h; rw [h]
theorem list2 {α : Type} {A : Array α} {x y : α} (h : A.toList = [x, y]) : A = #[x, y] := by cases A; simp at h; rw [h]

theorem aBuiltin_ok (K : CfgOK P C) (R : Rel φ s.heap w) {b : Builtin} {ts : Array TypeId} {ty : TypeId} {cs : Array Bool} {args : List Value} {args' : Array Value} {r : Go.Eng.R} (ha : VRs φ args args'.toList) (h : aBuiltin C b ts.toList args s = some (r, s')) :
    OpOK P φ s.heap w r s'.heap (builtin b ts ty cs args') := by
  have done : ∀ {m : Sem Value}, (∃ v, r = .val v ∧ ValOK P φ s.heap w v s'.heap m) → OpOK P φ s.heap w r s'.heap (do pure (.value (← m))) := fun h => OpOK.of_val h
  cases b
  case len =>
    cases hts : ts.toList with
    | nil => rw [hts] at h; simp [aBuiltin, M.fail] at h
    | cons t tl =>
    cases tl with
    | cons _ _ => rw [hts] at h; simp [aBuiltin, M.fail] at h
    | nil =>
    rw [hts] at h
    generalize hA : args'.toList = l at ha
    cases ha with
    | nil => simp [aBuiltin, M.fail] at h
    | cons hx tt =>
    cases tt with
    | cons _ _ => simp [aBuiltin, M.fail] at h
    | nil =>
    obtain rfl := list1 hA
    obtain rfl := list1 hts
    exact done (aLen_ok (ty := ty) K R rfl hx h)
  case append =>
    cases hts : ts.toList with
    | nil => rw [hts] at h; simp [aBuiltin, M.fail] at h
    | cons t tl =>
    cases tl with
    | nil => rw [hts] at h; simp [aBuiltin, M.fail] at h
    | cons t2 tl =>
    cases tl with
    | cons _ _ => rw [hts] at h; simp [aBuiltin, M.fail] at h
    | nil =>
    rw [hts] at h
    generalize hA : args'.toList = l at ha
    cases ha with
    | nil => simp [aBuiltin, M.fail] at h
    | cons hx tt =>
    cases tt with
    | nil => simp [aBuiltin, M.fail] at h
    | cons hy tt =>
    cases tt with
    | cons _ _ => simp [aBuiltin, M.fail] at h
    | nil =>
    obtain rfl := list2 hA
    obtain rfl := list2 hts
    exact done (aAppend_ok (ty := ty) K R hx hy h)
  case delete =>
    cases hts : ts.toList with
    | nil => rw [hts] at h; simp [aBuiltin, M.fail] at h
    | cons t tl =>
    rw [hts] at h
    generalize hA : args'.toList = l at ha
    cases ha with
    | nil => simp [aBuiltin, M.fail] at h
    | cons hx tt =>
    cases tt with
    | nil => simp [aBuiltin, M.fail] at h
    | cons hy tt =>
    cases tt with
    | cons _ _ => simp [aBuiltin, M.fail] at h
    | nil =>
    obtain rfl := list2 hA
    have ht : ts[0]? = some t := by rw [← Array.getElem?_toList, hts]; rfl
    exact done (aDelete_ok (ty := ty) K R ht hx hy h)
  case max =>
    obtain ⟨v, hv, rfl, rfl⟩ := valO_ok (o := aMinMax true args) (by cases ts.toList <;> exact h)
    obtain ⟨h1, h2⟩ := aMinMax_ok (P := P) (w := w) ha hv ts ty
    exact done ⟨_, rfl, .here R (by simpa using h2) h1⟩
  case min =>
    obtain ⟨v, hv, rfl, rfl⟩ := valO_ok (o := aMinMax false args) (by cases ts.toList <;> exact h)
    obtain ⟨h1, h2⟩ := aMinMax_ok (P := P) (w := w) ha hv ts ty
    exact done ⟨_, rfl, .here R (by simpa using h2) h1⟩
  case panic =>
    have hp : ∃ t v, args = [.iface t v] ∧ r = .pan (.iface t v) ∧ s' = s := by
      rcases args with _ | ⟨x, _ | ⟨y, tl⟩⟩
      · simp [aBuiltin, M.fail] at h
      · cases x <;> simp [aBuiltin, M.fail, M.ret] at h
        exact ⟨_, _, rfl, h.1.symm, h.2.symm⟩
      · simp [aBuiltin, M.fail] at h
    obtain ⟨t, v, rfl, rfl, rfl⟩ := hp
    generalize hA : args'.toList = l at ha
    cases ha with
    | cons hx tt =>
    cases tt
    obtain rfl := list1 hA
    cases hx with
    | iface _ hv =>
    exact ⟨φ, w, Step.refl R, _, by simp [builtin, Instr.panic, goPanic, Sem.run], .iface t hv⟩
  all_goals (simp [aBuiltin, M.fail] at h)

theorem callOf_ok (K : CfgOK P C) (R : Rel φ s.heap w) {args : List Value} {args' : Array Value} {f f' : Value} {r : Go.Eng.R} (hf : VR φ f f') (ha : VRs φ args args'.toList) (h : callOf C args f = some r) :
    OpOK P φ s.heap w r s.heap (do let d ← Deferred.ofValue f' args'; invoke d.target d.args) := by
  cases hf <;> simp only [callOf] at h <;> try (cases h; done)
  rename_i g fs cs fs' cs' hfs hcs
  cases hi : C.fn g with
  | none => rw [hi] at h; cases h
  | some fn =>
  rw [hi] at h
  simp only at h
  cases hb : fn.body with
  | none =>
    rw [hb] at h
    simp only at h
    cases hx : C.ext g with
    | none => rw [hx] at h; cases h
    | some e =>
    rw [hx] at h
    simp only at h
    cases hv : e (fs.toList ++ args ++ cs.toList) with
    | none => rw [hv] at h; cases h
    | some v =>
    rw [hv] at h
    simp at h; subst h
    obtain ⟨v', h1, h2⟩ := K.ext g e hx _ v hv φ (fs' ++ args' ++ cs') w (by simp only [Array.toList_append]; exact (hfs.append ha).append hcs)
    exact ⟨φ, w, Step.refl R, v', by simpa [Deferred.ofValue, invoke, Array.append_assoc] using h2, h1⟩
  | some body =>
  rw [hb] at h
  simp at h; subst h
  obtain ⟨q1, q2⟩ := K.fn _ _ hi
  have hrun : ∀ A : Array Value, (callFunc g A).run P w = .ok (.enter g A) w := fun A => by simp only [callFunc, Sem.run_bind, run_program, Result.andThen_ok, q1, q2, hb]; simp
  refine ⟨φ, w, Step.refl R, fs' ++ args' ++ cs', ?_, ?_⟩
  · simp [Deferred.ofValue, invoke, hrun]
  · simp only [Array.toList_append]
    simpa using (hfs.append ha).append hcs
theorem aCallOp_ok (K : CfgOK P C) (R : Rel φ s.heap w) (TRa : TR φ N T a) {c : Call} {ty : TypeId} {r : Go.Eng.R} (h : aCallOp C T c s = some (r, s')) :
    OpOK P φ s.heap w r s'.heap (do let d ← resolve a.eval c ty; invoke d.target d.args) := by
  unfold aCallOp at h
  cases he : evs T c.args.toList with
  | none => rw [he] at h; exact (fail_ok h).elim
  | some args =>
  rw [he] at h
  simp only at h
  have ha : VRs φ args (c.args.map a.eval).toList := by rw [Array.toList_map]; exact evs_ok TRa he
  cases hc : c.callee with
  | builtin b =>
    rw [hc] at h
    have := aBuiltin_ok (ts := c.argTypes) (ty := ty) (cs := c.args.map fun | .const _ => true | _ => false) K R ha h
    simp only [resolve, hc, pure_bind, invoke]
    exact this
  | value f =>
    rw [hc] at h
    simp only at h
    cases hf : ev T f with
    | none => rw [hf] at h; exact (fail_ok h).elim
    | some v =>
    rw [hf] at h
    obtain ⟨h1, rfl⟩ := lift_ok h
    have := callOf_ok K R (ev_ok TRa hf) ha h1
    simp only [resolve, hc]
    exact this
  | invoke x y => rw [hc] at h; exact (fail_ok h).elim

theorem aOp_ok (K : CfgOK P C) (R : Rel φ s.heap w) (TRa : TR φ N T a) {o : Oper} {r : Go.Eng.R} (h : aOp C T o.op s = some (r, s')) :
    OpOK P φ s.heap w r s'.heap (execOp a.eval o) := by
  obtain ⟨dst, op, type, pos, after, guard⟩ := o
  cases op <;> simp only [aOp] at h <;> try (exact (fail_ok h).elim)
  case move x =>
    obtain ⟨v, hv, rfl, rfl⟩ := valO_ok h
    exact ⟨φ, w, Step.refl R, _, rfl, ev_ok TRa hv⟩
  case assign x =>
    obtain ⟨v, hv, rfl, rfl⟩ := valO_ok h
    exact ⟨φ, w, Step.refl R, _, rfl, ev_ok TRa hv⟩
  case pick c x y =>
    obtain ⟨v, hv, h⟩ := with1_ok TRa h
    cases v <;> try (exact (fail_ok h).elim)
    rename_i b
    generalize hq : a.eval c = q at hv
    cases hv
    cases b
    · obtain ⟨v, hv, rfl, rfl⟩ := valO_ok h
      exact ⟨φ, w, Step.refl R, _, by simp [execOp, hq, asBool], ev_ok TRa hv⟩
    · obtain ⟨v, hv, rfl, rfl⟩ := valO_ok h
      exact ⟨φ, w, Step.refl R, _, by simp [execOp, hq, asBool], ev_ok TRa hv⟩
  case alloc t =>
    cases hi : C.ti t with
    | none => rw [hi] at h; exact (fail_ok h).elim
    | some ti =>
    rw [hi] at h
    exact OpOK.of_val (aAlloc_ok K R hi h)
  case box t x =>
    obtain ⟨v, hv, h⟩ := with1_ok TRa h
    exact OpOK.of_val (aBox_ok R hv h)
  case build t ps =>
    cases he : evps T ps.toList with
    | none => rw [he] at h; exact (fail_ok h).elim
    | some l =>
    rw [he] at h
    exact OpOK.of_val (aBuild_ok K R (by rw [Array.toList_map]; exact evps_ok TRa he) h)
  case buildSlice t n ps =>
    cases he : evps T ps.toList with
    | none => rw [he] at h; exact (fail_ok h).elim
    | some l =>
    rw [he] at h
    exact OpOK.of_val (aBuildSlice_ok K R (by rw [Array.toList_map]; exact evps_ok TRa he) h)
  case insert t m k v =>
    obtain ⟨m', k', hm, hk, h⟩ := with2_ok TRa h
    obtain ⟨v', hv, h⟩ := with1_ok TRa h
    exact OpOK.of_unit (aUpdate_ok K R hm hk hv h)
  case load t x =>
    obtain ⟨v, hv, h⟩ := with1_ok TRa h
    exact OpOK.of_val (aLoad_ok K R hv h)
  case store t x y =>
    obtain ⟨p, v, hp, hv, h⟩ := with2_ok TRa h
    exact OpOK.of_unit (aStore_ok K R hp hv h)
  case nilCheck x =>
    obtain ⟨v, hv, h⟩ := with1_ok TRa h
    obtain ⟨u, hu, rfl, rfl⟩ := valO_ok h
    generalize hq : a.eval x = q at hv
    cases hv <;> simp only [aNil] at hu <;> try (cases hu; done)
    · rename_i b o l hl
      simp at hu; subst hu
      exact ⟨φ, w, Step.refl R, _, by simp only [execOp, hq]; rfl, .ptr hl⟩
    · rename_i g f c f' c' hf hc
      simp at hu; subst hu
      exact ⟨φ, w, Step.refl R, _, by simp only [execOp, hq]; rfl, .func g hf hc⟩
  case binOp op t x y t2 =>
    obtain ⟨u, v, hu, hv, h⟩ := with2_ok TRa h
    exact OpOK.of_val (aBin_ok K R hu hv h)
  case unOp op t x =>
    obtain ⟨v, hv, h⟩ := with1_ok TRa h
    generalize hq : a.eval x = q at hv
    cases hv <;> try (exact (fail_ok h).elim)
    all_goals
      obtain ⟨u, hu, rfl, rfl⟩ := valO_ok h
      obtain ⟨q1, q2⟩ := pureOf_ok (P := P) hu w
      exact ⟨φ, w, Step.refl R, u, by simp only [execOp, hq, Sem.run_bind, q1, Result.andThen_ok]; rfl, VR.okc q2⟩
  case convert t1 t2 x =>
    obtain ⟨v, hv, h⟩ := with1_ok TRa h
    exact OpOK.of_val (aConvert_ok K R hv h)
  case makeInterface t x =>
    obtain ⟨v, hv, h⟩ := with1_ok TRa h
    exact OpOK.of_val (aMakeIface_ok K R hv h)
  case makeFunc fn first cap =>
    cases fn <;> try (exact (fail_ok h).elim)
    rename_i g
    simp only at h
    cases h1 : evs T first.toList with
    | none => rw [h1] at h; exact (fail_ok h).elim
    | some f =>
    cases h2 : evs T cap.toList with
    | none => rw [h1, h2] at h; exact (fail_ok h).elim
    | some c =>
    rw [h1, h2] at h
    obtain ⟨rfl, rfl⟩ := val_ok h
    refine ⟨φ, w, Step.refl R, .func (.func g) (first.map a.eval) (cap.map a.eval), by simp [execOp, Instr.makeFunc], .func g ?_ ?_⟩
    · rw [Array.toList_map]; simpa using evs_ok TRa h1
    · rw [Array.toList_map]; simpa using evs_ok TRa h2
  case makeMap t rs =>
    cases rs with
    | some _ => exact (fail_ok h).elim
    | none =>
    obtain ⟨b, s1, h1, h2⟩ := bind_ok h
    obtain ⟨g, e1⟩ := nw_ok h1
    obtain ⟨rfl, rfl⟩ := val_ok h2
    refine ⟨upd φ b ⟨w.heap.size, 0, 0⟩, w.alloc (.map #[] 0), ?_, .map (some w.heap.size), ?_, .map (upd_same φ b ⟨w.heap.size, 0, 0⟩)⟩
    · rw [e1]
      refine Step.alloc R g rfl ⟨rfl, #[], ?_, .nil⟩
      show (w.heap.push _)[w.heap.size]? = _
      rw [Array.getElem?_push, if_pos rfl]
    · simp [execOp, Instr.makeMap]
  case makeSlice t n c =>
    obtain ⟨u, v, hu, hv, h⟩ := with2_ok TRa h
    exact OpOK.of_val (aMakeSlice_ok K R hu hv h)
  case slice t x lo hi mx =>
    cases mx with
    | some _ => exact (fail_ok h).elim
    | none =>
    simp only at h
    cases h1 : evo T lo with
    | none => rw [h1] at h; exact (fail_ok h).elim
    | some lo' =>
    cases h2 : evo T hi with
    | none => rw [h1, h2] at h; exact (fail_ok h).elim
    | some hi' =>
    rw [h1, h2] at h
    obtain ⟨v, hv, h⟩ := with1_ok TRa h
    exact OpOK.of_val (aSlice_ok K R hv (evo_ok TRa h1) (evo_ok TRa h2) h)
  case fieldAddr t x k =>
    obtain ⟨v, hv, h⟩ := with1_ok TRa h
    exact OpOK.of_val (aFieldAddr_ok K R hv h)
  case field t x k =>
    obtain ⟨v, hv, h⟩ := with1_ok TRa h
    exact OpOK.of_val (aField_ok K R hv h)
  case indexAddr t x i =>
    obtain ⟨u, v, hu, hv, h⟩ := with2_ok TRa h
    exact OpOK.of_val (aIndexAddr_ok K R hu hv h)
  case index t x i =>
    obtain ⟨u, v, hu, hv, h⟩ := with2_ok TRa h
    exact OpOK.of_val (aIndex_ok K R hu hv h)
  case lookup t x k ok =>
    obtain ⟨u, v, hu, hv, h⟩ := with2_ok TRa h
    exact OpOK.of_val (aLookup_ok K R hu hv h)
  case mapUpdate t m k v =>
    obtain ⟨m', k', hm, hk, h⟩ := with2_ok TRa h
    obtain ⟨v', hv, h⟩ := with1_ok TRa h
    exact OpOK.of_unit (aUpdate_ok K R hm hk hv h)
  case range t x =>
    obtain ⟨v, hv, h⟩ := with1_ok TRa h
    exact OpOK.of_val (aRange_ok K R hv h)
  case next x isS =>
    obtain ⟨v, hv, h⟩ := with1_ok TRa h
    exact OpOK.of_val (aNext_ok R hv h)
  case typeAssert x xt t ok =>
    obtain ⟨v, hv, h⟩ := with1_ok TRa h
    exact OpOK.of_val (aAssert_ok K R hv h)
  case extract x i =>
    obtain ⟨v, hv, h⟩ := with1_ok TRa h
    generalize hq : a.eval x = q at hv
    cases hv <;> try (exact (fail_ok h).elim)
    rename_i c c' hc
    obtain ⟨u, hu, rfl, rfl⟩ := valO_ok h
    obtain ⟨u', h1, h2⟩ := hc.get _ _ hu
    exact ⟨φ, w, Step.refl R, u', by simp [execOp, hq, Instr.extract, show c'[i]? = some u' by simpa using h1], h2⟩
  case call c =>
    exact aCallOp_ok K R TRa h
  case panic x =>
    obtain ⟨v, hv, h⟩ := with1_ok TRa h
    generalize hq : a.eval x = q at hv
    cases hv <;> try (exact (fail_ok h).elim)
    rename_i t v v' hv
    obtain ⟨rfl, rfl⟩ := ret_ok h
    exact ⟨φ, w, Step.refl R, .iface t v', by simp [execOp, hq, Instr.panic, goPanic, Sem.run], .iface t hv⟩
end
end Go.Eng
