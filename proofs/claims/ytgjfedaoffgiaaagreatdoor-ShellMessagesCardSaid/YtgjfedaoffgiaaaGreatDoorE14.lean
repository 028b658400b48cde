/-
  Each operation of the evaluator tells what the machine's operation does: comparisons, arithmetic, the built-in functions.
-/
import Derived.Test.YtgjfedaoffgiaaaGreatDoorE13
namespace Go.Eng
section
variable {P : Program} {C : Cfg} {φ : Phi} {s s' : ASt} {w : World}

theorem lift_ok {α : Type} {o : Option α} {r : α} (h : M.lift o s = some (r, s')) : o = some r ∧ s' = s := by
  unfold M.lift at h
  cases o with
  | none => simp at h
  | some a => simp at h; exact ⟨by rw [h.1], h.2.symm⟩
theorem pureOf_ok {m : Sem Value} {v : Value} (h : pureOf m = some v) (w : World) : m.run P w = .ok v w ∧ okc v = true := by
  unfold pureOf at h
  split at h
  · rename_i a
    cases hc : okc a with
    | false => rw [hc] at h; cases h
    | true => rw [hc] at h; simp at h; subst h; exact ⟨rfl, hc⟩
  · cases h

theorem eqFs_ok (K : CfgOK P C) {D : Nat} {eq : Nat → Value → Value → Option Bool} {xs ys : List Value} {xs' ys' : Array Value} (hx : VRs φ xs xs'.toList) (hy : VRs φ ys ys'.toList)
    (heq : ∀ t x y x' y' b, eq t x y = some b → VR φ x x' → VR φ y y' → (Op.equalIn D t x' y').run P w = .ok b w) :
    ∀ {fields : List Field} {b : Bool}, eqFs C eq (fields.map toFI) xs ys = some b → (Op.eqFields D xs' ys' fields).run P w = .ok b w
  | [], b, h => by simp [eqFs] at h; subst h; simp [Op.eqFields]
  | f :: fs, b, h => by
    simp only [List.map_cons, eqFs] at h
    cases hb : (toFI f).blank with
    | true =>
      rw [hb] at h
      simp only [cond_true] at h
      have hn : ¬ f.name ≠ "_" := by simp [toFI] at hb; simp [hb]
      rw [Op.eqFields, if_neg hn]
      exact eqFs_ok K hx hy heq h
    | false =>
      rw [hb] at h
      simp only [cond_false] at h
      have hn : f.name ≠ "_" := by simpa [toFI] using hb
      cases ha : partA C (toFI f).ty xs (toFI f).off with
      | none => rw [ha] at h; cases h
      | some a =>
      cases hc : partA C (toFI f).ty ys (toFI f).off with
      | none => rw [ha, hc] at h; cases h
      | some c =>
      rw [ha, hc] at h
      simp only at h
      obtain ⟨a', p1, p2⟩ := partA_ok K hx ha w
      obtain ⟨c', p3, p4⟩ := partA_ok K hy hc w
      cases hq : eq (toFI f).ty a c with
      | none => rw [hq] at h; cases h
      | some q =>
      rw [hq] at h
      have hr := heq _ _ _ _ _ _ hq p2 p4
      have p1 : (part f.type xs' f.offset).run P w = .ok a' w := p1
      have p3 : (part f.type ys' f.offset).run P w = .ok c' w := p3
      have hr : (Op.equalIn D f.type a' c').run P w = .ok q w := hr
      rw [Op.eqFields, if_pos hn]
      cases q with
      | true =>
        simp only at h
        have := eqFs_ok K hx hy heq h
        simp [p1, p3, hr, this]
      | false =>
        simp at h; subst h
        simp [p1, p3, hr]

set_option maxHeartbeats 4000000 in
theorem eqA_ok (K : CfgOK P C) : ∀ {d D t : Nat} {x y x' y' : Value} {b : Bool}, d ≤ D → eqA C d t x y = some b → VR φ x x' → VR φ y y' → (Op.equalIn D t x' y').run P w = .ok b w
  | 0, _, _, _, _, _, _, _, _, h, _, _ => by simp [eqA] at h
  | d + 1, 0, _, _, _, _, _, _, hD, _, _, _ => by omega
  | d + 1, D + 1, t, x, y, x', y', b, hD, h, hx, hy => by
    unfold eqA at h
    cases hi : C.ti t with
    | none => rw [hi] at h; cases h
    | some ti =>
    rw [hi] at h
    simp only at h
    have T := K.ti _ _ hi
    obtain ⟨ds, hd, hu⟩ := T.und
    cases hU : ti.u <;> rw [hU] at h hu
    case struct fs =>
      cases hx <;> try (cases h; done)
      case agg c c' hc =>
        cases hy <;> try (cases h; done)
        case agg e e' he =>
          simp only at h
          cases hq : ti.eqok with
          | false => rw [hq] at h; cases h
          | true =>
            rw [hq] at h
            simp only [cond_true] at h
            obtain ⟨fields, rfl, rfl⟩ := toU_struct hu
            have hfo : P.fieldsOf t = fields := by simp [Program.fieldsOf, hd]
            rw [run_equalIn_struct w D t c' e' (by rw [hfo]; exact hd) (T.eq hq).1, hfo]
            exact eqFs_ok K hc he (fun t x y x' y' b h1 h2 h3 => eqA_ok K (by omega) h1 h2 h3) h
    case bool =>
      have hds : ds = .bool := by cases ds <;> simp [toU] at hu; rfl
      subst hds
      cases hx <;> try (cases h; done)
      all_goals (cases hy <;> first | (cases h; done) | (simp at h; subst h; simp [Op.equalIn, run_underlying hd]))
    case int k =>
      obtain rfl := toU_int hu
      cases hx <;> try (cases h; done)
      cases hy <;> try (cases h; done)
      simp only at h
      split at h
      · rename_i e; subst e; simp at h; subst h; simp [Op.equalIn, run_underlying hd]
      · cases h
    case str =>
      obtain rfl := toU_str hu
      cases hx <;> try (cases h; done)
      all_goals (cases hy <;> first | (cases h; done) | (simp at h; subst h; simp [Op.equalIn, run_underlying hd]))
    case ptr e =>
      obtain rfl := toU_ptr hu
      cases hx <;> try (cases h; done)
      all_goals (cases hy <;> first | (cases h; done) | (simp at h; subst h; simp [Op.equalIn, run_underlying hd]))
    case slice e =>
      obtain rfl := toU_slice hu
      cases hx <;> try (cases h; done)
      all_goals (cases hy <;> first | (cases h; done) | (simp at h; subst h; simp [Op.equalIn, run_underlying hd]))
    case map k e =>
      obtain rfl := toU_map hu
      cases hx <;> try (cases h; done)
      all_goals (cases hy <;> first | (cases h; done) | (simp at h; subst h; simp [Op.equalIn, run_underlying hd]))
    case iface =>
      have hds : ∃ ms, ds = .interface ms := by cases ds <;> simp [toU] at hu; exact ⟨_, rfl⟩
      obtain ⟨ms, rfl⟩ := hds
      cases hx <;> try (cases h; done)
      all_goals (cases hy <;> first | (cases h; done) | (simp at h; subst h; simp [Op.equalIn, run_underlying hd]))
    case fn =>
      have hds : ∃ a b c, ds = .func a b c := by cases ds <;> simp [toU] at hu; exact ⟨_, _, _, rfl⟩
      obtain ⟨_, _, _, rfl⟩ := hds
      cases hx <;> try (cases h; done)
      all_goals (cases hy <;> first | (cases h; done) | (simp at h; subst h; simp [Op.equalIn, run_underlying hd]))
    all_goals (first | (cases h; done) | (cases hx <;> first | (cases h; done) | (cases hy <;> cases h)))
end
end Go.Eng
