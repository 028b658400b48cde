/-
  Regions that draw their order: whatever the order, it ends as in the text's order.
-/
import Derived.Test.YtgjfedaoffgiaaaGreatDoorE25
namespace Go.Eng
theorem touches_no {a b : Foot} (h : touches a b = false) :
    (∀ id x, (id, true) ∈ a.log → (id, x) ∈ b.log → False) ∧ (∀ id x, (id, x) ∈ a.log → (id, true) ∈ b.log → False) ∧ (∀ id x, a.lo ≤ id → id < a.hi → (id, x) ∈ b.log → False) := by
  have key : clashes a.log b.log = false ∧ (b.log.any fun y => Nat.ble a.lo y.1 && Nat.blt y.1 a.hi) = false := by simpa only [touches, Bool.or_eq_false_iff] using h
  refine ⟨fun id x ha hb => ?_, fun id x ha hb => ?_, fun id x ha hb hc => ?_⟩
  · have : clashes a.log b.log = true := by
      unfold clashes
      rw [List.any_eq_true]
      exact ⟨_, ha, by rw [List.any_eq_true]; exact ⟨_, hb, by simp⟩⟩
    rw [key.1] at this; cases this
  · have : clashes a.log b.log = true := by
      unfold clashes
      rw [List.any_eq_true]
      exact ⟨_, ha, by rw [List.any_eq_true]; exact ⟨_, hb, by simp⟩⟩
    rw [key.1] at this; cases this
  · have : (b.log.any fun y => Nat.ble a.lo y.1 && Nat.blt y.1 a.hi) = true := by
      rw [List.any_eq_true]
      exact ⟨_, hc, by simp [ha, hb]⟩
    rw [key.2] at this; cases this
theorem apartT_ok {all : List Oper} {x y : Oper} (h : apartT all x y = true) :
    (∀ d, x.dst = some d → d ∉ looks all y) ∧ (∀ d, x.dst = some d → y.dst ≠ some d) ∧ (∀ d, y.dst = some d → d ∉ looks all x) := by
  unfold apartT at h
  simp only [Bool.and_eq_true] at h
  refine ⟨fun d hd => ?_, fun d hd q => ?_, fun d hd => ?_⟩
  · rw [hd] at h
    simp only [Bool.and_eq_true, Bool.not_eq_true'] at h
    intro q
    have := memN_iff.2 q
    rw [this] at h
    exact Bool.noConfusion h.1.1
  · rw [hd, q] at h
    simp at h
  · rw [hd] at h
    simp only [Bool.not_eq_true'] at h
    intro q
    have := memN_iff.2 q
    rw [this] at h
    exact Bool.noConfusion h.2
section
variable {C : Cfg} {call : CallF} {N : Nat} {all : List Oper} {X : Lex}
theorem Told.apart (D : Told C call N all X) {j k : Nat} {oj ok : Oper} (h : j < k) (hj : all[j]? = some oj) (hk : all[k]? = some ok) (ha : j ∉ anc all all.length k) :
    touches (X.foot j) (X.foot k) = false ∧ apartT all oj ok = true := by
  have := D.free j k h (List.getElem?_eq_some_iff.1 hk).1
  unfold Go.Eng.free at this
  simp only [Lex.foot, hj, hk, Bool.or_eq_true, Bool.and_eq_true, Bool.not_eq_true'] at this
  rcases this with q | q
  · exact absurd (memN_iff.1 q) ha
  · exact q
/-- One step, out of whatever order. -/
theorem Told.one (D : Told C call N all X) {L L' : Nat → Prop} {T : Tm} {H : Tr AObj} (I : Inv all X L T H) {i : Nat} {o : Oper} (hi : all[i]? = some o) (hLi : ¬ L i)
    (hcl : ∀ j o, all[j]? = some o → L j → ∀ x ∈ direct o, L x) (hdi : ∀ x ∈ direct o, L x) (hL' : ∀ j, L' j ↔ L j ∨ j = i) :
    ∃ t' T', runW C call all T o ⟨H, X.n i, X.n i, []⟩ = some (.ret (X.v i), t') ∧ putT N T o.dst (X.v i) = some T' ∧ Inv all X L' T' t'.heap := by
  have hilt : i < all.length := (List.getElem?_eq_some_iff.1 hi).1
  have l := D.loc i o hi
  have lx := D.lex i (by omega)
  -- of each other one: it stands on the same side in both orders, or they do not meet
  have before : ∀ j oj, all[j]? = some oj → j < i → ¬ L j → touches (X.foot j) (X.foot i) = false ∧ apartT all oj o = true := fun j oj hj hji hnl =>
    D.apart hji hj hi fun q => hnl (anc_closed hcl _ _ _ q fun o' ho' => by rw [hi] at ho'; cases ho'; exact hdi)
  have behind : ∀ j oj, all[j]? = some oj → i < j → L j → touches (X.foot i) (X.foot j) = false ∧ apartT all o oj = true := fun j oj hj hij hl =>
    D.apart hij hi hj fun q => hLi (anc_closed hcl _ _ _ q fun o' ho' => by rw [hj] at ho'; cases ho'; exact hcl j oj hj hl)
  have get : ∀ j, j < all.length → all[j]? = some (all.getD j o) := fun j hj => by rw [List.getD_eq_getElem?_getD, List.getElem?_eq_getElem hj]; rfl
  have hT : ∀ t ∈ looks all o, gett T t = gett (X.T i) t := by
    intro t ht
    refine Cons.congr (I.t t) (lx.t t) fun j hw => ?_
    obtain ⟨oj, hj, hd⟩ := hw
    constructor
    · intro hl
      rcases Nat.lt_or_ge j i with q | q
      · exact q
      · exfalso
        have hne : i ≠ j := fun e => hLi (e ▸ hl)
        exact (apartT_ok (behind j oj hj (by omega) hl).2).2.2 t hd ht
    · intro hji
      exact Classical.byContradiction fun hnl => (apartT_ok (before j oj hj hji hnl).2).1 t hd ht
  have hF : ∀ id b, (id, b) ∈ X.F i → H.get id = (X.H i).get id := by
    intro id b hx
    refine Cons.congr (I.h id) (lx.h id) fun j hw => ?_
    obtain ⟨hjn, hw⟩ := hw
    have hlt := l.lt id b hx
    constructor
    · intro hl
      rcases Nat.lt_or_ge j i with q | q
      · exact q
      · exfalso
        have hne : i ≠ j := fun e => hLi (e ▸ hl)
        have ht := touches_no (behind j _ (get j hjn) (by omega) hl).1
        rcases hw with hw | ⟨hw, _⟩
        · exact ht.2.1 id b hx hw
        · have := D.mono (X := X) (show i ≤ j by omega) (by omega); omega
    · intro hji
      refine Classical.byContradiction fun hnl => ?_
      have ht := touches_no (before j _ (get j hjn) hji hnl).1
      rcases hw with hw | ⟨hw, hw2⟩
      · exact ht.1 id b hw hx
      · exact ht.2.2 id b hw hw2 hx
  have hno : ∀ id, X.n i ≤ id → id < X.n (i + 1) → H.get id = none := by
    intro id ha hb
    rw [← l.gone id ha hb]
    refine Cons.congr (I.h id) (lx.h id) fun j hw => ?_
    obtain ⟨hjn, hw⟩ := hw
    constructor
    · intro hl
      have hne : i ≠ j := fun e => hLi (e ▸ hl)
      rcases Nat.lt_or_ge j i with q | q
      · exact q
      · exfalso
        rcases hw with hw | ⟨hw, hw2⟩
        · exact (touches_no (behind j _ (get j hjn) (by omega) hl).1).2.2 id true ha hb hw
        · have := D.mono (X := X) (show i + 1 ≤ j by omega) (by omega); omega
    · intro hji
      exfalso
      have h1 := D.mono (X := X) (show j + 1 ≤ i by omega) (by omega)
      have h2 := (D.loc j _ (get j hjn)).le
      rcases hw with hw | ⟨hw, hw2⟩
      · have h3 := (D.loc j _ (get j hjn)).lt id true hw; omega
      · omega
  obtain ⟨t', hr, r1, r2, r3, r4⟩ := l.run H hno hF
  obtain ⟨T', hp⟩ := putT_same (U := T) l.put
  refine ⟨t', T', by rw [runW_congr hT]; exact hr, hp, fun t => ?_, fun id => ?_⟩
  · rw [putT_ok hp]
    by_cases q : o.dst = some t
    · rw [if_pos q]
      refine Cons.top ⟨o, hi, q⟩ (fun j hl hw => ?_) hL'
      obtain ⟨oj, hj, hd⟩ := hw
      rcases Nat.lt_or_ge i j with z | z
      · exact absurd hd ((apartT_ok (behind j oj hj z hl).2).2.1 t q)
      · exact z
    · rw [if_neg q]
      exact Cons.skip (I.t t) (fun ⟨o', a, b⟩ => by rw [hi] at a; cases a; exact q b) hL'
  · by_cases q : X.hits all id i
    · have he : t'.heap.get id = (X.H (i + 1)).get id := by
        rcases q.2 with q | ⟨qa, qb⟩
        · exact r2 id q
        · exact r1 id qa qb
      rw [he]
      refine Cons.top (val := fun k => (X.H (k + 1)).get id) q (fun j hl hw => ?_) hL'
      rcases Nat.lt_or_ge i j with z | z
      · exfalso
        have ht := touches_no (behind j _ (get j hw.1) z hl).1
        have hm := D.mono (X := X) (show i + 1 ≤ j by omega) (by have := hw.1; omega)
        have hle := l.le
        rcases q.2 with q | ⟨qa, qb⟩
        · have hlt := l.lt id true q
          rcases hw.2 with w | ⟨w, _⟩
          · exact ht.1 id true q w
          · omega
        · rcases hw.2 with w | ⟨w, _⟩
          · exact ht.2.2 id true qa qb w
          · omega
      · exact z
    · have : t'.heap.get id = H.get id := by
        rcases Nat.lt_or_ge id (X.n i) with a | a
        · exact r3 id a fun b => q ⟨hilt, .inl b⟩
        · exact r4 id (by
            rcases Nat.lt_or_ge id (X.n (i + 1)) with b | b
            · exact absurd ⟨hilt, .inr ⟨a, b⟩⟩ q
            · exact b)
      rw [this]
      exact Cons.skip (I.h id) q hL'
theorem Told.fin (D : Told C call N all X) {L : Nat → Prop} {T : Tm} {H : Tr AObj} (I : Inv all X L T H) (hL : ∀ j, j < all.length → L j) :
    (∀ t, gett T t = gett (X.T all.length) t) ∧ ∀ id, H.get id = (X.H all.length).get id := by
  have lx := D.lex _ (Nat.le_refl _)
  refine ⟨fun t => Cons.congr (I.t t) (lx.t t) fun j hw => ?_, fun id => Cons.congr (I.h id) (lx.h id) fun j hw => ?_⟩
  · obtain ⟨oj, hj, hd⟩ := hw
    have := (List.getElem?_eq_some_iff.1 hj).1
    exact ⟨fun _ => this, fun _ => hL j this⟩
  · exact ⟨fun _ => hw.1, fun _ => hL j hw.1⟩
end
theorem Rel.same {φ : Phi} {H H' : Tr AObj} {w : World} (h : ∀ id, H.get id = H'.get id) (R : Rel φ H w) : Rel φ H' w :=
  ⟨fun id o ho => R.obj id o (by rw [h]; exact ho), fun id ho => R.abs id ⟨by rw [h]; exact ho.1, ho.2⟩, R.pin, fun i j oi oj li lj a b => R.inj i j oi oj li lj (by rw [h]; exact a) (by rw [h]; exact b)⟩
theorem WrB.same {φ : Phi} {H H' : Tr AObj} {b : Nat} (h : ∀ id, H.get id = H'.get id) (R : WrB φ H b) : WrB φ H' b := by
  obtain ⟨id, o, l, a, r⟩ := R
  exact ⟨id, o, l, by rw [← h]; exact a, r⟩
theorem Step.heap {φ φ' : Phi} {H H1 H' : Tr AObj} {w w' : World} (h : ∀ id, H1.get id = H'.get id) (st : Step φ H w φ' H1 w') : Step φ H w φ' H' w' :=
  { st with rel := st.rel.same h, sub := fun b q => st.sub b (q.same fun id => (h id).symm) }
theorem TR.same {φ : Phi} {N : Nat} {T T' : Tm} {a : Act} (h : ∀ t, gett T t = gett T' t) (R : TR φ N T a) : TR φ N T' a :=
  ⟨R.size, fun t => by rw [← h]; exact R.val t, R.pin⟩

section
variable {P : Program} {C : Cfg} {call : CallF} {N : Nat} {X : Lex}
theorem direct_mem {o : Oper} {x : Nat} : x ∈ direct o ↔ ∃ e ∈ o.after, Region.binds .any e = true ∧ e.on = x := by
  unfold direct
  rw [List.mem_filterMap]
  constructor
  · rintro ⟨e, he, h⟩
    refine ⟨e, by simpa using he, ?_⟩
    unfold Region.binds
    revert h
    cases e.ground <;> simp
  · rintro ⟨e, he, hb, rfl⟩
    refine ⟨e, by simpa using he, ?_⟩
    revert hb
    unfold Region.binds
    cases e.ground <;> simp
theorem count_set : ∀ {l : List Bool} {i : Nat}, l[i]? = some false → (l.set i true).count false + 1 = l.count false
  | [], i, h => by simp at h
  | b :: l, 0, h => by simp at h; subst h; simp
  | b :: l, i + 1, h => by
    have := count_set (l := l) (i := i) (by simpa using h)
    simp only [List.set_cons_succ, List.count_cons]
    omega
theorem draw_any (K : CfgOK P C) (hc : CallOK P call) {ops : Array Oper} (D : Told C call N ops.toList X) {φ0 : Phi} {H0 : Tr AObj} {w0 : World} {Q : Exit → Act → World → Prop}
    (aft : After φ0 H0 w0 N .normal (X.T ops.toList.length) (X.H ops.toList.length) Q) :
    ∀ (fuel : Nat) (listed : Array Bool) {φ : Phi} {H : Tr AObj} {w : World} {T : Tm} {a : Act}, listed.size = ops.size → listed.toList.count false ≤ fuel → Step φ0 H0 w0 φ H w → TR φ N T a → a.defers = [] →
      Inv ops.toList X (fun j => listed.getD j false = true) T H → (∀ j o, ops.toList[j]? = some o → listed.getD j false = true → ∀ x ∈ direct o, listed.getD x false = true) →
      wpAny P .any ops Q fuel listed a w := by
  intro fuel
  have fin : ∀ (listed : Array Bool) {φ : Phi} {H : Tr AObj} {w : World} {T : Tm} {a : Act}, listed.size = ops.size → Step φ0 H0 w0 φ H w → TR φ N T a → a.defers = [] →
      Inv ops.toList X (fun j => listed.getD j false = true) T H → Region.ready .any ops listed = [] → Q .normal a w := by
    intro listed φ H w T a hsz st t d I hr
    have hall : ∀ n, n ≤ ops.size → ∀ j, j < n → listed.getD j false = true := by
      intro n
      induction n with
      | zero => intro _ j hj; omega
      | succ n ih =>
        intro hn j hj
        rcases Nat.lt_or_ge j n with q | q
        · exact ih (by omega) j q
        · obtain rfl : j = n := by omega
          refine Classical.byContradiction fun hq => ?_
          have hjo : ops[j]? = some ops[j] := Array.getElem?_eq_getElem (by omega)
          have : j ∈ Region.ready .any ops listed := mem_ready.2 ⟨by
            have hb : j < listed.size := by omega
            simp only [Array.getD_eq_getD_getElem?, Array.getElem?_eq_getElem hb, Option.getD_some] at hq ⊢
            simpa using hq, _, hjo, fun e he hb => by
              have := backs_get D.backs (by rw [Array.getElem?_toList]; exact hjo) e.on (direct_mem.2 ⟨e, he, hb, rfl⟩)
              exact ih (by omega) e.on (by omega)⟩
          rw [hr] at this
          simp at this
    obtain ⟨h1, h2⟩ := D.fin I fun j hj => hall ops.size (Nat.le_refl _) j (by simpa using hj)
    exact aft φ a w .normal (st.heap h2) (t.same h1) d .normal
  induction fuel with
  | zero =>
    intro listed φ H w T a hsz hcnt st t d I hcl
    have hr : Region.ready .any ops listed = [] := by
      rw [List.eq_nil_iff_forall_not_mem]
      intro j hj
      obtain ⟨h1, o, ho, _⟩ := mem_ready.1 hj
      have hlt := (Array.getElem?_eq_some_iff.1 ho).1
      have : false ∈ listed.toList := by
        rw [Array.getD_eq_getD_getElem?, Array.getElem?_eq_getElem (by omega)] at h1
        simp only [Option.getD_some] at h1
        rw [← h1]
        simp
      have := List.count_pos_iff.2 this
      omega
    exact ⟨hr, fin listed hsz st t d I hr⟩
  | succ fuel ih =>
    intro listed φ H w T a hsz hcnt st t d I hcl
    refine ⟨fin listed hsz st t d I, fun i hi => ?_⟩
    obtain ⟨h1, o, ho, hed⟩ := mem_ready.1 hi
    have hlt := (Array.getElem?_eq_some_iff.1 ho).1
    have hli : listed.toList[i]? = some false := by
      rw [Array.getD_eq_getD_getElem?, Array.getElem?_eq_getElem (by omega)] at h1
      simp only [Option.getD_some] at h1
      simp only [Array.getElem?_toList]
      rw [Array.getElem?_eq_getElem (by omega), h1]
    have hLi : ¬ listed.getD i false = true := by
      rw [Array.getD_eq_getD_getElem?, ← Array.getElem?_toList, hli]; simp
    have hL' : ∀ j, (listed.setIfInBounds i true).getD j false = true ↔ listed.getD j false = true ∨ j = i := by
      intro j
      by_cases q : i = j
      · subst q
        have : i < listed.size := by omega
        simp [this]
      · rw [getD_set_ne false q]
        constructor
        · exact .inl
        · rintro (h | h)
          · exact h
          · exact absurd h.symm q
    have hdi : ∀ x ∈ direct o, listed.getD x false = true := fun x hx => by
      obtain ⟨e, he, hb, rfl⟩ := direct_mem.1 hx
      exact hed e he hb
    have hol : ops.toList[i]? = some o := by simpa using ho
    obtain ⟨t', T', hrun, hput, I'⟩ := D.one I hol hLi hcl hdi hL'
    have hcl' : ∀ j o', ops.toList[j]? = some o' → (listed.setIfInBounds i true).getD j false = true → ∀ x ∈ direct o', (listed.setIfInBounds i true).getD x false = true := by
      intro j o' hj hlj x hx
      rw [hL'] at hlj ⊢
      rcases hlj with q | rfl
      · exact .inl (hcl j o' hj q x hx)
      · rw [hol] at hj; cases hj
        exact .inl (hdi x hx)
    have hcnt' : (listed.setIfInBounds i true).toList.count false ≤ fuel := by
      rw [Array.toList_setIfInBounds]
      have := count_set hli
      omega
    have next : ∀ {φ1 : Phi} {w1 : World} {v' : Value}, Step φ H w φ1 t'.heap w1 → VR φ1 (X.v i) v' → wpAny P .any ops Q fuel (listed.setIfInBounds i true) (a.put o.dst v') w1 := fun {φ1 w1 v'} st1 hv =>
      ih _ (by simpa using hsz) hcnt' (st.trans st1) ((t.mono st1.ext).put hv hput) (by rw [put_defers]; exact d) I' hcl'
    unfold wpOp
    simp only [ho]
    rw [wanted_ok t]
    unfold runW at hrun
    cases hw : wantedA ops.toList T o with
    | false =>
      rw [hw] at hrun
      simp only [cond_false] at hrun
      obtain ⟨hv, rfl⟩ := ret_ok hrun
      rw [if_neg (by simp)]
      refine next (Step.refl st.rel) ?_
      have hv' : X.v i = undef := by injection hv
      rw [hv']
      exact .tuple .nil
    | true =>
      rw [hw] at hrun
      simp only [cond_true] at hrun
      rw [if_pos rfl]
      left
      refine opRun_wp K hc (s := ⟨H, X.n i, X.n i, []⟩) st.rel t hrun ?_ ?_
      · intro v φ1 w1 v' he st1 hv
        cases he
        exact next st1 hv
      · intro v φ1 w1 v' he
        cases he
theorem draw_ok (K : CfgOK P C) (hc : CallOK P call) (hl : ∀ f args, Local (call f args)) (N : Nat) : DrawOK P C call N := by
  intro ops id φ s s' w T T' a e Q R t d h aft
  unfold aDraw at h
  cases hd : dOps C call N ops.toList 0 ops.toList [] T s with
  | none => rw [hd] at h; cases h
  | some q =>
    obtain ⟨⟨fs, T1⟩, s1⟩ := q
    rw [hd] at h
    simp only at h
    cases hb : (allFree ops.toList fs && backs 0 ops.toList) with
    | false => rw [hb] at h; cases h
    | true =>
      rw [hb] at h
      simp only [cond_true, Option.some.injEq, Prod.mk.injEq] at h
      obtain ⟨rfl, rfl, rfl⟩ := h
      simp only [Bool.and_eq_true] at hb
      obtain ⟨X, x1, x2, x3, x4, x5, x6, x7⟩ := dOps_lex ops.toList 0 [] T s (by simp) hd
      simp only [Nat.zero_add] at x4 x5 x6 x7
      have D : Told C call N ops.toList X := Lex.told hl (fun k hk => x6 k (Nat.zero_le _) hk) (fun j k a b => (x7 hb.1).2.2 j k (Nat.zero_le _) a b) hb.2
      refine wp_region_any K.mixed ?_
      have I0 : Inv ops.toList X (fun j => (Array.replicate ops.size false).getD j false = true) (X.T 0) (X.H 0) := by
        have hn : ∀ j, ¬ (Array.replicate ops.size false).getD j false = true := fun j => by
          simp only [Array.getD_eq_getD_getElem?, Array.getElem?_replicate]
          split <;> simp
        exact ⟨fun t => Cons.start hn, fun id => Cons.start hn⟩
      refine draw_any K hc D (φ0 := φ) (H0 := s.heap) (w0 := w) (by rw [x4, x5]; exact aft) ops.size _ (T := T) (by simp) (by simp) (Step.drew R) t d (by rw [← x1, ← x2]; exact I0) ?_
      intro j o _ hj
      simp only [Array.getD_eq_getD_getElem?, Array.getElem?_replicate] at hj
      split at hj <;> simp at hj
/-- What a call of the evaluator tells is what the machine's call does, in every world. -/
theorem call_ok (K : CfgOK P C) (ho : ∀ f g, C.over f = some g → OverOK P f g) (F n : Nat) : CallOK P (aCall C F n) :=
  aCall_ok K ho F (fun n hc N => draw_ok K hc (aCall_loc ho F n) N) n
end
end Go.Eng
