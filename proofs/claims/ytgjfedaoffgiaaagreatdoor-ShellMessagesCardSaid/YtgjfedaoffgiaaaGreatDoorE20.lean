/-
  Locality: what a part of a run does hangs on the blocks that it looks at alone.
-/
import Derived.Test.YtgjfedaoffgiaaaGreatDoorE17
namespace Go.Eng
theorem blt_no {a b : Nat} (h : Nat.blt a b = false) : b ≤ a := by
  rcases Nat.lt_or_ge a b with q | q
  · rw [show Nat.blt a b = true from Nat.ble_eq_true_of_le q] at h; cases h
  · exact q
def Fresh (s : ASt) : Prop := s.lim ≤ s.next
/-- Another state, in which all that is looked at is the same. -/
structure Like (F : List (Nat × Bool)) (n' : Nat) (s t : ASt) : Prop where
  next : t.next = s.next
  lim : t.lim = s.lim
  own : ∀ id, s.lim ≤ id → id < s.next → t.heap.get id = s.heap.get id
  no : ∀ id, s.next ≤ id → id < n' → t.heap.get id = none
  log : ∀ id b, (id, b) ∈ F → t.heap.get id = s.heap.get id
structure Did (F : List (Nat × Bool)) (s s' t t' : ASt) : Prop where
  next : t'.next = s'.next
  lim : t'.lim = t.lim
  log : t'.log = F ++ t.log
  own : ∀ id, s.lim ≤ id → id < s'.next → t'.heap.get id = s'.heap.get id
  wr : ∀ id, (id, true) ∈ F → t'.heap.get id = s'.heap.get id
  old : ∀ id, id < s.lim → (id, true) ∉ F → t'.heap.get id = t.heap.get id
  far : ∀ id, s'.next ≤ id → t'.heap.get id = t.heap.get id
structure Ran (F : List (Nat × Bool)) (s s' : ASt) : Prop where
  lt : ∀ id b, (id, b) ∈ F → id < s.lim
  next : s.next ≤ s'.next
  fresh : Fresh s'
  no : ∀ id, s.next ≤ id → id < s'.next → s.heap.get id = none
def Local {α : Type} (m : M α) : Prop := ∀ s r s', Fresh s → m s = some (r, s') → ∃ F, Ran F s s' ∧ ∀ t, Like F s'.next s t → ∃ t', m t = some (r, t') ∧ Did F s s' t t'
theorem Ran.self {F : List (Nat × Bool)} {s s' : ASt} (h : Ran F s s') : Like F s'.next s s := ⟨rfl, rfl, fun _ _ _ => rfl, h.no, fun _ _ _ => rfl⟩
section
variable {α β : Type}
theorem Local.self {m : M α} {s s' : ASt} {r : α} {F : List (Nat × Bool)} (hs : Ran F s s') (h : m s = some (r, s')) (k : ∀ t, Like F s'.next s t → ∃ t', m t = some (r, t') ∧ Did F s s' t t') : Did F s s' s s' := by
  obtain ⟨t', h1, h2⟩ := k s hs.self
  rw [h] at h1
  simp only [Option.some.injEq, Prod.mk.injEq, true_and] at h1
  subst h1
  exact h2
theorem Local.ret (a : α) : Local (M.ret a) := by
  intro s r s' hs h
  obtain ⟨rfl, rfl⟩ := ret_ok h
  exact ⟨[], ⟨fun _ _ h => by simp at h, Nat.le_refl _, hs, fun id a b => by omega⟩, fun t l => ⟨t, rfl, l.next, rfl, rfl, fun id a b => l.own id a b, fun _ h => by simp at h, fun _ _ _ => rfl, fun _ _ => rfl⟩⟩
theorem Local.fail : Local (M.fail : M α) := fun _ _ _ _ h => (fail_ok h).elim
theorem Local.val (v : Value) : Local (Go.Eng.val v) := Local.ret (R.val v)
theorem Local.lift (o : Option α) : Local (M.lift o) := by
  cases o with
  | none => exact Local.fail
  | some a => exact Local.ret a
theorem Local.valO (o : Option Value) : Local (Go.Eng.valO o) := by
  cases o with
  | none => exact Local.fail
  | some a => exact Local.val a
theorem Local.bind {m : M α} {f : α → M β} (hm : Local m) (hf : ∀ a, Local (f a)) : Local (M.bind m f) := by
  intro s r s' hs h
  obtain ⟨a, s1, h1, h2⟩ := bind_ok h
  obtain ⟨F1, R1, k1⟩ := hm s a s1 hs h1
  obtain ⟨F2, R2, k2⟩ := hf a s1 r s' R1.fresh h2
  have d1 := Local.self R1 h1 k1
  have d2 := Local.self R2 h2 k2
  refine ⟨F2 ++ F1, ⟨fun id b hx => ?_, Nat.le_trans R1.next R2.next, R2.fresh, fun id a b => ?_⟩, fun t l => ?_⟩
  · rcases List.mem_append.1 hx with hx | hx
    · have := R2.lt id b hx; rw [d1.lim] at this; exact this
    · exact R1.lt id b hx
  · rcases Nat.lt_or_ge id s1.next with q | q
    · exact R1.no id a q
    · rw [← d1.far id q]; exact R2.no id q b
  · obtain ⟨t1, e1, D1⟩ := k1 t ⟨l.next, l.lim, l.own, fun id a b => l.no id a (Nat.lt_of_lt_of_le b R2.next), fun id b hx => l.log id b (List.mem_append_right _ hx)⟩
    obtain ⟨t2, e2, D2⟩ := k2 t1 ⟨D1.next, by rw [D1.lim, d1.lim, l.lim], fun id a b => D1.own id (by rw [d1.lim] at a; exact a) b,
      fun id a b => by rw [D1.far id a]; exact l.no id (Nat.le_trans R1.next a) b,
      fun id b hx => by
        have hlt : id < s.lim := by have := R2.lt id b hx; rw [d1.lim] at this; exact this
        by_cases q : (id, true) ∈ F1
        · exact D1.wr id q
        · rw [D1.old id hlt q, d1.old id hlt q]; exact l.log id b (List.mem_append_left _ hx)⟩
    refine ⟨t2, by unfold M.bind; rw [e1]; exact e2, D2.next, by rw [D2.lim, D1.lim], by rw [D2.log, D1.log, List.append_assoc], fun id a b => D2.own id (by rw [d1.lim]; exact a) b, fun id hx => ?_, fun id a hx => ?_, fun id a => ?_⟩
    · by_cases q : (id, true) ∈ F2
      · exact D2.wr id q
      · have q1 : (id, true) ∈ F1 := by
          rcases List.mem_append.1 hx with hx | hx
          · exact absurd hx q
          · exact hx
        have hlt := R1.lt id true q1
        rw [D2.old id (by rw [d1.lim]; exact hlt) q, d2.old id (by rw [d1.lim]; exact hlt) q]
        exact D1.wr id q1
    · rw [D2.old id (by rw [d1.lim]; exact a) (fun q => hx (List.mem_append_left _ q)), D1.old id a (fun q => hx (List.mem_append_right _ q))]
    · rw [D2.far id a, D1.far id (Nat.le_trans R2.next a)]
theorem Local.rd (id : Nat) : Local (rd id) := by
  intro s r s' hs h
  obtain ⟨hg, hn, h⟩ := rd_ok' h
  have hlt : id < s.next := by simpa using hn
  cases hb : Nat.blt id s.lim with
  | true =>
    rw [hb] at h
    simp only [cond_true] at h
    subst h
    have hl : id < s.lim := by simpa using hb
    refine ⟨[(id, false)], ⟨fun i b hx => ?_, Nat.le_refl _, hs, fun i a b => by simp only at b; omega⟩, fun t l => ?_⟩
    · simp at hx; rw [hx.1]; exact hl
    · have e : t.heap.get id = some r := by rw [l.log id false (by simp)]; exact hg
      refine ⟨⟨t.heap, t.next, t.lim, (id, false) :: t.log⟩, by unfold Go.Eng.rd; rw [e, l.lim, l.next, hb, hn]; rfl, l.next, rfl, rfl, l.own, fun i hx => by simp at hx, fun _ _ _ => rfl, fun _ _ => rfl⟩
  | false =>
    rw [hb] at h
    simp only [cond_false] at h
    subst h
    have hl : s'.lim ≤ id := blt_no hb
    refine ⟨[], ⟨fun i b hx => by simp at hx, Nat.le_refl _, hs, fun i a b => by omega⟩, fun t l => ?_⟩
    have e : t.heap.get id = some r := by rw [l.own id hl hlt]; exact hg
    exact ⟨t, by unfold Go.Eng.rd; rw [e, l.lim, l.next, hb, hn]; rfl, l.next, rfl, rfl, l.own, fun i hx => by simp at hx, fun _ _ _ => rfl, fun _ _ => rfl⟩
theorem Local.wr (id : Nat) (o : AObj) : Local (wr id o) := by
  intro s r s' hs h
  obtain ⟨⟨o0, hg⟩, hn, rfl⟩ := wr_ok' h
  have hlt : id < s.next := by simpa using hn
  cases hb : Nat.blt id s.lim with
  | true =>
    have hl : id < s.lim := by simpa using hb
    refine ⟨[(id, true)], ⟨fun i b hx => ?_, Nat.le_refl _, hs, fun i a b => by simp only at b; omega⟩, fun t l => ?_⟩
    · simp at hx; rw [hx.1]; exact hl
    · have e : t.heap.get id = some o0 := by rw [l.log id true (by simp)]; exact hg
      refine ⟨⟨t.heap.set id o, t.next, t.lim, (id, true) :: t.log⟩, by unfold Go.Eng.wr; rw [e, l.lim, l.next, hb, hn]; rfl, l.next, rfl, rfl, fun i a b => ?_, fun i hx => ?_, fun i a hx => ?_, fun i a => ?_⟩
      · simp only [Tr.get_set]; split
        · rfl
        · exact l.own i a b
      · simp at hx; subst hx; simp only [Tr.get_set, if_true]
      · simp at hx; simp only [Tr.get_set, if_neg hx]
      · simp only at a; simp only [Tr.get_set]; rw [if_neg (by omega)]
  | false =>
    have hl : s.lim ≤ id := blt_no hb
    refine ⟨[], ⟨fun i b hx => by simp at hx, Nat.le_refl _, hs, fun i a b => by simp only at b; omega⟩, fun t l => ?_⟩
    have e : t.heap.get id = some o0 := by rw [l.own id hl hlt]; exact hg
    refine ⟨⟨t.heap.set id o, t.next, t.lim, t.log⟩, by unfold Go.Eng.wr; rw [e, l.lim, l.next, hb, hn]; rfl, l.next, rfl, rfl, fun i a b => ?_, fun i hx => by simp at hx, fun i a hx => ?_, fun i a => ?_⟩
    · simp only [Tr.get_set]; split
      · rfl
      · exact l.own i a b
    · simp only [Tr.get_set]; rw [if_neg (by omega)]
    · simp only at a; simp only [Tr.get_set]; rw [if_neg (by omega)]
theorem Local.nw (o : AObj) : Local (nw o) := by
  intro s r s' hs h
  obtain ⟨⟨hg, hp⟩, rfl, rfl⟩ := nw_ok' h
  have hp' : Nat.ble pinned s.next = true := Nat.ble_eq_true_of_le hp
  refine ⟨[], ⟨fun i b hx => by simp at hx, Nat.le_succ _, Nat.le_succ_of_le hs, fun i a b => ?_⟩, fun t l => ?_⟩
  · simp only at b
    have : i = s.next := by omega
    subst this; exact hg
  · have e : t.heap.get t.next = none := by rw [l.next]; exact l.no _ (Nat.le_refl _) (Nat.lt_succ_self _)
    refine ⟨⟨t.heap.set t.next o, t.next + 1, t.lim, t.log⟩, by unfold Go.Eng.nw; rw [e, l.next, hp']; rfl, by simp only [l.next], rfl, rfl, fun i a b => ?_, fun i hx => by simp at hx, fun i a hx => ?_, fun i a => ?_⟩
    · simp only at b; simp only [Tr.get_set, l.next]; split
      · rfl
      · exact l.own i a (by omega)
    · unfold Fresh at hs; simp only [Tr.get_set, l.next]; rw [if_neg (by omega)]
    · simp only at a; simp only [Tr.get_set, l.next]; rw [if_neg (by omega)]
theorem Local.sub {m : M α} (hm : Local m) : Local (sub m) := by
  intro s r s' hs h
  unfold Go.Eng.sub at h
  cases e : m ⟨s.heap, s.next, s.next, []⟩ with
  | none => rw [e] at h; cases h
  | some q =>
    obtain ⟨r0, s1⟩ := q
    rw [e] at h
    simp only [Option.some.injEq, Prod.mk.injEq] at h
    obtain ⟨rfl, rfl⟩ := h
    have hs0 : Fresh ⟨s.heap, s.next, s.next, []⟩ := Nat.le_refl _
    obtain ⟨F, R, k⟩ := hm _ _ _ hs0 e
    have d := Local.self R e k
    have hF : s1.log = F := by rw [d.log]; simp
    have hmem : ∀ id b, (id, b) ∈ F.filter (fun x => Nat.blt x.1 s.lim) ↔ (id, b) ∈ F ∧ id < s.lim := fun id b => by rw [List.mem_filter]; simp
    refine ⟨F.filter fun x => Nat.blt x.1 s.lim, ⟨fun id b hx => ((hmem id b).1 hx).2, R.next, ?_, R.no⟩, fun t l => ?_⟩
    · have := R.next; unfold Fresh at *; simp only at *; omega
    · obtain ⟨t1, e1, D⟩ := k ⟨t.heap, t.next, t.next, []⟩ ⟨l.next, l.next, fun id a b => by simp only at a b; omega, l.no, fun id b hx => by
        by_cases q : id < s.lim
        · exact l.log id b ((hmem id b).2 ⟨hx, q⟩)
        · exact l.own id (by omega) (R.lt id b hx)⟩
      refine ⟨⟨t1.heap, t1.next, t.lim, (t1.log.filter fun x => Nat.blt x.1 t.lim) ++ t.log⟩, ?_, D.next, rfl, ?_, fun id a b => ?_, fun id hx => ?_, fun id a hx => ?_, fun id a => ?_⟩
      · unfold Go.Eng.sub; rw [e1]; simp only [l.next, D.next, D.log, d.log]
      · simp only [D.log, l.lim, List.append_nil]
      · by_cases q : s.next ≤ id
        · exact D.own id q b
        · by_cases q2 : (id, true) ∈ F
          · exact D.wr id q2
          · have h1 := D.old id (by simp only; omega) q2
            have h2 := d.old id (by simp only; omega) q2
            simp only at h1 h2
            simp only [h1, h2]
            exact l.own id a (by omega)
      · exact D.wr id ((hmem id true).1 hx).1
      · unfold Fresh at hs
        exact D.old id (by simp only; omega) (fun q => hx ((hmem id true).2 ⟨q, a⟩))
      · exact D.far id a
theorem Local.fresh {m : M α} (hm : Local m) {s s' : ASt} {r : α} (hs : Fresh s) (h : m s = some (r, s')) : Fresh s' := by
  obtain ⟨_, R, _⟩ := hm s r s' hs h
  exact R.fresh
theorem Local.cond {b : Bool} {x y : M α} (hx : Local x) (hy : Local y) : Local (bif b then x else y) := by cases b <;> assumption
end
end Go.Eng
