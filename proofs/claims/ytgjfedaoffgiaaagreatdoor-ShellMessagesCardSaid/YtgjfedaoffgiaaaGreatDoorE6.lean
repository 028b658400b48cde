/-
  Each operation of the evaluator tells what the machine's operation does: the parts.
-/
import Derived.Test.YtgjfedaoffgiaaaGreatDoorE5
namespace Go.Eng
def toFI (f : Field) : FI := ⟨f.offset, f.type, f.name == "_"⟩
def toU : TypeDesc → U
  | .bool => .bool
  | .int k => .int k
  | .string => .str
  | .pointer e => .ptr e
  | .slice e => .slice e
  | .array n e => .array n e
  | .map k e => .map k e
  | .struct fs => .struct (fs.toList.map toFI)
  | .interface _ => .iface
  | .func _ _ _ => .fn
  | _ => .other
def TI.zv (t : TI) : Value := bif t.agg then .agg t.zero.toArray else t.zero.headD undef
structure TIok (P : Program) (t : TypeId) (i : TI) : Prop where
  info : ∃ x : TypeInfo, P.info? t = some x ∧ x.size = i.size ∧ x.bytes = i.bytes ∧ x.zero = some i.zv
  one : i.agg = false → i.zero = [i.zv]
  und : ∃ d, P.underlying t = some d ∧ toU d = i.u
  zer : i.zero.all okc = true
  eq : i.eqok = true → P.stoodInHeld t = false ∧ P.eqGuardType P.depth t = false
structure CfgOK (P : Program) (C : Cfg) : Prop where
  ti : ∀ t i, C.ti t = some i → TIok P t i
  fn : ∀ f fn, C.fn f = some fn → P.funcs[f]? = some fn ∧ (fn.name == "runtime.NumGoroutine") = false
  depth : C.depth ≤ 10000
  mixed : P.follows .mixedOrders = true
  ext : ∀ f h, C.ext f = some h → ∀ args v, h args = some v → ∀ (φ : Phi) (args' : Array Value) (w : World), VRs φ args args'.toList → ∃ v', VR φ v v' ∧ (callFunc f args').run P w = .ok (.value v') w

theorem VR.okc {φ : Phi} {v : Value} (h : Go.Eng.okc v = true) : VR φ v v := by
  cases v with
  | pointer a => cases a with
    | none => constructor
    | some a => simp [Go.Eng.okc] at h
  | map a => cases a with
    | none => constructor
    | some a => simp [Go.Eng.okc] at h
  | slice a n c => cases a with
    | none =>
      simp [Go.Eng.okc] at h
      obtain ⟨rfl, rfl⟩ := h
      constructor
    | some a => simp [Go.Eng.okc] at h
  | _ => first | (constructor; done) | (simp [Go.Eng.okc] at h)
theorem VRs.okc {φ : Phi} : ∀ {vs : List Value}, vs.all Go.Eng.okc = true → VRs φ vs vs
  | [], _ => .nil
  | v :: vs, h => by
    simp at h
    exact .cons (VR.okc h.1) (VRs.okc (by simpa using h.2))

section
variable {P : Program} {C : Cfg} {φ : Phi} {s s' : ASt} {w : World}
theorem bind_ok {α β : Type} {m : M α} {f : α → M β} {r : β} (h : M.bind m f s = some (r, s')) : ∃ a s1, m s = some (a, s1) ∧ f a s1 = some (r, s') := by
  unfold M.bind at h
  split at h
  · rename_i a s1 e; exact ⟨a, s1, e, h⟩
  · cases h
theorem rd_ok' {b : Nat} {o : AObj} (h : rd b s = some (o, s')) : s.heap.get b = some o ∧ Nat.blt b s.next = true ∧ s' = bif Nat.blt b s.lim then ⟨s.heap, s.next, s.lim, (b, false) :: s.log⟩ else s := by
  unfold rd at h
  cases e : s.heap.get b with
  | none => rw [e] at h; cases h
  | some o' =>
    rw [e] at h
    cases hn : Nat.blt b s.next with
    | false => rw [hn] at h; cases h
    | true =>
      rw [hn] at h
      simp only [cond_true, Option.some.injEq, Prod.mk.injEq] at h
      obtain ⟨rfl, rfl⟩ := h
      exact ⟨rfl, rfl, rfl⟩
theorem rd_ok {b : Nat} {o : AObj} (h : rd b s = some (o, s')) : s.heap.get b = some o ∧ s'.heap = s.heap := by
  obtain ⟨a, _, rfl⟩ := rd_ok' h
  exact ⟨a, by cases Nat.blt b s.lim <;> rfl⟩
theorem wr_ok' {b : Nat} {o : AObj} {u : Unit} (h : wr b o s = some (u, s')) : (∃ o0, s.heap.get b = some o0) ∧ Nat.blt b s.next = true ∧ s' = ⟨s.heap.set b o, s.next, s.lim, bif Nat.blt b s.lim then (b, true) :: s.log else s.log⟩ := by
  unfold wr at h
  cases e : s.heap.get b with
  | none => rw [e] at h; cases h
  | some o' =>
    rw [e] at h
    cases hn : Nat.blt b s.next with
    | false => rw [hn] at h; cases h
    | true =>
      rw [hn] at h
      simp only [cond_true, Option.some.injEq, Prod.mk.injEq] at h
      exact ⟨⟨o', rfl⟩, rfl, h.2.symm⟩
theorem wr_ok {b : Nat} {o : AObj} {u : Unit} (h : wr b o s = some (u, s')) : s'.heap = s.heap.set b o ∧ ∃ o0, s.heap.get b = some o0 := by
  obtain ⟨a, _, rfl⟩ := wr_ok' h
  exact ⟨rfl, a⟩
theorem nw_ok' {o : AObj} {b : Nat} (h : nw o s = some (b, s')) : Gone s.heap s.next ∧ b = s.next ∧ s' = ⟨s.heap.set s.next o, s.next + 1, s.lim, s.log⟩ := by
  unfold nw at h
  split at h
  · rename_i e
    cases hp : Nat.ble pinned s.next with
    | false => rw [hp] at h; cases h
    | true =>
      rw [hp] at h
      simp only [cond_true, Option.some.injEq, Prod.mk.injEq] at h
      obtain ⟨rfl, rfl⟩ := h
      exact ⟨⟨e, Nat.le_of_ble_eq_true hp⟩, rfl, rfl⟩
  · cases h
theorem nw_ok {o : AObj} {b : Nat} (h : nw o s = some (b, s')) : Gone s.heap b ∧ s'.heap = s.heap.set b o := by
  obtain ⟨h1, rfl, rfl⟩ := nw_ok' h
  exact ⟨h1, rfl⟩
theorem cellsAt_ok {b m : Nat} {vs : List Value} (h : cellsAt b s = some ((vs, m), s')) : s.heap.get b = some (.cells vs m) ∧ s'.heap = s.heap := by
  obtain ⟨o, s1, h1, h2⟩ := bind_ok h
  obtain ⟨g, e⟩ := rd_ok h1
  cases o with
  | cells vs' m' =>
    simp only [M.ret, Option.some.injEq, Prod.mk.injEq] at h2
    obtain ⟨⟨rfl, rfl⟩, rfl⟩ := h2
    exact ⟨g, e⟩
  | _ => simp [M.fail] at h2
theorem mapAt_ok {b c : Nat} {es : List MapEntry} (h : mapAt b s = some ((es, c), s')) : s.heap.get b = some (.map es c) ∧ s'.heap = s.heap := by
  obtain ⟨o, s1, h1, h2⟩ := bind_ok h
  obtain ⟨g, e⟩ := rd_ok h1
  cases o with
  | map vs' m' =>
    simp only [M.ret, Option.some.injEq, Prod.mk.injEq] at h2
    obtain ⟨⟨rfl, rfl⟩, rfl⟩ := h2
    exact ⟨g, e⟩
  | _ => simp [M.fail] at h2
theorem valO_ok {o : Option Value} {r : R} (h : valO o s = some (r, s')) : ∃ v, o = some v ∧ r = .val v ∧ s' = s := by
  cases o with
  | none => simp [valO, M.fail] at h
  | some v =>
    simp only [valO, val, Option.some.injEq, Prod.mk.injEq] at h
    exact ⟨v, rfl, h.1.symm, h.2.symm⟩
theorem val_ok {v : Value} {r : R} (h : val v s = some (r, s')) : r = .val v ∧ s' = s := by
  simp only [val, Option.some.injEq, Prod.mk.injEq] at h
  exact ⟨h.1.symm, h.2.symm⟩
theorem ret_ok {α : Type} {a r : α} (h : M.ret a s = some (r, s')) : r = a ∧ s' = s := by
  simp only [M.ret, Option.some.injEq, Prod.mk.injEq] at h
  exact ⟨h.1.symm, h.2.symm⟩
theorem fail_ok {α : Type} {r : α} (h : (M.fail : M α) s = some (r, s')) : False := by simp [M.fail] at h

theorem addr_ok {p : Value} {b o : Nat} (h : addr p = some (b, o)) : p = .pointer (some ⟨b, o, none⟩) := by
  unfold addr at h
  split at h
  · simp only [Option.some.injEq, Prod.mk.injEq] at h; obtain ⟨rfl, rfl⟩ := h; rfl
  · cases h
theorem VR.addr {p p' : Value} {b o : Nat} (r : VR φ p p') (h : Go.Eng.addr p = some (b, o)) : ∃ l, φ b = some l ∧ p' = .pointer (some ⟨l.blk, l.sh + o, none⟩) := by
  obtain rfl := addr_ok h
  cases r with
  | ptr h => exact ⟨_, h, rfl⟩

/-- The cells that the evaluator holds, in the machine's block. -/
theorem Rel.cells {H : Tr AObj} {b m : Nat} {vs : List Value} {l : Loc} (h : Rel φ H w) (g : H.get b = some (.cells vs m)) (hp : φ b = some l) :
    ∃ A t lo hi, w.heap[l.blk]? = some (.cells A t (lo, hi)) ∧ CellsR φ l vs m A lo hi := by
  obtain ⟨l0, a, _, c⟩ := h.obj _ _ g
  rw [hp] at a; cases a
  exact c
theorem cell_of_heap {w : World} {b i : Nat} {A : Array Value} {t : TypeId} {fz : Nat × Nat} (h : w.heap[b]? = some (.cells A t fz)) : w.cell? ⟨b, i, none⟩ = A[i]? := by
  simp [World.cell?, h]
theorem Rel.cell {H : Tr AObj} {b m i : Nat} {vs : List Value} {l : Loc} {v : Value} (h : Rel φ H w) (g : H.get b = some (.cells vs m)) (hp : φ b = some l) (hv : vs[i]? = some v) :
    ∃ v', w.cell? ⟨l.blk, l.sh + i, none⟩ = some v' ∧ VR φ v v' := by
  obtain ⟨A, t, lo, hi, e, c, _⟩ := h.cells g hp
  obtain ⟨v', h1, h2⟩ := c i v hv
  exact ⟨v', by rw [cell_of_heap e]; exact h1, h2⟩

theorem ltake_ok : ∀ {vs : List Value} {n : Nat} {r : List Value}, ltake vs n = some r → r = vs.take n ∧ n ≤ vs.length
  | vs, 0, r, h => by cases vs <;> (simp [ltake] at h; subst h; simp)
  | [], n + 1, r, h => by simp [ltake] at h
  | v :: vs, n + 1, r, h => by
    simp only [ltake] at h
    split at h
    · rename_i q e
      obtain ⟨rfl, h2⟩ := ltake_ok e
      cases h
      simp; exact h2
    · cases h
theorem lsub_ok {vs r : List Value} {o n : Nat} (h : lsub vs o n = some r) : r = (vs.drop o).take n ∧ r.length = n ∧ ∀ j v, r[j]? = some v → vs[o + j]? = some v ∧ j < n := by
  obtain ⟨h1, h2⟩ := ltake_ok h
  have hl : r.length = n := by subst h1; simp at h2 ⊢; omega
  refine ⟨h1, hl, fun j v hj => ?_⟩
  have hjn : j < n := by
    rcases Nat.lt_or_ge j n with h | h
    · exact h
    · rw [List.getElem?_eq_none (by omega)] at hj; cases hj
  rw [h1, List.getElem?_take, if_pos hjn, List.getElem?_drop] at hj
  exact ⟨hj, hjn⟩

/-- Reading a stretch. -/
theorem Rel.stretch {H : Tr AObj} {b m o n : Nat} {vs r : List Value} {l : Loc} (h : Rel φ H w) (g : H.get b = some (.cells vs m)) (hp : φ b = some l) (hr : lsub vs o n = some r) :
    ∃ r', r'.length = n ∧ (∀ j v, r'[j]? = some v → w.cell? ⟨l.blk, l.sh + o + j, none⟩ = some v) ∧ VRs φ r r' ∧ (loadCells ⟨l.blk, l.sh + o, none⟩ n).run P w = .ok r'.toArray w := by
  obtain ⟨_, hl, hj⟩ := lsub_ok hr
  obtain ⟨A, t, lo, hi, e, c, _⟩ := h.cells g hp
  have key : ∀ j v, r[j]? = some v → ∃ v', A[l.sh + o + j]? = some v' ∧ VR φ v v' := fun j v hv => by
    obtain ⟨v', h1, h2⟩ := c _ _ (hj j v hv).1
    exact ⟨v', by rw [Nat.add_assoc]; exact h1, h2⟩
  have hlen : l.sh + o + n ≤ A.size ∨ n = 0 := by
    rcases Nat.eq_zero_or_pos n with h0 | h0
    · exact .inr h0
    · left
      obtain ⟨v', h1, _⟩ := key (n - 1) r[n - 1] (by rw [List.getElem?_eq_getElem])
      have := (Array.getElem?_eq_some_iff.1 h1).1
      omega
  refine ⟨(A.toList.drop (l.sh + o)).take n, ?_, ?_, ?_, ?_⟩
  · rcases hlen with h | h
    · simp; omega
    · subst h; simp
  · intro j v hv
    have hjn : j < n := by
      rcases Nat.lt_or_ge j n with h | h
      · exact h
      · rw [List.getElem?_eq_none (by simp; omega)] at hv; cases hv
    rw [List.getElem?_take, if_pos hjn, List.getElem?_drop] at hv
    rw [cell_of_heap e, ← Array.getElem?_toList]; exact hv
  · refine VRs.of_get ?_ fun j v hv => ?_
    · rcases hlen with h | h
      · simp; omega
      · subst h; simp; simpa using hl.symm
    · obtain ⟨v', h1, h2⟩ := key j v hv
      refine ⟨v', ?_, h2⟩
      rw [List.getElem?_take, if_pos (hj j v hv).2, List.getElem?_drop, Array.getElem?_toList]
      exact h1
  · have := run_loadCells_list (P := P) w ⟨l.blk, l.sh + o, none⟩ ((A.toList.drop (l.sh + o)).take n) ?_
    · have hn : ((A.toList.drop (l.sh + o)).take n).length = n := by
        rcases hlen with h | h
        · simp; omega
        · subst h; simp
      rw [hn] at this
      exact this
    · intro j v hv
      have hjn : j < n := by
        rcases Nat.lt_or_ge j n with h | h
        · exact h
        · rw [List.getElem?_eq_none (by simp; omega)] at hv; cases hv
      rw [List.getElem?_take, if_pos hjn, List.getElem?_drop] at hv
      rw [Addr.add_lit, cell_of_heap e, ← Array.getElem?_toList]; exact hv
end
end Go.Eng
