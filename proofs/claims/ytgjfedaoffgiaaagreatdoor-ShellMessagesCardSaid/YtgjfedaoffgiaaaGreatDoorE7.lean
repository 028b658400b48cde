/-
  Each operation of the evaluator tells what the machine's operation does: loads, stores, new variables, addresses, parts.
-/
import Derived.Test.YtgjfedaoffgiaaaGreatDoorE6
namespace Go.Eng
def ValOK (P : Program) (φ : Phi) (H : Tr AObj) (w : World) (v : Value) (H' : Tr AObj) (m : Sem Value) : Prop :=
  ∃ φ' w' v', Step φ H w φ' H' w' ∧ m.run P w = .ok v' w' ∧ VR φ' v v'
def UnitOK (P : Program) (φ : Phi) (H : Tr AObj) (w : World) (H' : Tr AObj) (m : Sem Unit) : Prop :=
  ∃ φ' w', Step φ H w φ' H' w' ∧ m.run P w = .ok () w'
theorem ValOK.here {P : Program} {φ : Phi} {H : Tr AObj} {w : World} {v v' : Value} {m : Sem Value} (R : Rel φ H w) (h : m.run P w = .ok v' w) (r : VR φ v v') : ValOK P φ H w v H m :=
  ⟨φ, w, v', Step.refl R, h, r⟩

def arrSet : Array Value → Nat → List Value → Array Value
  | A, _, [] => A
  | A, o, v :: vs => arrSet (A.setIfInBounds o v) (o + 1) vs
theorem arrSet_size : ∀ (vs : List Value) (A : Array Value) (o : Nat), (arrSet A o vs).size = A.size
  | [], _, _ => rfl
  | v :: vs, A, o => by simp [arrSet, arrSet_size vs]
theorem arrSet_get : ∀ (vs : List Value) (A : Array Value) (o i : Nat), (arrSet A o vs)[i]? = if o ≤ i ∧ i < o + vs.length ∧ i < A.size then vs[i - o]? else A[i]?
  | [], A, o, i => by simp only [arrSet, List.length_nil]; rw [if_neg (by omega)]
  | v :: vs, A, o, i => by
    simp only [arrSet, arrSet_get vs, List.length_cons, Array.size_setIfInBounds]
    by_cases h : o + 1 ≤ i ∧ i < o + 1 + vs.length ∧ i < A.size
    · rw [if_pos h, if_pos (by omega), show i - o = (i - (o + 1)) + 1 by omega]; simp
    · rw [if_neg h, Array.getElem?_setIfInBounds]
      by_cases e : o = i
      · subst e
        by_cases hs : o < A.size
        · rw [if_pos rfl, if_pos hs, if_pos (by omega)]; simp
        · rw [if_pos rfl, if_neg hs, if_neg (by omega), Array.getElem?_eq_none (by omega)]
      · rw [if_neg e, if_neg (by omega)]
theorem heap_setCells : ∀ (vs : List Value) (w : World) (b o : Nat) (A : Array Value) (t : TypeId) (fz : Nat × Nat), w.heap[b]? = some (.cells A t fz) →
    (w.setCells b o vs).heap[b]? = some (.cells (arrSet A o vs) t fz)
  | [], _, _, _, _, _, _, h => h
  | v :: vs, w, b, o, A, t, fz, h => by
    simp only [World.setCells, arrSet]
    refine heap_setCells vs _ b (o + 1) _ t fz ?_
    simp only [World.setCell, Array.getElem?_modify, if_true, h, Option.map_some]
    rfl
theorem setCells_other : ∀ (vs : List Value) (w : World) (b o k : Nat), k ≠ b → (w.setCells b o vs).heap[k]? = w.heap[k]?
  | [], _, _, _, _, _ => rfl
  | v :: vs, w, b, o, k, h => by
    simp only [World.setCells]
    rw [setCells_other vs _ b (o + 1) k h]
    simp only [World.setCell, Array.getElem?_modify]
    rw [if_neg (fun e => h e.symm)]
theorem setCells_size : ∀ (vs : List Value) (w : World) (b o : Nat), (w.setCells b o vs).heap.size = w.heap.size
  | [], _, _, _ => rfl
  | v :: vs, w, b, o => by simp only [World.setCells]; rw [setCells_size vs]; simp
theorem setCells_same : ∀ (vs : List Value) (w : World) (b o : Nat), (w.setCells b o vs).os = w.os ∧ (w.setCells b o vs).tape = w.tape ∧ (w.setCells b o vs).output = w.output
  | [], _, _, _ => ⟨rfl, rfl, rfl⟩
  | v :: vs, w, b, o => setCells_same vs (w.setCell ⟨b, o, none⟩ v) b (o + 1)

theorem lset_ok : ∀ {vs : List Value} {o : Nat} {cs r : List Value}, lset vs o cs = some r →
    r.length = vs.length ∧ o + cs.length ≤ vs.length ∧ ∀ i, r[i]? = if o ≤ i ∧ i < o + cs.length then cs[i - o]? else vs[i]?
  | vs, 0, [], r, h => by
    cases vs <;> (simp only [lset, Option.some.injEq] at h; subst h; refine ⟨rfl, by simp, fun i => ?_⟩; rw [if_neg (by simp)])
  | [], 0, c :: cs, r, h => by simp [lset] at h
  | v :: vs, 0, c :: cs, r, h => by
    simp only [lset] at h
    split at h
    · rename_i q e
      cases h
      obtain ⟨h1, h2, h3⟩ := lset_ok e
      refine ⟨by simp [h1], by simp at h2 ⊢; omega, fun i => ?_⟩
      cases i with
      | zero => simp
      | succ i =>
        simp only [List.getElem?_cons_succ, h3 i, List.length_cons]
        by_cases hi : i < cs.length
        · rw [if_pos (by omega), if_pos (by omega)]; simp
        · rw [if_neg (by omega), if_neg (by omega)]
    · cases h
  | [], n + 1, cs, r, h => by simp [lset] at h
  | v :: vs, n + 1, cs, r, h => by
    simp only [lset] at h
    split at h
    · rename_i q e
      cases h
      obtain ⟨h1, h2, h3⟩ := lset_ok e
      refine ⟨by simp [h1], by simp; omega, fun i => ?_⟩
      cases i with
      | zero => rw [if_neg (by omega)]; simp
      | succ i =>
        simp only [List.getElem?_cons_succ, h3 i]
        by_cases hi : n ≤ i ∧ i < n + cs.length
        · rw [if_pos hi, if_pos (by omega)]; congr 1; omega
        · rw [if_neg hi, if_neg (by omega)]
    · cases h

section
variable {P : Program} {C : Cfg} {φ : Phi} {s s' : ASt} {w : World}
theorem run_isAgg {t : TypeId} {i : TI} (h : TIok P t i) (w : World) : (isAgg t).run P w = .ok i.agg w := by
  obtain ⟨d, hd, e⟩ := h.und
  unfold TI.agg
  rw [← e]
  cases d <;> simp [isAgg, run_underlying hd, toU]
theorem run_sizeOf' {t : TypeId} {i : TI} (h : TIok P t i) (w : World) : (sizeOf t).run P w = .ok i.size w := by
  obtain ⟨x, hx, e, _⟩ := h.info
  simp [sizeOf, typeInfo, hx, e]
theorem run_zeroValue' {t : TypeId} {i : TI} (h : TIok P t i) (w : World) : (zeroValue t).run P w = .ok i.zv w := by
  obtain ⟨x, hx, _, _, e⟩ := h.info
  simp [zeroValue, typeInfo, hx, e]
theorem TIok.zvCells {t : TypeId} {i : TI} (h : TIok P t i) : i.zv.cells.toList = i.zero := by
  cases ha : i.agg with
  | true => simp [TI.zv, ha, Value.cells]
  | false =>
    have h1 := h.one ha
    have hz := h.zer
    rw [h1] at hz ⊢
    simp at hz
    revert hz
    cases i.zv <;> simp [Value.cells, okc]
theorem TIok.zvVR {t : TypeId} {i : TI} (h : TIok P t i) : VR φ i.zv i.zv := by
  cases ha : i.agg with
  | true => simp only [TI.zv, ha, cond_true]; exact .agg (by simpa using VRs.okc h.zer)
  | false =>
    have h1 := h.one ha
    have hz := h.zer
    rw [h1] at hz
    exact VR.okc (by simpa using hz)
theorem zeroV_ok {t : TypeId} {i : TI} {v : Value} (h : TIok P t i) (e : zeroV i = some v) : v = i.zv := by
  unfold zeroV at e
  cases ha : i.agg with
  | true => simp [ha] at e; simp [TI.zv, ha, e]
  | false =>
    have h1 := h.one ha
    rw [ha, h1] at e
    simp at e; exact e.symm

theorem aLoad_ok (K : CfgOK P C) (R : Rel φ s.heap w) {t : TypeId} {p p' : Value} {r : Go.Eng.R} (hp : VR φ p p') (h : aLoad C t p s = some (r, s')) :
    ∃ v, r = .val v ∧ ValOK P φ s.heap w v s'.heap (Instr.loadAt t p') := by
  unfold aLoad at h
  cases hi : C.ti t with
  | none => rw [hi] at h; exact (fail_ok h).elim
  | some i =>
  cases ha : addr p with
  | none => rw [hi, ha] at h; exact (fail_ok h).elim
  | some bo =>
  obtain ⟨b, o⟩ := bo
  rw [hi, ha] at h
  simp only at h
  obtain ⟨l, hl, rfl⟩ := hp.addr ha
  obtain ⟨⟨vs, m⟩, s1, h1, h2⟩ := bind_ok h
  obtain ⟨g, e1⟩ := cellsAt_ok h1
  have T := K.ti _ _ hi
  simp only at h2
  cases hg : i.agg with
  | true =>
    rw [hg] at h2
    simp only [cond_true] at h2
    cases hc : lsub vs o i.size with
    | none => rw [hc] at h2; exact (fail_ok h2).elim
    | some cs =>
      rw [hc] at h2
      obtain ⟨rfl, rfl⟩ := val_ok h2
      obtain ⟨r', hl', _, hv, hrun⟩ := R.stretch (P := P) g hl hc
      refine ⟨_, rfl, ?_⟩
      rw [e1]
      refine .here R (v' := .agg r'.toArray) ?_ (.agg (by simpa using hv))
      simp [Instr.loadAt, Instr.sureAddr, loadVar, run_isAgg T, hg, run_sizeOf' T, hrun]
  | false =>
    rw [hg] at h2
    simp only [cond_false] at h2
    obtain ⟨v, hv, rfl, rfl⟩ := valO_ok h2
    obtain ⟨v', h3, h4⟩ := R.cell g hl hv
    refine ⟨_, rfl, ?_⟩
    rw [e1]
    refine .here R (v' := v') ?_ h4
    simp [Instr.loadAt, Instr.sureAddr, loadVar, run_isAgg T, hg, run_load, h3]

/-- Writing a stretch. -/
theorem Rel.put {H : Tr AObj} {b m o : Nat} {vs cs cs' r : List Value} {l : Loc} (R : Rel φ H w) (g : H.get b = some (.cells vs m)) (hl : φ b = some l) (hm : (!(Nat.beq m 1)) = true)
    (h1 : cs.all oneC = true) (hr : lset vs o cs = some r) (hv : VRs φ cs cs') :
    Step φ H w φ (H.set b (.cells r m)) (w.setCells l.blk (l.sh + o) cs') ∧ (storeCells ⟨l.blk, l.sh + o, none⟩ cs').run P w = .ok () (w.setCells l.blk (l.sh + o) cs') ∧
      (∀ j, j < cs'.length → (w.cell? ⟨l.blk, l.sh + o + j, none⟩).isSome = true) ∧ (∀ j, j < cs'.length → w.frozen? ⟨l.blk, l.sh + o + j, none⟩ = false) := by
  obtain ⟨hr1, hr2, hr3⟩ := lset_ok hr
  obtain ⟨A, t, lo, hi, e, c, c0, c1, c2⟩ := R.cells g hl
  have hlen := hv.length
  have hm1 : m ≠ 1 := fun x => by subst x; simp at hm
  have hsz : l.sh + vs.length ≤ A.size := by
    rcases Nat.lt_or_ge m 2 with hm2 | hm2
    · have hm0 : m = 0 := by omega
      obtain ⟨x1, x2, x3, _⟩ := c0 hm0
      omega
    · have := (c2 hm2).1; omega
  have hfz : ∀ i, i < A.size → ¬ (lo ≤ i ∧ i < hi) := by
    rcases Nat.lt_or_ge m 2 with hm2 | hm2
    · have hm0 : m = 0 := by omega
      obtain ⟨_, _, _, x4, x5⟩ := c0 hm0
      subst x4; subst x5
      intro i _; omega
    · exact (c2 hm2).2
  have hcell : ∀ j, j < cs'.length → (w.cell? ⟨l.blk, l.sh + o + j, none⟩).isSome = true := fun j hj => by
    rw [cell_of_heap e, Array.getElem?_eq_getElem (by omega)]; rfl
  have hfro : ∀ j, j < cs'.length → w.frozen? ⟨l.blk, l.sh + o + j, none⟩ = false := fun j hj => by
    have := hfz (l.sh + o + j) (by omega)
    simp only [World.frozen?, e]
    simpa using this
  refine ⟨?_, ?_, hcell, hfro⟩
  · obtain ⟨q1, q2, q3⟩ := setCells_same cs' w l.blk (l.sh + o)
    refine Step.write R g (by simpa [AObj.rw] using hm) hl (setCells_size _ _ _ _) (fun k hk => setCells_other _ _ _ _ _ hk) q1 q2 q3 ?_
    refine ⟨_, t, lo, hi, heap_setCells _ _ _ _ _ _ _ e, fun i v hv' => ?_, fun h0 => ?_, fun h1 => absurd h1 hm1, fun h2 => ?_⟩
    · rw [hr3 i] at hv'
      rw [arrSet_get]
      by_cases hin : o ≤ i ∧ i < o + cs.length
      · rw [if_pos hin] at hv'
        obtain ⟨v', h3, h4⟩ := hv.get _ _ hv'
        refine ⟨v', ?_, h4⟩
        rw [if_pos (by omega), show l.sh + i - (l.sh + o) = i - o by omega]
        exact h3
      · rw [if_neg hin] at hv'
        obtain ⟨v', h3, h4⟩ := c _ _ hv'
        refine ⟨v', ?_, h4⟩
        rw [if_neg (by omega)]
        exact h3
    · obtain ⟨x1, x2, x3, x4, x5⟩ := c0 h0
      exact ⟨x1, x2, by rw [arrSet_size, hr1]; exact x3, x4, x5⟩
    · obtain ⟨x1, x2⟩ := c2 h2
      rw [arrSet_size, hr1]; exact ⟨x1, x2⟩
  · have hst := run_storeCells_cells (P := P) l.blk (l.sh + o) cs' 0 w (by simpa using hcell) (by simpa using hfro) (hv.oneC h1)
    simpa using hst
end
end Go.Eng
