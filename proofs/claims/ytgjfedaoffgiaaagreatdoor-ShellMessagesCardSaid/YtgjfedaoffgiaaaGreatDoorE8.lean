/-
  Each operation of the evaluator tells what the machine's operation does: stores, addresses, parts, literals, pieces of slices.
-/
import Derived.Test.YtgjfedaoffgiaaaGreatDoorE7
import Derived.Laws.Tables
import Derived.Great.BuildSlice
namespace Go.Eng
section
variable {P : Program} {C : Cfg} {φ : Phi} {s s' : ASt} {w : World}

theorem putCells_ok {b o m : Nat} {vs cs : List Value} {u : Unit} (h : putCells b o vs m cs s = some (u, s')) :
    (!(Nat.beq m 1)) = true ∧ cs.all oneC = true ∧ ∃ r, lset vs o cs = some r ∧ s'.heap = s.heap.set b (.cells r m) := by
  unfold putCells at h
  cases hc : (!(Nat.beq m 1) && cs.all oneC) with
  | false => rw [hc] at h; simp only [cond_false] at h; exact (fail_ok h).elim
  | true =>
    rw [hc] at h
    simp only [cond_true] at h
    rw [Bool.and_eq_true] at hc
    cases hl : lset vs o cs with
    | none => rw [hl] at h; exact (fail_ok h).elim
    | some r => rw [hl] at h; exact ⟨hc.1, hc.2, r, rfl, (wr_ok h).1⟩

theorem aStore_ok (K : CfgOK P C) (R : Rel φ s.heap w) {t : TypeId} {p p' v v' : Value} {r : Go.Eng.R} (hp : VR φ p p') (hv : VR φ v v') (h : aStore C t p v s = some (r, s')) :
    r = .unit ∧ UnitOK P φ s.heap w s'.heap (Instr.storeAt t p' v') := by
  unfold aStore at h
  cases hi : C.ti t with
  | none => rw [hi] at h; exact (fail_ok h).elim
  | some i =>
  cases ha : addr p with
  | none => rw [hi, ha] at h; exact (fail_ok h).elim
  | some bo =>
  obtain ⟨b, o⟩ := bo
  rw [hi, ha] at h
  simp only at h
  obtain ⟨l, hl, rfl⟩ := hp.addr ha
  have T := K.ti _ _ hi
  cases hn : Nat.beq (cellsL v).length i.size with
  | false => rw [hn] at h; simp only [cond_false] at h; exact (fail_ok h).elim
  | true =>
  rw [hn] at h
  simp only [cond_true] at h
  have hn' := Nat.eq_of_beq_eq_true hn
  obtain ⟨⟨vs, m⟩, s1, h1, h2⟩ := bind_ok h
  obtain ⟨g, e1⟩ := cellsAt_ok h1
  obtain ⟨u, s2, h3, h4⟩ := bind_ok h2
  obtain ⟨rfl, rfl⟩ := ret_ok h4
  obtain ⟨q1, q2, r, q3, q4⟩ := putCells_ok h3
  obtain ⟨st, hrun, _, _⟩ := R.put (P := P) g hl q1 q2 q3 hv.cellsL
  refine ⟨rfl, φ, _, by rw [q4, e1]; exact st, ?_⟩
  have hsz : v'.cells.size = i.size := by
    have := hv.cellsL.length
    rw [← Array.length_toList, this, hn']
  simp [Instr.storeAt, Instr.sureAddr, storeVar, run_sizeOf' T, hsz, hrun]

/-- A new variable. -/
theorem Rel.new {H : Tr AObj} {b : Nat} {cs : List Value} {A : Array Value} (t : TypeId) (R : Rel φ H w) (hn : Gone H b) (hv : VRs φ cs A.toList) :
    Step φ H w (upd φ b ⟨w.heap.size, 0, 0⟩) (H.set b (.cells cs 0)) (w.alloc (.cells A t)) := by
  refine Step.alloc R hn rfl ⟨A, t, 0, 0, ?_, fun i v h => ?_, fun _ => ⟨rfl, rfl, ?_, rfl, rfl⟩, (fun h => by cases h), (fun h => by omega)⟩
  · show (w.heap.push _)[w.heap.size]? = _
    rw [Array.getElem?_push, if_pos rfl]
  · obtain ⟨v', h1, h2⟩ := hv.get i v h
    exact ⟨v', by simpa [Array.getElem?_toList] using h1, h2.mono (upd_ext (R.abs _ hn))⟩
  · have := hv.length; simpa using this
theorem aNew_ok (R : Rel φ s.heap w) {cs : List Value} {A : Array Value} {r : Go.Eng.R} (t : TypeId) (hv : VRs φ cs A.toList) (h : aNew cs s = some (r, s')) {m : Sem Value}
    (hm : m.run P w = .ok (.pointer (some ⟨w.heap.size, 0, none⟩)) (w.alloc (.cells A t))) : ∃ v, r = .val v ∧ ValOK P φ s.heap w v s'.heap m := by
  unfold aNew at h
  cases hc : cs.all oneC with
  | false => rw [hc] at h; simp only [cond_false] at h; exact (fail_ok h).elim
  | true =>
    rw [hc] at h
    simp only [cond_true] at h
    obtain ⟨b, s1, h1, h2⟩ := bind_ok h
    obtain ⟨g, e⟩ := nw_ok h1
    obtain ⟨rfl, rfl⟩ := val_ok h2
    refine ⟨_, rfl, _, _, _, by rw [e]; exact R.new t g hv, hm, ?_⟩
    have := VR.ptr (o := 0) (upd_same φ b ⟨w.heap.size, 0, 0⟩)
    simpa [ptr] using this
theorem aAlloc_ok (K : CfgOK P C) (R : Rel φ s.heap w) {t : TypeId} {i : TI} {r : Go.Eng.R} (hi : C.ti t = some i) (h : aNew i.zero s = some (r, s')) :
    ∃ v, r = .val v ∧ ValOK P φ s.heap w v s'.heap (Instr.alloc t true (.tuple #[])) := by
  have T := K.ti _ _ hi
  refine aNew_ok (A := i.zv.cells) (t := t) R (by rw [T.zvCells]; exact VRs.okc T.zer) h ?_
  simp [Instr.alloc, run_zeroValue' T, newVar, newRow]
theorem aBox_ok (R : Rel φ s.heap w) {t : TypeId} {v v' : Value} {r : Go.Eng.R} (hv : VR φ v v') (h : aNew (cellsL v) s = some (r, s')) :
    ∃ u, r = .val u ∧ ValOK P φ s.heap w u s'.heap (Instr.box t v') := by
  refine aNew_ok (A := v'.cells) (t := t) R hv.cellsL h ?_
  simp [Instr.box, newVar, newRow]

theorem toU_struct {d : TypeDesc} {fs : List FI} (h : toU d = .struct fs) : ∃ fields, d = .struct fields ∧ fields.toList.map toFI = fs := by
  cases d <;> simp [toU] at h
  exact ⟨_, rfl, h⟩
theorem field_of {fields : Array Field} {fs : List FI} {k : Nat} {fi : FI} (h : fields.toList.map toFI = fs) (hk : fs[k]? = some fi) : ∃ f, fields[k]? = some f ∧ f.offset = fi.off ∧ f.type = fi.ty := by
  rw [← h, List.getElem?_map] at hk
  cases hf : fields.toList[k]? with
  | none => simp [hf] at hk
  | some f =>
    simp [hf] at hk
    exact ⟨f, by simpa using hf, by rw [← hk]; rfl, by rw [← hk]; rfl⟩

theorem aFieldAddr_ok (K : CfgOK P C) (R : Rel φ s.heap w) {t : TypeId} {p p' : Value} {k : Nat} {r : Go.Eng.R} (hp : VR φ p p') (h : aFieldAddr C t p k s = some (r, s')) :
    ∃ v, r = .val v ∧ ValOK P φ s.heap w v s'.heap (Instr.fieldAt t p' k) := by
  unfold aFieldAddr at h
  cases hi : C.ti t with
  | none => rw [hi] at h; exact (fail_ok h).elim
  | some i =>
  cases ha : addr p with
  | none => rw [hi, ha] at h; exact (fail_ok h).elim
  | some bo =>
  obtain ⟨b, o⟩ := bo
  rw [hi, ha] at h
  simp only at h
  obtain ⟨l, hl, rfl⟩ := hp.addr ha
  have T := K.ti _ _ hi
  obtain ⟨d, hd, hu⟩ := T.und
  cases hU : i.u <;> rw [hU] at h <;> try exact (fail_ok h).elim
  rename_i fs
  simp only at h
  rw [hU] at hu
  obtain ⟨fields, rfl, hfs⟩ := toU_struct hu
  cases hk : fs[k]? with
  | none => rw [hk] at h; exact (fail_ok h).elim
  | some fi =>
  rw [hk] at h
  simp only at h
  obtain ⟨f, hf, e1, e2⟩ := field_of hfs hk
  cases hft : C.ti fi.ty with
  | none => rw [hft] at h; exact (fail_ok h).elim
  | some ft =>
  rw [hft] at h
  simp only at h
  have TF := K.ti _ _ hft
  rw [← e2] at TF
  cases hz : Nat.beq ft.size 0 with
  | true => rw [hz] at h; simp only [cond_true] at h; exact (fail_ok h).elim
  | false =>
  rw [hz] at h
  obtain ⟨rfl, rfl⟩ := val_ok h
  have hz' : ¬ ft.size = 0 := fun e => by rw [e] at hz; cases hz
  refine ⟨_, rfl, .here R (v' := .pointer (some ⟨l.blk, l.sh + (o + fi.off), none⟩)) ?_ (.ptr hl)⟩
  simp [Instr.fieldAt, run_underlying hd, hf, Instr.sureAddr, fieldPlace, run_sizeOf' TF, hz', Addr.add_lit, e1, Nat.add_assoc]

theorem partA_ok (K : CfgOK P C) {t : TypeId} {cs : List Value} {cs' : Array Value} {off : Nat} {v : Value} (hv : VRs φ cs cs'.toList) (h : partA C t cs off = some v) (w : World) :
    ∃ v', (part t cs' off).run P w = .ok v' w ∧ VR φ v v' := by
  unfold partA at h
  cases hi : C.ti t with
  | none => rw [hi] at h; cases h
  | some i =>
  rw [hi] at h
  simp only at h
  have T := K.ti _ _ hi
  cases hg : i.agg with
  | true =>
    rw [hg] at h
    simp only [cond_true] at h
    cases hc : lsub cs off i.size with
    | none => rw [hc] at h; cases h
    | some r =>
      rw [hc] at h
      cases h
      obtain ⟨_, q1, q2⟩ := lsub_ok hc
      refine ⟨.agg (cs'.extract off (off + i.size)), by simp [part, run_isAgg T, hg, run_sizeOf' T], .agg ?_⟩
      have hlen := hv.length
      refine VRs.of_get ?_ fun j v hj => ?_
      · simp at hlen ⊢
        rcases Nat.eq_zero_or_pos i.size with h0 | h0
        · omega
        · have := (q2 (i.size - 1) r[i.size - 1] (by rw [List.getElem?_eq_getElem])).1
          have := (List.getElem?_eq_some_iff.1 this).1
          omega
      · simp at hj
        obtain ⟨h1, h2⟩ := q2 j v hj
        obtain ⟨v', h3, h4⟩ := hv.get _ _ h1
        refine ⟨v', ?_, h4⟩
        have hlt := (List.getElem?_eq_some_iff.1 h3).1
        simp at h3 hlt ⊢
        rw [List.getElem?_take, if_pos (by omega), List.getElem?_drop]
        simpa using h3
  | false =>
    rw [hg] at h
    simp only [cond_false] at h
    obtain ⟨v', h1, h2⟩ := hv.get _ _ h
    simp at h1
    exact ⟨v', by simp [part, run_isAgg T, hg, h1], h2⟩

theorem aField_ok (K : CfgOK P C) (R : Rel φ s.heap w) {t : TypeId} {x x' : Value} {k : Nat} {r : Go.Eng.R} (hx : VR φ x x') (h : aField C t x k s = some (r, s')) :
    ∃ v, r = .val v ∧ ValOK P φ s.heap w v s'.heap (Instr.field t x' k) := by
  unfold aField at h
  cases hi : C.ti t with
  | none => rw [hi] at h; cases x <;> exact (fail_ok h).elim
  | some i =>
  rw [hi] at h
  cases hx with
  | agg hc =>
    rename_i c c'
    simp only at h
    have T := K.ti _ _ hi
    obtain ⟨d, hd, hu⟩ := T.und
    cases hU : i.u <;> rw [hU] at h <;> try exact (fail_ok h).elim
    rename_i fs
    simp only at h
    rw [hU] at hu
    obtain ⟨fields, rfl, hfs⟩ := toU_struct hu
    cases hk : fs[k]? with
    | none => rw [hk] at h; exact (fail_ok h).elim
    | some fi =>
    rw [hk] at h
    simp only at h
    obtain ⟨f, hf, e1, e2⟩ := field_of hfs hk
    obtain ⟨v, hv, rfl, rfl⟩ := valO_ok h
    obtain ⟨v', h1, h2⟩ := partA_ok K hc hv w
    refine ⟨_, rfl, .here R (v' := v') ?_ h2⟩
    simp [Instr.field, run_underlying hd, hf, e1, e2, asAgg, h1]
  | _ => exact (fail_ok h).elim

theorem inRange_ok {i : Int} {n k : Nat} (h : inRange i n = some k) : i = k ∧ k < n := by
  unfold inRange at h
  split at h
  · rename_i j
    cases hb : Nat.blt j n with
    | false => rw [hb] at h; cases h
    | true =>
      rw [hb] at h
      simp at h; subst h
      exact ⟨rfl, by simpa using hb⟩
  · cases h
theorem toU_array {d : TypeDesc} {n e : Nat} (h : toU d = .array n e) : d = .array n e := by
  cases d <;> simp [toU] at h
  obtain ⟨rfl, rfl⟩ := h; rfl
theorem toU_slice {d : TypeDesc} {e : Nat} (h : toU d = .slice e) : d = .slice e := by
  cases d <;> simp [toU] at h
  subst h; rfl
theorem toU_str {d : TypeDesc} (h : toU d = .str) : d = .string := by
  cases d <;> simp [toU] at h; rfl
theorem toU_int {d : TypeDesc} {k : IntKind} (h : toU d = .int k) : d = .int k := by
  cases d <;> simp [toU] at h; subst h; rfl
theorem toU_map {d : TypeDesc} {k e : Nat} (h : toU d = .map k e) : d = .map k e := by
  cases d <;> simp [toU] at h; obtain ⟨rfl, rfl⟩ := h; rfl
theorem toU_ptr {d : TypeDesc} {e : Nat} (h : toU d = .ptr e) : d = .pointer e := by
  cases d <;> simp [toU] at h; subst h; rfl

theorem aIndexAddr_ok (K : CfgOK P C) (R : Rel φ s.heap w) {t : TypeId} {x x' i i' : Value} {r : Go.Eng.R} (hx : VR φ x x') (hix : VR φ i i') (h : aIndexAddr C t x i s = some (r, s')) :
    ∃ v, r = .val v ∧ ValOK P φ s.heap w v s'.heap (Instr.indexAt t x' i') := by
  unfold aIndexAddr at h
  cases hi : C.ti t with
  | none => rw [hi] at h; cases i <;> exact (fail_ok h).elim
  | some ti =>
  rw [hi] at h
  cases hix with
  | int k n =>
    simp only at h
    have T := K.ti _ _ hi
    obtain ⟨d, hd, hu⟩ := T.und
    cases hU : ti.u <;> rw [hU] at h <;> try exact (fail_ok h).elim
    case slice e =>
      simp only at h
      rw [hU] at hu
      obtain rfl := toU_slice hu
      cases he : C.ti e with
      | none => rw [he] at h; exact (fail_ok h).elim
      | some et =>
      rw [he] at h
      have TE := K.ti _ _ he
      cases hx with
      | slice hb =>
        rename_i b o n' c l
        simp only at h
        cases hr : inRange n n' with
        | none => rw [hr] at h; exact (fail_ok h).elim
        | some j =>
        rw [hr] at h
        obtain ⟨rfl, rfl⟩ := val_ok h
        obtain ⟨rfl, hlt⟩ := inRange_ok hr
        refine ⟨_, rfl, .here R (v' := .pointer (some ⟨l.blk, l.sh + (o + j * et.size), none⟩)) ?_ (.ptr hb)⟩
        simp [Instr.indexAt, asIntOf, run_underlying hd, hlt, run_sizeOf' TE, Addr.add_lit, Nat.add_assoc]
      | slice0 a hb =>
        simp only at h
        cases hr : inRange n 0 with
        | none => rw [hr] at h; exact (fail_ok h).elim
        | some j => obtain ⟨_, hlt⟩ := inRange_ok hr; omega
      | _ => exact (fail_ok h).elim
    case array m e =>
      simp only at h
      rw [hU] at hu
      obtain rfl := toU_array hu
      cases he : C.ti e with
      | none => rw [he] at h; exact (fail_ok h).elim
      | some et =>
      have TE := K.ti _ _ he
      cases ha : addr x with
      | none => rw [he, ha] at h; exact (fail_ok h).elim
      | some bo =>
      obtain ⟨b, o⟩ := bo
      cases hr : inRange n m with
      | none => rw [he, ha, hr] at h; exact (fail_ok h).elim
      | some j =>
      rw [he, ha, hr] at h
      obtain ⟨rfl, rfl⟩ := val_ok h
      obtain ⟨l, hl, rfl⟩ := hx.addr ha
      obtain ⟨rfl, hlt⟩ := inRange_ok hr
      refine ⟨_, rfl, .here R (v' := .pointer (some ⟨l.blk, l.sh + (o + j * et.size), none⟩)) ?_ (.ptr hl)⟩
      simp [Instr.indexAt, asIntOf, run_underlying hd, hlt, run_sizeOf' TE, Addr.add_lit, Nat.add_assoc, Instr.sureAddr]
  | _ => exact (fail_ok h).elim

theorem aIndex_ok (K : CfgOK P C) (R : Rel φ s.heap w) {t : TypeId} {x x' i i' : Value} {r : Go.Eng.R} (hx : VR φ x x') (hix : VR φ i i') (h : aIndex C t x i s = some (r, s')) :
    ∃ v, r = .val v ∧ ValOK P φ s.heap w v s'.heap (Instr.index t x' i') := by
  unfold aIndex at h
  cases hi : C.ti t with
  | none => rw [hi] at h; cases i <;> exact (fail_ok h).elim
  | some ti =>
  rw [hi] at h
  cases hix with
  | int k n =>
    simp only at h
    have T := K.ti _ _ hi
    obtain ⟨d, hd, hu⟩ := T.und
    cases hU : ti.u <;> rw [hU] at h <;> try (cases x <;> exact (fail_ok h).elim)
    case str =>
      rw [hU] at hu
      obtain rfl := toU_str hu
      cases hx with
      | str sb =>
        simp only at h
        cases hr : inRange n sb.size with
        | none => rw [hr] at h; exact (fail_ok h).elim
        | some j =>
        rw [hr] at h
        simp only at h
        obtain ⟨rfl, hlt⟩ := inRange_ok hr
        cases hb : sb.data.toList[j]? with
        | none => rw [hb] at h; exact (fail_ok h).elim
        | some b =>
        rw [hb] at h
        obtain ⟨rfl, rfl⟩ := val_ok h
        have hb' : sb[j]? = some b := by
          have h1 : sb.data[j]? = some b := by simpa using hb
          obtain ⟨q, e⟩ := Array.getElem?_eq_some_iff.1 h1
          rw [getElem?_pos sb j hlt]
          exact congrArg some e
        refine ⟨_, rfl, .here R (v' := .int .u8 b.toNat) ?_ (.int _ _)⟩
        simp [Instr.index, asIntOf, run_underlying hd, hb']
      | _ => exact (fail_ok h).elim
    case array m e =>
      rw [hU] at hu
      obtain rfl := toU_array hu
      cases hx with
      | agg hc =>
        simp only at h
        cases he : C.ti e with
        | none => rw [he] at h; exact (fail_ok h).elim
        | some et =>
        have TE := K.ti _ _ he
        cases hr : inRange n m with
        | none => rw [he, hr] at h; exact (fail_ok h).elim
        | some j =>
        rw [he, hr] at h
        obtain ⟨rfl, hlt⟩ := inRange_ok hr
        obtain ⟨v, hv, rfl, rfl⟩ := valO_ok h
        obtain ⟨v', h1, h2⟩ := partA_ok K hc hv w
        refine ⟨_, rfl, .here R (v' := v') ?_ h2⟩
        simp [Instr.index, asIntOf, run_underlying hd, hlt, run_sizeOf' TE, h1]
      | _ => exact (fail_ok h).elim
  | _ => exact (fail_ok h).elim
end
end Go.Eng
