/-
  Each operation of the evaluator tells what the machine's operation does: literals, made slices, pieces, conversions, interface values.
-/
import Derived.Test.YtgjfedaoffgiaaaGreatDoorE8
namespace Go.Eng
section
variable {P : Program} {C : Cfg} {φ : Phi} {s s' : ASt} {w : World}

theorem foldl_zip : ∀ (l : List Value) (k off : Nat) (A : Array Value), (l.zipIdx k).foldl (fun cs x => cs.setIfInBounds (off + x.2) x.1) A = arrSet A (off + k) l
  | [], _, _, _ => rfl
  | v :: l, k, off, A => by
    simp only [List.zipIdx_cons, List.foldl_cons, arrSet]
    rw [foldl_zip l (k + 1) off]
    rfl
theorem fill_cons (place : Nat → Option (Nat × Nat)) (A : Array Value) (i : Nat) (v : Value) (rest : List (Nat × Value)) {off : Nat} (hp : place i = some (off, v.cells.size)) (hs : off + v.cells.size ≤ A.size) :
    Instr.fill place A ((i, v) :: rest) = Instr.fill place (arrSet A off v.cells.toList) rest := by
  have h := foldl_zip v.cells.toList 0 off A
  simp only [Nat.add_zero] at h
  rw [Instr.fill]
  simp only [hp, ne_eq, not_true_eq_false, decide_false, Bool.false_or, decide_eq_true_eq]
  rw [if_neg (by omega), ← h, ← Array.foldl_toList, Array.toList_zipIdx]
theorem VRs.set {cells cs r : List Value} {A : Array Value} {cs' : List Value} {off : Nat} (h : VRs φ cells A.toList) (hc : VRs φ cs cs') (e : lset cells off cs = some r) : VRs φ r (arrSet A off cs').toList ∧ off + cs'.length ≤ A.size := by
  obtain ⟨h1, h2, h3⟩ := lset_ok e
  have l1 := h.length
  have l2 := hc.length
  simp at l1
  refine ⟨VRs.of_get (by simp [arrSet_size, l1, h1]) fun i v hv => ?_, by omega⟩
  rw [h3 i] at hv
  rw [Array.getElem?_toList, arrSet_get]
  by_cases hin : off ≤ i ∧ i < off + cs.length
  · rw [if_pos hin] at hv
    rw [if_pos (by omega)]
    exact hc.get _ _ hv
  · rw [if_neg hin] at hv
    rw [if_neg (by omega), ← Array.getElem?_toList]
    exact h.get _ _ hv

inductive PR (φ : Phi) : List (Nat × Value) → List (Nat × Value) → Prop
  | nil : PR φ [] []
  | cons (i : Nat) {v v' : Value} {l l' : List (Nat × Value)} (h : VR φ v v') (t : PR φ l l') : PR φ ((i, v) :: l) ((i, v') :: l')
theorem lfill_ok {place : Nat → Option (Nat × Nat)} : ∀ {ps ps' : List (Nat × Value)} {cells r : List Value} {A : Array Value}, PR φ ps ps' → VRs φ cells A.toList → lfill place cells ps = some r →
    ∃ B, Instr.fill place A ps' = some B ∧ VRs φ r B.toList
  | _, _, _, _, A, .nil, h, e => by simp [lfill] at e; subst e; exact ⟨A, rfl, h⟩
  | _, _, cells, r, A, .cons i (v := v) (v' := v') (l := l) (l' := l') hv t, h, e => by
    simp only [lfill] at e
    cases hp : place i with
    | none => rw [hp] at e; cases e
    | some os =>
      obtain ⟨off, size⟩ := os
      rw [hp] at e
      simp only at e
      cases hn : Nat.beq (cellsL v).length size with
      | false => rw [hn] at e; cases e
      | true =>
        rw [hn] at e
        simp only [cond_true] at e
        cases hl : lset cells off (cellsL v) with
        | none => rw [hl] at e; cases e
        | some q =>
          rw [hl] at e
          simp only at e
          have hn' := Nat.eq_of_beq_eq_true hn
          have hsz : v'.cells.size = size := by
            have := hv.cellsL.length
            rw [← Array.length_toList, this, hn']
          obtain ⟨h1, h2⟩ := h.set hv.cellsL hl
          obtain ⟨B, h3, h4⟩ := lfill_ok t h1 e
          refine ⟨B, ?_, h4⟩
          rw [fill_cons place A i v' l' (off := off) (by rw [hp, hsz]) (by simpa using h2)]
          exact h3

theorem sizes_ok (K : CfgOK P C) : ∀ {fields : List Field} {pl : List (Nat × Nat)}, sizes C (fields.map toFI) = some pl →
    fields.mapM (fun f => (P.info? f.type).map fun i => (f.offset, i.size)) = some pl
  | [], pl, h => by simp [sizes] at h; subst h; rfl
  | f :: fs, pl, h => by
    simp only [List.map_cons, sizes, toFI] at h
    cases ht : C.ti f.type with
    | none => rw [ht] at h; cases h
    | some t =>
      rw [ht] at h
      cases hr : sizes C (fs.map toFI) with
      | none => rw [hr] at h; cases h
      | some rest =>
        rw [hr] at h
        simp at h
        subst h
        obtain ⟨x, hx, e, _⟩ := (K.ti _ _ ht).info
        simp [List.mapM_cons, hx, sizes_ok K hr, e]

theorem aBuild_ok (K : CfgOK P C) (R : Rel φ s.heap w) {t : TypeId} {ps : List (Nat × Value)} {ps' : Array (Nat × Value)} {r : Go.Eng.R} (hp : PR φ ps ps'.toList) (h : aBuild C t ps s = some (r, s')) :
    ∃ v, r = .val v ∧ ValOK P φ s.heap w v s'.heap (Instr.build t ps') := by
  unfold aBuild at h
  cases hi : C.ti t with
  | none => rw [hi] at h; exact (fail_ok h).elim
  | some ti =>
  rw [hi] at h
  simp only at h
  have T := K.ti _ _ hi
  obtain ⟨d, hd, hu⟩ := T.und
  obtain ⟨x, hx, _, _, hz⟩ := T.info
  have hz0 : VRs φ ti.zero ti.zv.cells.toList := by rw [T.zvCells]; exact VRs.okc T.zer
  cases hU : ti.u <;> rw [hU] at h <;> try exact (fail_ok h).elim
  case array n e =>
    simp only at h
    rw [hU] at hu
    obtain rfl := toU_array hu
    cases he : C.ti e with
    | none => rw [he] at h; exact (fail_ok h).elim
    | some et =>
    rw [he] at h
    simp only at h
    obtain ⟨y, hy, ey, _⟩ := (K.ti _ _ he).info
    cases hl : lfill (fun i => some (i * et.size, et.size)) ti.zero ps with
    | none => rw [hl] at h; exact (fail_ok h).elim
    | some q =>
    rw [hl] at h
    obtain ⟨rfl, rfl⟩ := val_ok h
    obtain ⟨B, h1, h2⟩ := lfill_ok hp hz0 hl
    refine ⟨_, rfl, .here R (v' := .agg B) ?_ (.agg (by simpa using h2))⟩
    refine run_build w t ps' B ?_
    simp [Program.built, hx, hd, hz, hy, ey, h1]
  case struct fs =>
    simp only at h
    rw [hU] at hu
    obtain ⟨fields, rfl, rfl⟩ := toU_struct hu
    cases hs : sizes C (fields.toList.map toFI) with
    | none => rw [hs] at h; exact (fail_ok h).elim
    | some pl =>
    rw [hs] at h
    simp only at h
    cases hl : lfill (fun i => pl[i]?) ti.zero ps with
    | none => rw [hl] at h; exact (fail_ok h).elim
    | some q =>
    rw [hl] at h
    obtain ⟨rfl, rfl⟩ := val_ok h
    obtain ⟨B, h1, h2⟩ := lfill_ok hp hz0 hl
    refine ⟨_, rfl, .here R (v' := .agg B) ?_ (.agg (by simpa using h2))⟩
    refine run_build w t ps' B ?_
    have hm := sizes_ok K hs
    simp only [Program.built, hx, hd, hz, hm]
    simpa using h1

theorem lrep_length (z : List Value) : ∀ n, (lrep z n).length = n * z.length
  | 0 => by simp [lrep]
  | n + 1 => by simp [lrep, lrep_length z n, Nat.succ_mul]; omega
theorem lrep_get (z : List Value) (hz : 0 < z.length) : ∀ n i, i < n * z.length → (lrep z n)[i]? = z[i % z.length]?
  | 0, i, h => by omega
  | n + 1, i, h => by
    simp only [lrep]
    by_cases hi : i < z.length
    · rw [List.getElem?_append_left hi, Nat.mod_eq_of_lt hi]
    · have hh : i - z.length < n * z.length := by rw [Nat.add_mul, Nat.one_mul] at h; omega
      rw [List.getElem?_append_right (by omega), lrep_get z hz n (i - z.length) hh, ← Nat.mod_eq_sub_mod (by omega)]
theorem map_range0 (f : Nat → Value) : (Array.range 0).map f = #[] := by simp
theorem zeros_VRs {t : TypeId} {i : TI} (T : TIok P t i) (hz : i.zero.length = i.size) (n : Nat) :
    VRs φ (lrep i.zero n) ((Array.range (n * i.size)).map (i.zv.cells[· % i.zv.cells.size]!)).toList := by
  have hc := T.zvCells
  have hsz : i.zv.cells.size = i.size := by rw [← Array.length_toList, hc, hz]
  refine VRs.of_get (by simp [lrep_length, hz]) fun k v hk => ?_
  have hlt : k < n * i.zero.length := by
    have := (List.getElem?_eq_some_iff.1 hk).1
    rwa [lrep_length] at this
  have hpos : 0 < i.zero.length := by
    rcases Nat.eq_zero_or_pos i.zero.length with h | h
    · rw [h] at hlt; omega
    · exact h
  rw [lrep_get _ hpos n k hlt] at hk
  refine ⟨v, ?_, VR.okc ?_⟩
  · rw [Array.getElem?_toList, Array.getElem?_map, Array.getElem?_range, if_pos (by rw [← hz]; exact hlt)]
    simp only [Option.map_some, hsz, ← hz]
    have h2 : i.zv.cells[k % i.zero.length]? = some v := by rw [← Array.getElem?_toList, hc]; exact hk
    rw [Array.getElem!_eq_getD, Array.getD_eq_getD_getElem?, h2]
    rfl
  · exact List.all_eq_true.1 T.zer v (List.mem_of_getElem? hk)

theorem aBuildSlice_ok (K : CfgOK P C) (R : Rel φ s.heap w) {t n : Nat} {ps : List (Nat × Value)} {ps' : Array (Nat × Value)} {r : Go.Eng.R} (hp : PR φ ps ps'.toList) (h : aBuildSlice C t n ps s = some (r, s')) :
    ∃ v, r = .val v ∧ ValOK P φ s.heap w v s'.heap (Instr.buildSlice t n ps') := by
  unfold aBuildSlice at h
  cases hi : C.ti t with
  | none => rw [hi] at h; exact (fail_ok h).elim
  | some ti =>
  rw [hi] at h
  simp only at h
  have T := K.ti _ _ hi
  obtain ⟨d, hd, hu⟩ := T.und
  cases hU : ti.u <;> rw [hU] at h <;> try exact (fail_ok h).elim
  rename_i e
  simp only at h
  rw [hU] at hu
  obtain rfl := toU_slice hu
  cases he : C.ti e with
  | none => rw [he] at h; exact (fail_ok h).elim
  | some et =>
  rw [he] at h
  simp only at h
  have TE := K.ti _ _ he
  obtain ⟨y, hy, ey, _, hz⟩ := TE.info
  cases hb : (Nat.beq et.zero.length et.size && Nat.ble (n * et.size) 16777216) with
  | false => rw [hb] at h; simp only [cond_false] at h; exact (fail_ok h).elim
  | true =>
  rw [hb] at h
  simp only [cond_true] at h
  rw [Bool.and_eq_true] at hb
  have hb1 := Nat.eq_of_beq_eq_true hb.1
  have hb2 := Nat.le_of_ble_eq_true hb.2
  cases hl : lfill (fun i => some (i * et.size, et.size)) (lrep et.zero n) ps with
  | none => rw [hl] at h; exact (fail_ok h).elim
  | some q =>
  rw [hl] at h
  simp only at h
  cases ho : q.all oneC with
  | false => rw [ho] at h; simp only [cond_false] at h; exact (fail_ok h).elim
  | true =>
  rw [ho] at h
  simp only [cond_true] at h
  obtain ⟨b, s1, h1, h2⟩ := bind_ok h
  obtain ⟨g, e1⟩ := nw_ok h1
  obtain ⟨rfl, rfl⟩ := val_ok h2
  obtain ⟨B, h3, h4⟩ := lfill_ok hp (zeros_VRs TE hb1 n) hl
  refine ⟨_, rfl, _, _, .slice (some ⟨w.heap.size, 0, none⟩) n n, by rw [e1]; exact R.new e g h4, ?_, ?_⟩
  · by_cases h0 : n * et.size = 0
    · rw [h0, map_range0] at h3
      simp [Instr.buildSlice, run_underlying hd, sizeOf, typeInfo, hy, ey, h0, newRow, map_range0, h3]
    · refine run_buildSlice w t e n ps' B y et.zv hd hy hz (by rw [ey]; omega) (by rw [ey]; exact h0) ?_
      rw [ey]
      exact h3
  · have := VR.slice (o := 0) (n := n) (c := n) (upd_same φ b ⟨w.heap.size, 0, 0⟩)
    simpa using this

theorem aMakeSlice_ok (K : CfgOK P C) (R : Rel φ s.heap w) {t : Nat} {n n' c c' : Value} {r : Go.Eng.R} (hn : VR φ n n') (hc : VR φ c c') (h : aMakeSlice C t n c s = some (r, s')) :
    ∃ v, r = .val v ∧ ValOK P φ s.heap w v s'.heap (Instr.makeSlice t n' c') := by
  unfold aMakeSlice at h
  cases hi : C.ti t with
  | none => rw [hi] at h; exact (fail_ok h).elim
  | some ti =>
  rw [hi] at h
  cases hn with
  | int k1 z1 =>
    cases hc with
    | int k2 z2 =>
      cases z1 with
      | negSucc _ => exact (fail_ok h).elim
      | ofNat n =>
      cases z2 with
      | negSucc _ => exact (fail_ok h).elim
      | ofNat c =>
      simp only at h
      have T := K.ti _ _ hi
      obtain ⟨d, hd, hu⟩ := T.und
      cases hU : ti.u <;> rw [hU] at h <;> try exact (fail_ok h).elim
      rename_i e
      simp only at h
      rw [hU] at hu
      obtain rfl := toU_slice hu
      cases he : C.ti e with
      | none => rw [he] at h; exact (fail_ok h).elim
      | some et =>
      rw [he] at h
      simp only at h
      have TE := K.ti _ _ he
      obtain ⟨y, hy, ey, eb, hz⟩ := TE.info
      cases hb : (Nat.beq et.zero.length et.size && Nat.ble n c && Nat.ble (c * (et.bytes + et.size + 1)) 16777216 && et.zero.all oneC) with
      | false => rw [hb] at h; simp only [cond_false] at h; exact (fail_ok h).elim
      | true =>
      rw [hb] at h
      simp only [cond_true] at h
      simp only [Bool.and_eq_true] at hb
      obtain ⟨⟨⟨hb1, hb2⟩, hb3⟩, hb4⟩ := hb
      have hb1 := Nat.eq_of_beq_eq_true hb1
      have hb2 := Nat.le_of_ble_eq_true hb2
      have hb3 := Nat.le_of_ble_eq_true hb3
      obtain ⟨b, s1, h1, h2⟩ := bind_ok h
      obtain ⟨g, e1⟩ := nw_ok h1
      obtain ⟨rfl, rfl⟩ := val_ok h2
      have hcl : c ≤ 16777216 := by
        refine Nat.le_trans ?_ hb3
        rw [Nat.mul_add, Nat.mul_one]; omega
      have hbb : c * et.bytes ≤ 16777216 := by
        refine Nat.le_trans ?_ hb3
        exact Nat.mul_le_mul_left c (by omega)
      have hw1 : IntKind.i64.wrap ((n : Nat) : Int) = (n : Int) := by rw [IntKind.wrap_i64]; omega
      have hw2 : IntKind.i64.wrap ((c : Nat) : Int) = (c : Int) := by rw [IntKind.wrap_i64]; omega
      refine ⟨_, rfl, _, _, .slice (some ⟨w.heap.size, 0, none⟩) n c, by rw [e1]; exact R.new e g (zeros_VRs TE hb1 c), ?_, ?_⟩
      · have k1 : ¬ ((et.bytes : Int) * (c : Int) > 281474976710656) := by
          have : ((c * et.bytes : Nat) : Int) ≤ 16777216 := Int.ofNat_le.2 hbb
          rw [Int.natCast_mul, Int.mul_comm] at this; omega
        have k3 : ¬ ((c : Int) < (n : Int)) := by omega
        have k4 : ¬ ((c : Int) < 0) := by omega
        have k5 : ¬ ((n : Int) < 0) := by omega
        by_cases h0 : c * et.size = 0
        · simp [Instr.makeSlice, run_underlying hd, asInt, asIntOf, typeInfo, hy, eb, ey, hw1, hw2, k1, k3, k4, k5, sizeOf, h0, askRoom, newRow, map_range0]
        · simp [Instr.makeSlice, run_underlying hd, asInt, asIntOf, typeInfo, hy, eb, ey, hw1, hw2, k1, k3, k4, k5, sizeOf, h0, zeroValue, hz, askRoom, newRow]
      · have := VR.slice (o := 0) (n := n) (c := c) (upd_same φ b ⟨w.heap.size, 0, 0⟩)
        simpa using this
    | _ => cases z1 <;> exact (fail_ok h).elim
  | _ => exact (fail_ok h).elim
end
end Go.Eng
