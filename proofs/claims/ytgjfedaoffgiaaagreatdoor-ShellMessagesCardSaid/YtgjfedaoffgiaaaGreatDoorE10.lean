/-
  Each operation of the evaluator tells what the machine's operation does: pieces of strings, slices and arrays; conversions; interface values.
-/
import Derived.Test.YtgjfedaoffgiaaaGreatDoorE9
namespace Go.Eng
section
variable {P : Program} {C : Cfg} {φ : Phi} {s s' : ASt} {w : World}

inductive OR (φ : Phi) : Option Value → Option Value → Prop
  | none : OR φ none none
  | some {v v' : Value} (h : VR φ v v') : OR φ (some v) (some v')
theorem bound_ok {d n k : Nat} {x x' : Option Value} (hx : OR φ x x') (h : bound d n x = some k) : (x' = none ∧ k = d) ∨ (∃ kd, x' = some (.int kd (k : Int)) ∧ k ≤ n) := by
  cases hx with
  | none => simp [bound] at h; exact .inl ⟨rfl, h.symm⟩
  | some hv =>
    right
    cases hv with
    | int kd z =>
      cases z with
      | negSucc _ => simp [bound] at h
      | ofNat j =>
        simp only [bound] at h
        cases hb : Nat.ble j n with
        | false => rw [hb] at h; cases h
        | true =>
          rw [hb] at h
          simp at h; subst h
          exact ⟨kd, rfl, Nat.le_of_ble_eq_true hb⟩
    | _ => simp [bound] at h
theorem run_sliceBounds (isS : Bool) {len cap capA l h : Nat} {lo hi lo' hi' : Option Value} (hlo : OR φ lo lo') (hhi : OR φ hi hi') (hh : bound len capA hi = some h) (hl : bound 0 h lo = some l) (hc : capA ≤ cap) (w : World) :
    (Instr.sliceBounds isS len cap lo' hi' none).run P w = .ok (l, h, cap) w := by
  rcases bound_ok hhi hh with ⟨rfl, rfl⟩ | ⟨kd, rfl, hk⟩ <;> rcases bound_ok hlo hl with ⟨rfl, rfl⟩ | ⟨kd2, rfl, hk2⟩
  · simp [Instr.sliceBounds]
  · simp [Instr.sliceBounds, Instr.sliceBound, asIntOf, hk2]
  · have : h ≤ cap := Nat.le_trans hk hc
    simp [Instr.sliceBounds, Instr.sliceBound, asIntOf, this]
  · have : h ≤ cap := Nat.le_trans hk hc
    simp [Instr.sliceBounds, Instr.sliceBound, asIntOf, this, hk2]
theorem bound_le {len n h l : Nat} {lo hi : Option Value} (hh : bound len n hi = some h) (hl : bound 0 h lo = some l) (hn : len ≤ n) : h ≤ n ∧ l ≤ h := by
  constructor
  · cases hi with
    | none => simp [bound] at hh; omega
    | some v => cases v with
      | int kd z => cases z with
        | negSucc _ => simp [bound] at hh
        | ofNat j =>
          simp only [bound] at hh
          cases hb : Nat.ble j n with
          | false => rw [hb] at hh; cases hh
          | true => rw [hb] at hh; simp at hh; subst hh; exact Nat.le_of_ble_eq_true hb
      | _ => simp [bound] at hh
  · cases lo with
    | none => simp [bound] at hl; omega
    | some v => cases v with
      | int kd z => cases z with
        | negSucc _ => simp [bound] at hl
        | ofNat j =>
          simp only [bound] at hl
          cases hb : Nat.ble j h with
          | false => rw [hb] at hl; cases hl
          | true => rw [hb] at hl; simp at hl; subst hl; exact Nat.le_of_ble_eq_true hb
      | _ => simp [bound] at hl

theorem bound_le2 {h l : Nat} {lo : Option Value} (hl : bound 0 h lo = some l) : l ≤ h := by
  cases lo with
  | none => simp [bound] at hl; omega
  | some v => cases v with
    | int kd z => cases z with
      | negSucc _ => simp [bound] at hl
      | ofNat j =>
        simp only [bound] at hl
        cases hb : Nat.ble j h with
        | false => rw [hb] at hl; cases hl
        | true => rw [hb] at hl; simp at hl; subst hl; exact Nat.le_of_ble_eq_true hb
    | _ => simp [bound] at hl
theorem aSlice_ok (K : CfgOK P C) (R : Rel φ s.heap w) {t : TypeId} {x x' : Value} {lo hi lo' hi' : Option Value} {r : Go.Eng.R} (hx : VR φ x x') (hlo : OR φ lo lo') (hhi : OR φ hi hi') (h : aSlice C t x lo hi s = some (r, s')) :
    ∃ v, r = .val v ∧ ValOK P φ s.heap w v s'.heap (Instr.sliceAt t x' lo' hi' none) := by
  unfold aSlice at h
  cases hti : C.ti t with
  | none => rw [hti] at h; exact (fail_ok h).elim
  | some ti =>
  rw [hti] at h
  simp only at h
  have T := K.ti _ _ hti
  obtain ⟨d, hd, hu⟩ := T.und
  cases hU : ti.u <;> rw [hU] at h <;> try (cases x <;> exact (fail_ok h).elim)
  case str =>
    rw [hU] at hu
    obtain rfl := toU_str hu
    cases hx with
    | str sb =>
      simp only at h
      cases hh : bound sb.size sb.size hi with
      | none => rw [hh] at h; exact (fail_ok h).elim
      | some b =>
      rw [hh] at h
      simp only at h
      cases hl : bound 0 b lo with
      | none => rw [hl] at h; exact (fail_ok h).elim
      | some a =>
      rw [hl] at h
      obtain ⟨rfl, rfl⟩ := val_ok h
      refine ⟨_, rfl, .here R (v' := .string (sb.extract a b)) ?_ (.str _)⟩
      simp [Instr.sliceAt, Instr.slice, run_underlying hd, run_sliceBounds (P := P) false hlo hhi hh hl (Nat.le_refl _)]
    | _ => exact (fail_ok h).elim
  case slice e =>
    rw [hU] at hu
    obtain rfl := toU_slice hu
    cases hx with
    | snil =>
      simp only at h
      cases he : C.ti e with
      | none => rw [he] at h; exact (fail_ok h).elim
      | some et =>
      have TE := K.ti _ _ he
      cases hh : bound 0 0 hi with
      | none => rw [he, hh] at h; exact (fail_ok h).elim
      | some b =>
      cases hl : bound 0 0 lo with
      | none => rw [he, hh, hl] at h; exact (fail_ok h).elim
      | some a =>
      rw [he, hh, hl] at h
      obtain ⟨rfl, rfl⟩ := val_ok h
      have hb : b = 0 := by have := (bound_le hh (lo := none) rfl (Nat.le_refl 0)).1; omega
      subst hb
      have ha : a = 0 := by have := (bound_le hh hl (Nat.le_refl 0)).2; omega
      subst ha
      refine ⟨_, rfl, .here R (v' := .slice none 0 0) ?_ .snil⟩
      simp [Instr.sliceAt, Instr.slice, run_underlying hd, run_sliceBounds (P := P) true hlo hhi hh hl (Nat.le_refl _), run_sizeOf' TE]
    | slice hb =>
      rename_i b o n c l
      simp only at h
      cases he : C.ti e with
      | none => rw [he] at h; exact (fail_ok h).elim
      | some et =>
      have TE := K.ti _ _ he
      cases hh : bound n c hi with
      | none => rw [he, hh] at h; exact (fail_ok h).elim
      | some hb' =>
      rw [he, hh] at h
      simp only at h
      cases hl : bound 0 hb' lo with
      | none => rw [hl] at h; exact (fail_ok h).elim
      | some lb =>
      rw [hl] at h
      simp only at h
      cases hq : Nat.ble hb' c with
      | false => rw [hq] at h; simp only [Bool.not_false, cond_true] at h; exact (fail_ok h).elim
      | true =>
      rw [hq] at h
      simp only [Bool.not_true, cond_false] at h
      have hlc : hb' ≤ c ∧ lb ≤ hb' := ⟨Nat.le_of_ble_eq_true hq, bound_le2 hl⟩
      obtain ⟨⟨vs, m⟩, s1, h1, h2⟩ := bind_ok h
      obtain ⟨g, e1⟩ := cellsAt_ok h1
      obtain ⟨A, _, _, _, _, _, c0, c1, _⟩ := R.cells g hb
      have hbs := run_sliceBounds (P := P) (len := n) (cap := c + l.ext) true hlo hhi hh hl (Nat.le_add_right _ _) w
      simp only at h2
      cases ht : (Nat.beq c lb && Nat.blt m 2) with
      | true =>
        rw [ht] at h2
        simp only [cond_true] at h2
        obtain ⟨rfl, rfl⟩ := val_ok h2
        rw [Bool.and_eq_true] at ht
        have t1 := Nat.eq_of_beq_eq_true ht.1
        have t2 : m < 2 := by simpa using ht.2
        have hext : l.ext = 0 := by
          rcases Nat.lt_or_ge m 1 with q | q
          · exact (c0 (by omega)).2.1
          · exact (c1 (by omega)).1
        refine ⟨_, rfl, ?_⟩
        rw [e1]
        refine .here R (v' := .slice (some ⟨l.blk, l.sh + o, none⟩) (hb' - lb) (c - lb + l.ext)) ?_ (.slice hb)
        have q1 : c + l.ext = lb := by omega
        have q2 : c - lb + l.ext = lb - lb := by omega
        rw [q1] at hbs
        rw [q1, q2]
        simp [Instr.sliceAt, Instr.slice, run_underlying hd, hbs, run_sizeOf' TE]
      | false =>
        rw [ht] at h2
        simp only [cond_false] at h2
        obtain ⟨rfl, rfl⟩ := val_ok h2
        refine ⟨_, rfl, ?_⟩
        rw [e1]
        by_cases hm : c + l.ext = lb
        · refine .here R (v' := .slice (some ⟨l.blk, l.sh + o, none⟩) 0 0) ?_ ?_
          · rw [hm] at hbs
            rw [hm]
            simp [Instr.sliceAt, Instr.slice, run_underlying hd, hbs, run_sizeOf' TE]
            omega
          · have e1 : hb' - lb = 0 := by omega
            have e2 : c - lb = 0 := by omega
            rw [e1, e2]
            exact .slice0 _ hb
        · refine .here R (v' := .slice (some ⟨l.blk, l.sh + (o + lb * et.size), none⟩) (hb' - lb) (c - lb + l.ext)) ?_ (.slice hb)
          simp [Instr.sliceAt, Instr.slice, run_underlying hd, hbs, run_sizeOf' TE, hm, Addr.add_lit, Nat.add_assoc]
          omega
    | slice0 a hb =>
      rename_i b o l
      simp only at h
      cases he : C.ti e with
      | none => rw [he] at h; exact (fail_ok h).elim
      | some et =>
      have TE := K.ti _ _ he
      cases hh : bound 0 0 hi with
      | none => rw [he, hh] at h; exact (fail_ok h).elim
      | some hb' =>
      rw [he, hh] at h
      simp only at h
      cases hl : bound 0 hb' lo with
      | none => rw [hl] at h; exact (fail_ok h).elim
      | some lb =>
      rw [hl] at h
      simp only at h
      have hbz := bound_le hh hl (Nat.le_refl 0)
      obtain rfl : hb' = 0 := by omega
      obtain rfl : lb = 0 := by omega
      rw [show Nat.ble 0 0 = true from rfl] at h
      simp only [Bool.not_true, cond_false] at h
      have hbs := run_sliceBounds (P := P) true hlo hhi hh hl (Nat.le_refl 0) w
      obtain ⟨⟨vs, m⟩, s1, h1, h2⟩ := bind_ok h
      obtain ⟨g, e1⟩ := cellsAt_ok h1
      have hrun : (Instr.sliceAt t (.slice (some a) 0 0) lo' hi' none).run P w = .ok (.slice (some a) 0 0) w := by
        simp [Instr.sliceAt, Instr.slice, run_underlying hd, hbs, run_sizeOf' TE]
      simp only at h2
      cases ht : (Nat.beq 0 0 && Nat.blt m 2) with
      | true =>
        rw [ht] at h2
        simp only [cond_true] at h2
        obtain ⟨rfl, rfl⟩ := val_ok h2
        refine ⟨_, rfl, ?_⟩
        rw [e1]
        exact .here R hrun (.slice0 a hb)
      | false =>
        rw [ht] at h2
        simp only [cond_false] at h2
        obtain ⟨rfl, rfl⟩ := val_ok h2
        refine ⟨_, rfl, ?_⟩
        rw [e1]
        exact .here R hrun (.slice0 a hb)
    | _ => exact (fail_ok h).elim
  case array n e =>
    simp only at h
    rw [hU] at hu
    obtain rfl := toU_array hu
    cases he : C.ti e with
    | none => rw [he] at h; exact (fail_ok h).elim
    | some et =>
    have TE := K.ti _ _ he
    cases ha : addr x with
    | none => rw [he, ha] at h; exact (fail_ok h).elim
    | some bo =>
    obtain ⟨b, o⟩ := bo
    cases hh : bound n n hi with
    | none => rw [he, ha, hh] at h; exact (fail_ok h).elim
    | some hb' =>
    rw [he, ha, hh] at h
    simp only at h
    cases hl : bound 0 hb' lo with
    | none => rw [hl] at h; exact (fail_ok h).elim
    | some lb =>
    rw [hl] at h
    simp only at h
    obtain ⟨l, hb, rfl⟩ := hx.addr ha
    have hlc := bound_le hh hl (Nat.le_refl n)
    obtain ⟨⟨vs, m⟩, s1, h1, h2⟩ := bind_ok h
    obtain ⟨g, e1⟩ := cellsAt_ok h1
    obtain ⟨A, _, _, _, _, _, c0, c1, _⟩ := R.cells g hb
    have hbs := run_sliceBounds (P := P) (len := n) (cap := n) false hlo hhi hh hl (Nat.le_refl _) w
    simp only at h2
    cases ht : Nat.ble 2 m with
    | true => rw [ht] at h2; simp only [cond_true] at h2; exact (fail_ok h2).elim
    | false =>
      rw [ht] at h2
      simp only [cond_false] at h2
      obtain ⟨rfl, rfl⟩ := val_ok h2
      have t2 : ¬ 2 ≤ m := fun q => by rw [Nat.ble_eq_true_of_le q] at ht; cases ht
      have hext : l.ext = 0 := by
        rcases Nat.lt_or_ge m 1 with q | q
        · exact (c0 (by omega)).2.1
        · exact (c1 (by omega)).1
      refine ⟨_, rfl, ?_⟩
      rw [e1]
      refine .here R (v' := .slice (some ⟨l.blk, l.sh + (bif Nat.beq n lb then o else o + lb * et.size), none⟩) (hb' - lb) (n - lb + l.ext)) ?_ (.slice hb)
      by_cases hq : n = lb
      · subst hq
        simp [Instr.sliceAt, run_underlying hd, hbs, run_sizeOf' TE, Instr.sureAddr, hext]
      · have : Nat.beq n lb = false := by
          cases hx : Nat.beq n lb with
          | false => rfl
          | true => exact (hq (Nat.eq_of_beq_eq_true hx)).elim
        simp [Instr.sliceAt, run_underlying hd, hbs, run_sizeOf' TE, Instr.sureAddr, hext, hq, this, Addr.add_lit, Nat.add_assoc]
end
end Go.Eng
