/-
  Each operation of the evaluator tells what the machine's operation does: append.
-/
import Derived.Test.YtgjfedaoffgiaaaGreatDoorE12
import Derived.Deep.Upon
namespace Go.Eng
section
variable {P : Program} {C : Cfg} {φ : Phi} {s s' : ASt} {w : World}

theorem byteVals_VRs (sb : ByteArray) : VRs φ (byteVals sb) (byteVals sb) := by
  refine VRs.okc ?_
  rw [byteVals, List.all_map]
  exact List.all_eq_true.2 fun _ _ => rfl
theorem srcKind {t : TypeId} {i : TI} (T : TIok P t i) (h : srcOK i.u = true) : (∃ e', P.underlying t = some (.slice e')) ∨ P.underlying t = some .string := by
  obtain ⟨d, hd, hu⟩ := T.und
  cases hU : i.u <;> rw [hU] at h hu <;> simp [srcOK] at h
  · obtain rfl := toU_str hu; exact .inr hd
  · obtain rfl := toU_slice hu; exact .inl ⟨_, hd⟩

theorem srcCells_ok (R : Rel φ s.heap w) {size k : Nat} {tx : TypeId} {y y' : Value} {cs : List Value} (hk : (∃ e', P.underlying tx = some (.slice e')) ∨ P.underlying tx = some .string)
    (hy : VR φ y y') (h : srcCells size none y s = some ((cs, k), s')) (h1 : cs.all oneC = true) : s'.heap = s.heap ∧ ∃ cs', VRs φ cs cs' ∧ Src P size tx y' k cs' w := by
  have Rd := (Step.drew R).rel
  cases hy with
  | snil =>
    obtain ⟨e, rfl⟩ := ret_ok h
    cases e
    exact ⟨rfl, [], .nil, ⟨hk, fun _ => rfl, run_firstCells_none w size 0 0 0, run_firstCells_none w.drew size 0 0 0, by simp, fun _ h => by cases h⟩⟩
  | slice hb =>
    rename_i b o n c l
    obtain ⟨⟨vs, m⟩, s1, q1, q2⟩ := bind_ok h
    obtain ⟨g, e1⟩ := cellsAt_ok q1
    simp only at q2
    cases hl : lsub vs o (n * size) with
    | none => rw [hl] at q2; exact (fail_ok q2).elim
    | some r =>
      rw [hl] at q2
      obtain ⟨e, rfl⟩ := ret_ok q2
      cases e
      obtain ⟨r', hlen, hcell, hv, hrun⟩ := R.stretch (P := P) g hb hl
      refine ⟨e1, r', hv, ⟨hk, fun _ => rfl, ?_, ?_, hlen, hv.oneC h1⟩⟩
      · refine run_firstCells_some w size _ _ _ (c + l.ext) r' hlen fun j u hu => ?_
        rw [Addr.add_lit]; exact hcell j u hu
      · refine run_firstCells_some w.drew size _ _ _ (c + l.ext) r' hlen fun j u hu => ?_
        rw [Addr.add_lit]; exact hcell j u hu
  | slice0 a hb =>
    rename_i b o l
    obtain ⟨⟨vs, m⟩, s1, q1, q2⟩ := bind_ok h
    obtain ⟨g, e1⟩ := cellsAt_ok q1
    have hl : lsub vs o (0 * size) = some [] := by rw [Nat.zero_mul]; simp [lsub, ltake]
    simp only [hl] at q2
    obtain ⟨e, rfl⟩ := ret_ok q2
    cases e
    refine ⟨e1, [], .nil, ⟨hk, fun _ => rfl, ?_, ?_, by simp, fun _ h => by cases h⟩⟩
    · exact run_firstCells_some w size 0 a 0 0 [] (by simp) (fun j u hu => by simp at hu)
    · exact run_firstCells_some w.drew size 0 a 0 0 [] (by simp) (fun j u hu => by simp at hu)
  | str sb =>
    unfold srcCells at h
    cases hs : Nat.beq size 1 with
    | false => rw [hs] at h; simp only [cond_false] at h; exact (fail_ok h).elim
    | true =>
      rw [hs] at h
      simp only [cond_true] at h
      obtain rfl := Nat.eq_of_beq_eq_true hs
      obtain ⟨e, rfl⟩ := ret_ok h
      cases e
      refine ⟨rfl, byteVals sb, byteVals_VRs sb, ⟨hk, fun _ => rfl, firstCells_string sb w, firstCells_string sb w.drew, ?_, (byteVals_VRs (φ := φ) sb).oneC h1⟩⟩
      have := byteCells_length sb
      rw [Nat.mul_one]
      exact this
  | _ => simp [srcCells, M.fail] at h

/-- The arm that grows. -/
theorem grow_ok {H : Tr AObj} {t tx ty e : TypeId} {et : TI} {n k c' : Nat} {old cs old' cs' : List Value} {base : Option Addr} {y' : Value} {r : Go.Eng.R}
    (TE : TIok P e et) (hz : et.zero.length = et.size) (ht : P.underlying t = some (.slice e)) (R : Rel φ H w) (hs : s.heap = H)
    (hold : (Builtin.firstCells et.size n (.slice base n c')).run P w.drew = .ok old'.toArray w.drew) (hol : VRs φ old old') (S : Src P et.size tx y' k cs' w) (hcs : VRs φ cs cs')
    (hg : c' < n + k) (hb : (n + k) * et.bytes ≤ 70368744177664) (hsmall : n + k ≤ 9223372036854775807) (h : grow et.size (n + k) (old ++ cs) s = some (r, s')) :
    ∃ v, r = .val v ∧ ValOK P φ H w v s'.heap (Builtin.append_ #[t, tx] ty #[.slice base n c', y']) := by
  obtain ⟨b, s1, h1, h2⟩ := bind_ok h
  obtain ⟨g, e1⟩ := nw_ok h1
  obtain ⟨rfl, rfl⟩ := val_ok h2
  obtain ⟨x, hx, ex, eb, hxz⟩ := TE.info
  have hzs : et.zv.cells.size = et.size := by rw [← Array.length_toList, TE.zvCells, hz]
  have hcap := grownCap_ge w (n + k) c' e
  have hfit : Builtin.nextslicecap (n + k) c' * x.bytes ≤ 281474976710656 := by
    refine Nat.le_trans (Nat.mul_le_mul_right _ (nextslicecap_le hg)) ?_
    rw [eb, Nat.mul_assoc]; omega
  have hrun := run_append_grow_src w t tx ty e x et.zv ht hx hxz base n c' old' (by rw [ex]; exact hold) y' k cs' (by rw [ex]; exact S) hg (by omega) hfit
  refine ⟨_, rfl, upd φ b ⟨w.heap.size, 0, grownCap w (n + k) c' e - (n + k)⟩, _, _, ?_, hrun, ?_⟩
  · rw [e1, hs]
    refine (Step.drew R).trans ?_
    refine Rel.newOpen (E := et.size) (ext := grownCap w (n + k) c' e - (n + k)) e (Step.drew R).rel (by rw [← hs]; exact g) ?_ ?_ ?_
    · intro i v hv
      have hvs := (hol.append hcs).get i v hv
      obtain ⟨v', h3, h4⟩ := hvs
      refine ⟨v', ?_, h4⟩
      have hi := (List.getElem?_eq_some_iff.1 h3).1
      rw [Array.getElem?_append_left (by simpa using hi)]
      simpa using h3
    · rw [Array.size_append, size_zeroCells, hzs, List.length_append, ← hol.length, ← hcs.length]
      simp
    · intro i _; omega
  · have := VR.slice (o := 0) (n := n + k) (c := n + k) (upd_same φ b ⟨w.heap.size, 0, grownCap w (n + k) c' e - (n + k)⟩)
    simp only [Nat.add_zero] at this
    rw [show n + k + (grownCap w (n + k) c' e - (n + k)) = grownCap w (n + k) c' e by omega] at this
    exact this

theorem aAppend_ok (K : CfgOK P C) (R : Rel φ s.heap w) {t tx ty : TypeId} {x x' y y' : Value} {r : Go.Eng.R} (hx : VR φ x x') (hy : VR φ y y') (h : aAppend C t tx x y s = some (r, s')) :
    ∃ v, r = .val v ∧ ValOK P φ s.heap w v s'.heap (Builtin.append_ #[t, tx] ty #[x', y']) := by
  unfold aAppend at h
  cases hi : C.ti t with
  | none => rw [hi] at h; exact (fail_ok h).elim
  | some ti =>
  cases hi2 : C.ti tx with
  | none => rw [hi, hi2] at h; exact (fail_ok h).elim
  | some t2 =>
  rw [hi, hi2] at h
  simp only at h
  obtain ⟨d, hd, hu⟩ := (K.ti _ _ hi).und
  cases hU : ti.u <;> rw [hU] at h <;> try exact (fail_ok h).elim
  rename_i e
  simp only at h
  rw [hU] at hu
  obtain rfl := toU_slice hu
  cases he : C.ti e with
  | none => rw [he] at h; exact (fail_ok h).elim
  | some et =>
  rw [he] at h
  simp only at h
  have TE := K.ti _ _ he
  cases hc : (!(srcOK t2.u) || Nat.beq et.size 0 || !(Nat.beq et.zero.length et.size) || Nat.beq et.bytes 0) with
  | true => rw [hc] at h; simp only [cond_true] at h; exact (fail_ok h).elim
  | false =>
  rw [hc] at h
  simp only [cond_false] at h
  simp only [Bool.or_eq_false_iff, Bool.not_eq_false'] at hc
  obtain ⟨⟨⟨c1, c2⟩, c3⟩, c4⟩ := hc
  have c3 := Nat.eq_of_beq_eq_true c3
  have hpos : 0 < et.size := by
    rcases Nat.eq_zero_or_pos et.size with q | q
    · rw [q] at c2; cases c2
    · exact q
  have hby : 0 < et.bytes := by
    rcases Nat.eq_zero_or_pos et.bytes with q | q
    · rw [q] at c4; cases c4
    · exact q
  have hfew : ∀ q : Nat, q * et.bytes ≤ 70368744177664 → q ≤ 9223372036854775807 := fun q hq => by
    have : q * 1 ≤ q * et.bytes := Nat.mul_le_mul_left q hby
    omega
  obtain ⟨⟨cs, k⟩, s1, h1, h2⟩ := bind_ok h
  simp only at h2
  cases ho : cs.all oneC with
  | false => rw [ho] at h2; simp only [Bool.not_false, cond_true] at h2; exact (fail_ok h2).elim
  | true =>
  rw [ho] at h2
  simp only [Bool.not_true, cond_false] at h2
  obtain ⟨e1, cs', hcs, S⟩ := srcCells_ok R (srcKind (K.ti _ _ hi2) c1) hy h1 ho
  obtain ⟨ix, hix, exs, _⟩ := TE.info
  have S' : Src P ix.size tx y' k cs' w := by rw [exs]; exact S
  rw [← e1] at R ⊢
  unfold aAppendTo at h2
  cases hx with
  | snil =>
    simp only at h2
    cases hk0 : Nat.beq k 0 with
    | true =>
      rw [hk0] at h2
      simp only [cond_true] at h2
      obtain ⟨rfl, rfl⟩ := val_ok h2
      obtain rfl := Nat.eq_of_beq_eq_true hk0
      have hnil : cs' = [] := by have := S.newsLen; simpa using this
      subst hnil
      exact ⟨_, rfl, .here R (run_append_nothing w t tx ty e ix hd hix none 0 0 (Nat.le_refl _) y' S') .snil⟩
    | false =>
      rw [hk0] at h2
      simp only [cond_false] at h2
      have hkp : 0 < k := by
        rcases Nat.eq_zero_or_pos k with q | q
        · rw [q] at hk0; cases hk0
        · exact q
      cases hb : Nat.ble (k * et.bytes) 70368744177664 with
      | false => rw [hb] at h2; simp only [cond_false] at h2; exact (fail_ok h2).elim
      | true =>
        rw [hb] at h2
        simp only [cond_true] at h2
        have hb := Nat.le_of_ble_eq_true hb
        have hsm : k ≤ 9223372036854775807 := hfew _ hb
        refine grow_ok (old := []) (old' := []) (n := 0) TE c3 hd R rfl (run_firstCells_none w.drew et.size 0 0 0) .nil S hcs (by omega) (by simpa using hb) (by simpa using hsm) (by simpa using h2)
  | slice hbp =>
    rename_i b o n c l
    simp only at h2
    cases hnc : Nat.ble n c with
    | false => rw [hnc] at h2; simp only [Bool.not_false, cond_true] at h2; exact (fail_ok h2).elim
    | true =>
    rw [hnc] at h2
    simp only [Bool.not_true, cond_false] at h2
    have hnc := Nat.le_of_ble_eq_true hnc
    cases hk0 : Nat.beq k 0 with
    | true =>
      rw [hk0] at h2
      simp only [cond_true] at h2
      obtain ⟨rfl, rfl⟩ := val_ok h2
      obtain rfl := Nat.eq_of_beq_eq_true hk0
      have hnil : cs' = [] := by have := S.newsLen; simpa using this
      subst hnil
      exact ⟨_, rfl, .here R (run_append_nothing w t tx ty e ix hd hix _ n (c + l.ext) (by omega) y' S') (.slice hbp)⟩
    | false =>
    rw [hk0] at h2
    simp only [cond_false] at h2
    obtain ⟨⟨vs, m⟩, s2, h3, h4⟩ := bind_ok h2
    obtain ⟨g, e2⟩ := cellsAt_ok h3
    simp only at h4
    cases hroom : Nat.ble (n + k) c with
    | true =>
      rw [hroom] at h4
      simp only [cond_true] at h4
      have hroom := Nat.le_of_ble_eq_true hroom
      obtain ⟨_, s3, h5, h6⟩ := bind_ok h4
      obtain ⟨rfl, rfl⟩ := val_ok h6
      obtain ⟨p1, p2, q, p3, p4⟩ := putCells_ok h5
      obtain ⟨st, _, hcell, hfro⟩ := R.put (P := P) g hbp p1 p2 p3 hcs
      have ha : l.sh + (o + n * et.size) = l.sh + o + n * ix.size := by rw [exs]; omega
      rw [ha] at st hcell hfro
      refine ⟨_, rfl, φ, _, _, by rw [p4, e2]; exact st, run_append_room_src w t tx ty e ix hd hix l.blk (l.sh + o) n (c + l.ext) y' k cs' S' (by omega) hcell hfro, .slice hbp⟩
    | false =>
    rw [hroom] at h4
    simp only [cond_false] at h4
    have hroom : ¬ n + k ≤ c := fun q => by rw [Nat.ble_eq_true_of_le q] at hroom; cases hroom
    cases hb : Nat.ble ((n + k) * et.bytes) 70368744177664 with
    | false => rw [hb] at h4; simp only [cond_false] at h4; exact (fail_ok h4).elim
    | true =>
    rw [hb] at h4
    simp only [cond_true] at h4
    have hb := Nat.le_of_ble_eq_true hb
    cases hl : lsub vs o (n * et.size) with
    | none => rw [hl] at h4; exact (fail_ok h4).elim
    | some old =>
    rw [hl] at h4
    simp only at h4
    obtain ⟨old', holen, hocell, hov, _⟩ := R.stretch (P := P) g hbp hl
    have hold : (Builtin.firstCells et.size n (.slice (some ⟨l.blk, l.sh + o, none⟩) n (c + l.ext))).run P w.drew = .ok old'.toArray w.drew := by
      refine run_firstCells_some w.drew et.size n _ n (c + l.ext) old' holen fun j u hu => ?_
      rw [Addr.add_lit]; exact hocell j u hu
    have hsm : n + k ≤ 9223372036854775807 := hfew _ hb
    obtain ⟨A, tA, lo, hi', hA, cA, c0, c1', cm⟩ := R.cells g hbp
    cases hm : Nat.ble 2 m with
    | false =>
      rw [hm] at h4
      simp only [cond_false] at h4
      have hm : ¬ 2 ≤ m := fun q => by rw [Nat.ble_eq_true_of_le q] at hm; cases hm
      have hext : l.ext = 0 := by
        rcases Nat.lt_or_ge m 1 with q | q
        · exact (c0 (by omega)).2.1
        · exact (c1' (by omega)).1
      exact grow_ok TE c3 hd R e2 hold hov S hcs (by omega) hb hsm h4
    | true =>
      rw [hm] at h4
      simp only [cond_true] at h4
      cases hq : (Nat.beq m (et.size + 2) && Nat.beq (o + n * et.size) vs.length && Nat.beq n c) with
      | false => rw [hq] at h4; simp only [cond_false] at h4; exact (fail_ok h4).elim
      | true =>
      rw [hq] at h4
      simp only [cond_true] at h4
      simp only [Bool.and_eq_true] at hq
      obtain ⟨⟨q1, q2⟩, q3⟩ := hq
      have q1 := Nat.eq_of_beq_eq_true q1
      have q2 := Nat.eq_of_beq_eq_true q2
      have q3 := Nat.eq_of_beq_eq_true q3
      subst q1
      subst q3
      obtain ⟨_, s3, h5, h6⟩ := bind_ok h4
      have e3 := (wr_ok h5).1
      have hrw : (AObj.cells vs (et.size + 2)).rw = true := by
        simp only [AObj.rw]
        cases hz : Nat.beq (et.size + 2) 1 with
        | false => rfl
        | true => have := Nat.eq_of_beq_eq_true hz; omega
      obtain ⟨w1, w2⟩ := cm (by omega)
      by_cases hroom2 : n + k ≤ n + l.ext
      · -- in place
        obtain ⟨b', s4, h7, h8⟩ := bind_ok h6
        obtain ⟨g', e4⟩ := nw_ok h7
        obtain ⟨rfl, rfl⟩ := val_ok h8
        have hnl : cs'.length = k * et.size := S.newsLen
        have hkl : k * et.size ≤ l.ext * et.size := Nat.mul_le_mul_right _ (by omega)
        have hw1 : l.sh + vs.length + l.ext * et.size ≤ A.size := by simpa using w1
        have hcell : ∀ j, j < cs'.length → (w.cell? ⟨l.blk, l.sh + o + n * ix.size + j, none⟩).isSome = true := fun j hj => by
          rw [exs, cell_of_heap hA, Array.getElem?_eq_getElem (by omega)]; rfl
        have hfro : ∀ j, j < cs'.length → w.frozen? ⟨l.blk, l.sh + o + n * ix.size + j, none⟩ = false := fun j hj => by
          have := w2 (l.sh + o + n * et.size + j) (by omega)
          simp only [World.frozen?, hA, exs]
          simpa using this
        have hrun := run_append_room_src w t tx ty e ix hd hix l.blk (l.sh + o) n (n + l.ext) y' k cs' S' hroom2 hcell hfro
        obtain ⟨z1, z2, z3⟩ := setCells_same cs' w l.blk (l.sh + o + n * ix.size)
        have hgn : Gone s1.heap b' := by
          obtain ⟨g', gp⟩ := g'
          rw [e3, Tr.get_set] at g'
          split at g'
          · cases g'
          · rw [← e2]; exact ⟨g', gp⟩
        refine ⟨_, rfl, upd φ b' ⟨l.blk, l.sh + o, l.ext - k⟩, _, _, ?_, hrun, ?_⟩
        · rw [e4, e3, e2]
          refine Step.move R g hrw hbp hgn (setCells_size _ _ _ _) (fun q hq => setCells_other _ _ _ _ _ hq) z1 z2 z3 rfl ?_
          refine ⟨_, tA, lo, hi', heap_setCells _ _ _ _ _ _ _ hA, fun i v hv => ?_, (fun h => by omega), (fun h => by omega), fun _ => ?_⟩
          · have hx := upd_ext (l := ⟨l.blk, l.sh + o, l.ext - k⟩) (R.abs b' hgn)
            show ∃ v', (arrSet A (l.sh + o + n * ix.size) cs')[l.sh + o + i]? = some v' ∧ VR _ v v'
            rw [arrSet_get, exs]
            have holen0 := hov.length
            have hcl0 := hcs.length
            by_cases hi : i < old.length
            · rw [List.getElem?_append_left hi] at hv
              obtain ⟨v', h9, h10⟩ := hov.get _ _ hv
              refine ⟨v', ?_, h10.mono hx⟩
              rw [if_neg (by omega)]
              have := hocell i v' h9
              rw [cell_of_heap hA] at this
              exact this
            · rw [List.getElem?_append_right (by omega)] at hv
              obtain ⟨v', h9, h10⟩ := hcs.get _ _ hv
              refine ⟨v', ?_, h10.mono hx⟩
              have hlt := (List.getElem?_eq_some_iff.1 h9).1
              rw [if_pos (by omega), show l.sh + o + i - (l.sh + o + n * et.size) = i - old.length by omega]
              exact h9
          · rw [arrSet_size]
            refine ⟨?_, w2⟩
            have holen0 := hov.length
            have hcl0 := hcs.length
            rw [List.length_append]
            show l.sh + o + (old.length + cs.length) + (l.ext - k) * (et.size + 2 - 2) ≤ A.size
            rw [Nat.add_sub_cancel, Nat.sub_mul]
            omega
        · have := VR.slice (o := 0) (n := n + k) (c := n + k) (upd_same φ b' ⟨l.blk, l.sh + o, l.ext - k⟩)
          simp only [Nat.add_zero] at this
          rw [show n + k + (l.ext - k) = n + l.ext by omega] at this
          exact this
      · have st : Step φ s1.heap w φ s3.heap w := by
          rw [e3, e2]
          exact Step.write R g hrw hbp rfl (fun _ _ => rfl) rfl rfl rfl trivial
        obtain ⟨v, hv, φ', w', v', st2, hr2, hv2⟩ := grow_ok (ty := ty) TE c3 hd st.rel rfl hold hov S hcs (by omega) hb hsm h6
        exact ⟨v, hv, φ', w', v', st.trans st2, hr2, hv2⟩
  | slice0 a hbp =>
    rename_i b o l
    simp only [Nat.ble, Bool.not_true, cond_false] at h2
    cases hk0 : Nat.beq k 0 with
    | true =>
      rw [hk0] at h2
      simp only [cond_true] at h2
      obtain ⟨rfl, rfl⟩ := val_ok h2
      obtain rfl := Nat.eq_of_beq_eq_true hk0
      have hnil : cs' = [] := by have := S.newsLen; simpa using this
      subst hnil
      exact ⟨_, rfl, .here R (run_append_nothing w t tx ty e ix hd hix _ 0 0 (Nat.le_refl _) y' S') (.slice0 a hbp)⟩
    | false =>
    rw [hk0] at h2
    simp only [cond_false] at h2
    have hkp : 0 < k := by
      rcases Nat.eq_zero_or_pos k with q | q
      · rw [q] at hk0; cases hk0
      · exact q
    obtain ⟨⟨vs, m⟩, s2, h3, h4⟩ := bind_ok h2
    obtain ⟨g, e2⟩ := cellsAt_ok h3
    simp only at h4
    have hroom : Nat.ble (0 + k) 0 = false := by
      cases q : Nat.ble (0 + k) 0 with
      | false => rfl
      | true => have := Nat.le_of_ble_eq_true q; omega
    rw [hroom] at h4
    simp only [cond_false] at h4
    cases hb : Nat.ble ((0 + k) * et.bytes) 70368744177664 with
    | false => rw [hb] at h4; simp only [cond_false] at h4; exact (fail_ok h4).elim
    | true =>
    rw [hb] at h4
    simp only [cond_true] at h4
    have hb := Nat.le_of_ble_eq_true hb
    have hl : lsub vs o (0 * et.size) = some [] := by rw [Nat.zero_mul]; simp [lsub, ltake]
    rw [hl] at h4
    simp only at h4
    have hsm : 0 + k ≤ 9223372036854775807 := hfew _ hb
    have hold : (Builtin.firstCells et.size 0 (.slice (some a) 0 0)).run P w.drew = .ok ([] : List Value).toArray w.drew :=
      run_firstCells_some w.drew et.size 0 a 0 0 [] (by simp) (fun j u hu => by simp at hu)
    cases hm : Nat.ble 2 m with
    | false =>
      rw [hm] at h4
      simp only [cond_false] at h4
      exact grow_ok (old := []) TE c3 hd R e2 hold .nil S hcs (by omega) hb hsm h4
    | true =>
      rw [hm] at h4
      simp only [cond_true] at h4
      cases hq : (Nat.beq m (et.size + 2) && Nat.beq (o + 0 * et.size) vs.length && Nat.beq 0 0) with
      | false => rw [hq] at h4; simp only [cond_false] at h4; exact (fail_ok h4).elim
      | true =>
      rw [hq] at h4
      simp only [cond_true] at h4
      simp only [Bool.and_eq_true] at hq
      have q1 := Nat.eq_of_beq_eq_true hq.1.1
      subst q1
      obtain ⟨_, s3, h5, h6⟩ := bind_ok h4
      have e3 := (wr_ok h5).1
      have hrw : (AObj.cells vs (et.size + 2)).rw = true := by
        simp only [AObj.rw]
        cases hz : Nat.beq (et.size + 2) 1 with
        | false => rfl
        | true => have := Nat.eq_of_beq_eq_true hz; omega
      have st : Step φ s1.heap w φ s3.heap w := by
        rw [e3, e2]
        exact Step.write R g hrw hbp rfl (fun _ _ => rfl) rfl rfl rfl trivial
      obtain ⟨v, hv, φ', w', v', st2, hr2, hv2⟩ := grow_ok (old := []) (ty := ty) TE c3 hd st.rel rfl hold .nil S hcs (by omega) hb hsm h6
      exact ⟨v, hv, φ', w', v', st.trans st2, hr2, hv2⟩
  | _ => exact (fail_ok h2).elim
end
end Go.Eng
