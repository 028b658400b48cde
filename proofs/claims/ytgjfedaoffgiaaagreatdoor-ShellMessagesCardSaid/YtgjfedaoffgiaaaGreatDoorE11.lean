/-
  Each operation of the evaluator tells what the machine's operation does: conversions, interface values, maps, iterators, lengths.
-/
import Derived.Test.YtgjfedaoffgiaaaGreatDoorE10
import Derived.Laws.IdiomStrings
import Derived.Laws.BytesString
namespace Go.Eng
section
variable {P : Program} {C : Cfg} {φ : Phi} {s s' : ASt} {w : World}

/-- A new block with room behind its cells. -/
theorem Rel.newOpen {H : Tr AObj} {b E ext lo hi : Nat} {vs : List Value} {A : Array Value} (t : TypeId) (R : Rel φ H w) (hn : Gone H b)
    (hv : ∀ (i : Nat) (v : Value), vs[i]? = some v → ∃ v', A[i]? = some v' ∧ VR φ v v') (hs : vs.length + ext * E ≤ A.size) (hf : ∀ i, i < A.size → ¬ (lo ≤ i ∧ i < hi)) :
    Step φ H w (upd φ b ⟨w.heap.size, 0, ext⟩) (H.set b (.cells vs (E + 2))) (w.alloc (.cells A t (lo, hi))) := by
  refine Step.alloc R hn rfl ⟨A, t, lo, hi, ?_, fun i v h => ?_, (fun h => by omega), (fun h => by omega), fun _ => ⟨by simpa using hs, hf⟩⟩
  · show (w.heap.push _)[w.heap.size]? = _
    rw [Array.getElem?_push, if_pos rfl]
  · obtain ⟨v', h1, h2⟩ := hv i v h
    exact ⟨v', by simpa using h1, h2.mono (upd_ext (R.abs _ hn))⟩

theorem grownCap_ge (w : World) (need old : Nat) (e : TypeId) : need ≤ grownCap w need old e := by
  unfold grownCap
  simp only [Question.cut]
  omega

theorem toBytes_ok : ∀ {cs : List Value} {bs : List UInt8} {cs' : List Value}, toBytes cs = some bs → VRs φ cs cs' →
    ∃ ns : List Int, cs' = ns.map (Value.int .u8) ∧ bs = ns.map fun n => UInt8.ofNat n.toNat
  | [], bs, _, h, .nil => ⟨[], rfl, by simp [toBytes] at h; rw [h]; rfl⟩
  | v :: vs, bs, _, h, .cons hv t => by
    cases hv with
    | int k n =>
      cases k <;> simp only [toBytes] at h <;> try cases h
      cases hr : toBytes vs with
      | none => rw [hr] at h; cases h
      | some r =>
        rw [hr] at h
        simp at h; subst h
        obtain ⟨ns, h1, h2⟩ := toBytes_ok hr t
        exact ⟨n :: ns, by simp [h1], by simp [h2]⟩
    | _ => simp [toBytes] at h
theorem foldl_push (ns : List Int) : ∀ (b : ByteArray), ns.foldl (fun r n => r.push (UInt8.ofNat n.toNat)) b = ⟨b.data ++ (ns.map fun n => UInt8.ofNat n.toNat).toArray⟩ := by
  induction ns with
  | nil => intro b; simp
  | cons n ns ih =>
    intro b
    rw [List.foldl_cons, ih]
    congr 1
    apply Array.ext'
    simp [ByteArray.push]

theorem aConvert_ok (K : CfgOK P C) (R : Rel φ s.heap w) {src dst : TypeId} {x x' : Value} {r : Go.Eng.R} (hx : VR φ x x') (h : aConvert C src dst x s = some (r, s')) :
    ∃ v, r = .val v ∧ ValOK P φ s.heap w v s'.heap (convert src dst x') := by
  unfold aConvert at h
  cases hs : C.ti src with
  | none => rw [hs] at h; exact (fail_ok h).elim
  | some st =>
  cases hd : C.ti dst with
  | none => rw [hs, hd] at h; exact (fail_ok h).elim
  | some dt =>
  rw [hs, hd] at h
  simp only at h
  have TS := K.ti _ _ hs
  have TD := K.ti _ _ hd
  obtain ⟨d1, hd1, hu1⟩ := TS.und
  obtain ⟨d2, hd2, hu2⟩ := TD.und
  cases hU : dt.u <;> rw [hU] at h <;> try (cases x <;> exact (fail_ok h).elim)
  case int k =>
    rw [hU] at hu2
    obtain rfl := toU_int hu2
    cases hx with
    | int k0 n =>
      obtain ⟨rfl, rfl⟩ := val_ok h
      refine ⟨_, rfl, .here R (v' := .int k (k.wrap n)) ?_ (.int _ _)⟩
      cases d1 <;> simp [convert, run_underlying hd1, run_underlying hd2, Conv.intToInt]
    | _ => exact (fail_ok h).elim
  case slice e =>
    rw [hU] at hu2
    obtain rfl := toU_slice hu2
    cases hx with
    | str sb =>
      simp only at h
      cases he : C.ti e with
      | none => rw [he] at h; exact (fail_ok h).elim
      | some et =>
      rw [he] at h
      simp only at h
      have TE := K.ti _ _ he
      obtain ⟨d3, hd3, hu3⟩ := TE.und
      cases hE : et.u with
      | int k =>
        rw [hE] at h hu3
        obtain rfl := toU_int hu3
        cases k with
        | u8 =>
          simp only at h
          have hS : st.u = .str := by cases hS : st.u <;> rw [hS] at h <;> first | rfl | exact (fail_ok h).elim
          rw [hS] at h hu1
          simp only at h
          obtain rfl := toU_str hu1
          cases hc : (Nat.beq et.bytes 1 && Nat.ble sb.size 1073741824) with
          | false => rw [hc] at h; simp only [cond_false] at h; exact (fail_ok h).elim
          | true =>
          rw [hc] at h
          simp only [cond_true] at h
          obtain ⟨b, s1, h1, h2⟩ := bind_ok h
          obtain ⟨g, e1⟩ := nw_ok h1
          obtain ⟨rfl, rfl⟩ := val_ok h2
          · have hrun := run_bytes_of_string (P := P) w src dst e sb hd1 hd2 hd3
            have hcap := grownCap_ge w sb.size 0 e
            have hlen : sb.data.toList.length = sb.size := by rw [Array.length_toList]; rfl
            have hrow : (bytesRow sb (grownCap w sb.size 0 e)).size = grownCap w sb.size 0 e := by
              have : sb.data.size = sb.size := rfl
              simp [bytesRow, this]; omega
            refine ⟨_, rfl, upd φ b ⟨w.heap.size, 0, grownCap w sb.size 0 e - sb.size⟩, _, _, ?_, hrun, ?_⟩
            · rw [e1]
              refine (Step.drew R).trans ?_
              refine Rel.newOpen (E := 1) (ext := grownCap w sb.size 0 e - sb.size) e (Step.drew R).rel g ?_ ?_ ?_
              · intro i v hv
                refine ⟨v, ?_, ?_⟩
                · simp only [byteVals, List.getElem?_map] at hv
                  have hi : i < sb.data.size := by
                    rcases Nat.lt_or_ge i sb.data.toList.length with q | q
                    · simpa using q
                    · rw [List.getElem?_eq_none q] at hv; cases hv
                  simp only [bytesRow]
                  rw [Array.getElem?_append_left (by simpa using hi), Array.getElem?_map, ← Array.getElem?_toList]
                  exact hv
                · simp only [byteVals, List.getElem?_map] at hv
                  cases hq : sb.data.toList[i]? with
                  | none => rw [hq] at hv; cases hv
                  | some q => rw [hq] at hv; simp at hv; subst hv; exact .int _ _
              · rw [hrow]; simp only [byteVals, List.length_map, hlen]; omega
              · intro i hi; omega
            · have := VR.slice (o := 0) (n := sb.size) (c := sb.size) (upd_same φ b ⟨w.heap.size, 0, grownCap w sb.size 0 e - sb.size⟩)
              simp only [Nat.add_zero] at this
              rw [show sb.size + (grownCap w sb.size 0 e - sb.size) = grownCap w sb.size 0 e by omega] at this
              exact this
        | _ => exact (fail_ok h).elim
      | _ => rw [hE] at h; exact (fail_ok h).elim
    | _ => exact (fail_ok h).elim
  case str =>
    rw [hU] at hu2
    obtain rfl := toU_str hu2
    cases hx with
    | int k0 n =>
      obtain ⟨rfl, rfl⟩ := val_ok h
      refine ⟨_, rfl, .here R (v' := .string (Utf8.encode n)) ?_ (.str _)⟩
      cases d1 <;> simp [convert, run_underlying hd1, run_underlying hd2, Conv.intToString]
    | str sb =>
      obtain ⟨rfl, rfl⟩ := val_ok h
      refine ⟨_, rfl, .here R (v' := .string sb) ?_ (.str _)⟩
      cases d1 <;> simp [convert, run_underlying hd1, run_underlying hd2]
    | snil =>
      simp only at h
      cases hS : st.u with
      | slice e =>
        rw [hS] at h hu1
        obtain rfl := toU_slice hu1
        simp only at h
        cases he : C.ti e with
        | none => rw [he] at h; exact (fail_ok h).elim
        | some et =>
        rw [he] at h
        simp only at h
        have TE := K.ti _ _ he
        obtain ⟨d3, hd3, hu3⟩ := TE.und
        cases hE : et.u with
        | int k =>
          rw [hE] at h hu3
          obtain rfl := toU_int hu3
          cases k with
          | u8 =>
            obtain ⟨rfl, rfl⟩ := val_ok h
            refine ⟨_, rfl, .here R (v' := .string .empty) ?_ (.str _)⟩
            rw [run_convert_bytes_string w src dst e none 0 0 hd1 hd3 hd2]
            simp [Conv.bytesToString]
          | _ => exact (fail_ok h).elim
        | _ => rw [hE] at h; exact (fail_ok h).elim
      | _ => rw [hS] at h; exact (fail_ok h).elim
    | slice hb =>
      rename_i b o n c l
      simp only at h
      cases hS : st.u with
      | slice e =>
        rw [hS] at h hu1
        obtain rfl := toU_slice hu1
        simp only at h
        cases he : C.ti e with
        | none => rw [he] at h; exact (fail_ok h).elim
        | some et =>
        rw [he] at h
        simp only at h
        have TE := K.ti _ _ he
        obtain ⟨d3, hd3, hu3⟩ := TE.und
        cases hE : et.u with
        | int k =>
          rw [hE] at h hu3
          obtain rfl := toU_int hu3
          cases k with
          | u8 =>
            simp only at h
            obtain ⟨⟨vs, m⟩, s1, h1, h2⟩ := bind_ok h
            obtain ⟨g, e1⟩ := cellsAt_ok h1
            simp only at h2
            cases hl : lsub vs o n with
            | none => rw [hl] at h2; exact (fail_ok h2).elim
            | some cs =>
            rw [hl] at h2
            simp only at h2
            cases hbs : toBytes cs with
            | none => rw [hbs] at h2; exact (fail_ok h2).elim
            | some bs =>
            rw [hbs] at h2
            obtain ⟨rfl, rfl⟩ := val_ok h2
            obtain ⟨r', _, _, hv, hrun⟩ := R.stretch (P := P) g hb hl
            obtain ⟨ns, q1, q2⟩ := toBytes_ok hbs hv
            refine ⟨_, rfl, ?_⟩
            rw [e1]
            refine .here R (v' := .string ⟨bs.toArray⟩) ?_ (.str _)
            rw [run_convert_bytes_string w src dst e _ _ _ hd1 hd3 hd2, run_bytesToString w _ n (c + l.ext) ns (by rw [hrun, q1]), foldl_push, q2]
            congr 3
            exact Array.empty_append
          | _ => exact (fail_ok h).elim
        | _ => rw [hE] at h; exact (fail_ok h).elim
      | _ => rw [hS] at h; exact (fail_ok h).elim
    | slice0 a hb =>
      rename_i b o l
      simp only at h
      cases hS : st.u with
      | slice e =>
        rw [hS] at h hu1
        obtain rfl := toU_slice hu1
        simp only at h
        cases he : C.ti e with
        | none => rw [he] at h; exact (fail_ok h).elim
        | some et =>
        rw [he] at h
        simp only at h
        have TE := K.ti _ _ he
        obtain ⟨d3, hd3, hu3⟩ := TE.und
        cases hE : et.u with
        | int k =>
          rw [hE] at h hu3
          obtain rfl := toU_int hu3
          cases k with
          | u8 =>
            simp only at h
            obtain ⟨⟨vs, m⟩, s1, h1, h2⟩ := bind_ok h
            obtain ⟨g, e1⟩ := cellsAt_ok h1
            have hl : lsub vs o 0 = some [] := by simp [lsub, ltake]
            simp only [hl, toBytes] at h2
            obtain ⟨rfl, rfl⟩ := val_ok h2
            refine ⟨_, rfl, ?_⟩
            rw [e1]
            refine .here R (v' := .string ⟨#[]⟩) ?_ (.str _)
            rw [run_convert_bytes_string w src dst e _ _ _ hd1 hd3 hd2, run_bytesToString w _ 0 0 [] (by simp [loadCells, loadCellsFrom])]
            rfl
          | _ => exact (fail_ok h).elim
        | _ => rw [hE] at h; exact (fail_ok h).elim
      | _ => rw [hS] at h; exact (fail_ok h).elim
    | _ => exact (fail_ok h).elim

theorem aMakeIface_ok (K : CfgOK P C) (R : Rel φ s.heap w) {t : TypeId} {x x' : Value} {r : Go.Eng.R} (hx : VR φ x x') (h : aMakeIface C t x s = some (r, s')) :
    ∃ v, r = .val v ∧ ValOK P φ s.heap w v s'.heap (Instr.makeInterface t x') := by
  unfold aMakeIface at h
  cases hi : C.ti t with
  | none => rw [hi] at h; exact (fail_ok h).elim
  | some ti =>
  rw [hi] at h
  simp only at h
  obtain ⟨d, hd, hu⟩ := (K.ti _ _ hi).und
  have key : ti.u ≠ .iface → (Instr.makeInterface t x').run P w = .ok (.iface t x') w := fun hn => by
    cases d <;> first | (exact (hn (hu ▸ rfl)).elim) | simp [Instr.makeInterface, run_underlying hd]
  cases hU : ti.u <;> rw [hU] at h <;> first
    | exact (fail_ok h).elim
    | (obtain ⟨rfl, rfl⟩ := val_ok h
       exact ⟨_, rfl, .here R (key (by rw [hU]; intro q; cases q)) (.iface t hx)⟩)

theorem aAssert_ok (K : CfgOK P C) (R : Rel φ s.heap w) {t xt : TypeId} {x x' : Value} {ok : Bool} {r : Go.Eng.R} (hx : VR φ x x') (h : aAssert C x t ok s = some (r, s')) :
    ∃ v, r = .val v ∧ ValOK P φ s.heap w v s'.heap (Instr.typeAssert x' xt t ok) := by
  unfold aAssert at h
  cases hi : C.ti t with
  | none => rw [hi] at h; exact (fail_ok h).elim
  | some ti =>
  rw [hi] at h
  simp only at h
  have T := K.ti _ _ hi
  obtain ⟨d, hd, hu⟩ := T.und
  have hz := run_zeroValue' T w
  cases hx with
  | iface u hv =>
    rename_i v v'
    have h' : ti.u ≠ .iface ∧ ((bif Nat.beq u t then val (bif ok then .tuple #[v, .bool true] else v)
        else bif ok then (match zeroV ti with
          | some z => val (.tuple #[z, .bool false])
          | none => M.fail) else M.fail) : M Go.Eng.R) s = some (r, s') := by
      cases hU : ti.u <;> rw [hU] at h <;> first | exact (fail_ok h).elim | exact ⟨(fun q => by cases q), h⟩
    obtain ⟨hn, h⟩ := h'
    cases hq : Nat.beq u t with
    | true =>
      rw [hq] at h
      simp only [cond_true] at h
      obtain ⟨rfl, rfl⟩ := val_ok h
      obtain rfl := Nat.eq_of_beq_eq_true hq
      cases ok with
      | true =>
        refine ⟨_, rfl, .here R (v' := .tuple #[v', .bool true]) ?_ (.tuple (.cons hv (.cons (.bool _) .nil)))⟩
        cases d <;> first | (exact (hn (hu ▸ rfl)).elim) | simp [Instr.typeAssert, run_underlying hd]
      | false =>
        refine ⟨_, rfl, .here R (v' := v') ?_ hv⟩
        cases d <;> first | (exact (hn (hu ▸ rfl)).elim) | simp [Instr.typeAssert, run_underlying hd]
    | false =>
      rw [hq] at h
      simp only [cond_false] at h
      have hne : ¬ u = t := fun e => by subst e; simp at hq
      cases ok with
      | false => simp only [cond_false] at h; exact (fail_ok h).elim
      | true =>
        simp only [cond_true] at h
        cases hzv : zeroV ti with
        | none => rw [hzv] at h; exact (fail_ok h).elim
        | some z =>
          rw [hzv] at h
          obtain ⟨rfl, rfl⟩ := val_ok h
          obtain rfl := zeroV_ok T hzv
          refine ⟨_, rfl, .here R (v' := .tuple #[ti.zv, .bool false]) ?_ (.tuple (.cons T.zvVR (.cons (.bool _) .nil)))⟩
          cases d <;> first | (exact (hn (hu ▸ rfl)).elim) | simp [Instr.typeAssert, run_underlying hd, hne, hz]
  | nilIface =>
    have h' : ti.u ≠ .iface ∧ ((bif ok then (match zeroV ti with
          | some z => val (.tuple #[z, .bool false])
          | none => M.fail) else M.fail) : M Go.Eng.R) s = some (r, s') := by
      cases hU : ti.u <;> rw [hU] at h <;> first | exact (fail_ok h).elim | exact ⟨(fun q => by cases q), h⟩
    obtain ⟨hn, h⟩ := h'
    cases ok with
    | false => simp only [cond_false] at h; exact (fail_ok h).elim
    | true =>
      simp only [cond_true] at h
      cases hzv : zeroV ti with
      | none => rw [hzv] at h; exact (fail_ok h).elim
      | some z =>
        rw [hzv] at h
        obtain ⟨rfl, rfl⟩ := val_ok h
        obtain rfl := zeroV_ok T hzv
        refine ⟨_, rfl, .here R (v' := .tuple #[ti.zv, .bool false]) ?_ (.tuple (.cons T.zvVR (.cons (.bool _) .nil)))⟩
        cases d <;> first | (exact (hn (hu ▸ rfl)).elim) | simp [Instr.typeAssert, run_underlying hd, hz]
  | _ => cases hU : ti.u <;> rw [hU] at h <;> exact (fail_ok h).elim
end
end Go.Eng
