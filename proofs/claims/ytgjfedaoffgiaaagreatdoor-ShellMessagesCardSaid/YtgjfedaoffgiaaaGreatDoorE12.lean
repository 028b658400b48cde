/-
  Each operation of the evaluator tells what the machine's operation does: maps, iterators, lengths.
-/
import Derived.Test.YtgjfedaoffgiaaaGreatDoorE11
import Derived.Laws.StructEq
namespace Go.Eng
section
variable {P : Program} {C : Cfg} {φ : Phi} {s s' : ASt} {w : World}

theorem sameNow_inv {d : TypeDesc} {k e : Value} {b : Bool} (h : Instr.sameNow d k e = some b) :
    (∃ q q' a c, d = .int q ∧ k = .int q' a ∧ e = .int q' c ∧ (a == c) = b) ∨ (∃ a c, d = .string ∧ k = .string a ∧ e = .string c ∧ (a == c) = b) ∨ (∃ a c, d = .bool ∧ k = .bool a ∧ e = .bool c ∧ (a == c) = b) := by
  unfold Instr.sameNow at h
  split at h
  · split at h
    · rename_i q1 q2 q3 q4 q5 q6 hq
      subst hq
      simp only [Option.some.injEq] at h
      exact .inl ⟨_, _, _, _, rfl, rfl, rfl, h⟩
    · cases h
  · simp only [Option.some.injEq] at h; exact .inr (.inl ⟨_, _, rfl, rfl, rfl, h⟩)
  · simp only [Option.some.injEq] at h; exact .inr (.inr ⟨_, _, rfl, rfl, rfl, h⟩)
  · cases h
theorem sameNow_VR {d : TypeDesc} {k k' e e' : Value} {b : Bool} (hk : VR φ k k') (he : VR φ e e') (h : Instr.sameNow d k e = some b) : Instr.sameNow d k' e' = some b := by
  rcases sameNow_inv h with ⟨_, _, _, _, rfl, rfl, rfl, _⟩ | ⟨_, _, rfl, rfl, rfl, _⟩ | ⟨_, _, rfl, rfl, rfl, _⟩ <;> (cases hk; cases he; exact h)
theorem findNow_VR {d : TypeDesc} {k k' : Value} (hk : VR φ k k') : ∀ {es es' : List MapEntry} {i : Nat} {o : Option (Nat × Value)}, ER φ es es' → Instr.findNow d k es i = some o →
    match o with
    | none => Instr.findNow d k' es' i = some none
    | some (j, v) => ∃ v' e', Instr.findNow d k' es' i = some (some (j, v')) ∧ VR φ v v' ∧ es'[j - i]? = some e' ∧ Instr.sameNow d k' e'.key = some true ∧ i ≤ j
  | _, _, i, o, .nil, h => by simp [Instr.findNow] at h; subst h; simp [Instr.findNow]
  | _, _, i, o, .cons (e := e) (e' := e') (es := es) (es' := es') hkey hval hb t, h => by
    simp only [Instr.findNow] at h
    cases hs : Instr.sameNow d k e.key with
    | none => rw [hs] at h; cases h
    | some b =>
      rw [hs] at h
      have hs' := sameNow_VR hk hkey hs
      cases b with
      | true =>
        simp at h; subst h
        exact ⟨e'.val, e', by simp [Instr.findNow, hs'], hval, by simp, hs', Nat.le_refl _⟩
      | false =>
        simp only at h
        have ih := findNow_VR hk t h
        cases o with
        | none => simp only at ih ⊢; simp [Instr.findNow, hs', ih]
        | some jv =>
          obtain ⟨j, v⟩ := jv
          obtain ⟨v', f, h1, h2, h3, h4, h5⟩ := ih
          exact ⟨v', f, by simp [Instr.findNow, hs', h1], h2, by rw [show j - i = (j - (i + 1)) + 1 by omega]; simpa using h3, h4, by omega⟩
theorem bytes_eq_of_beq {a c : ByteArray} (h : (a == c) = true) : a = c := by
  rw [beq_toListBytes] at h
  have h := eq_of_beq h
  rw [ByteArray.toList_eq, ByteArray.toList_eq] at h
  cases a; cases c
  congr 1
  exact Array.ext' h
theorem sameBits_of_sameNow {d : TypeDesc} {k e : Value} (h : Instr.sameNow d k e = some true) : Instr.sameBits 10000 e k = true := by
  rcases sameNow_inv h with ⟨_, _, _, _, rfl, rfl, rfl, q⟩ | ⟨_, _, rfl, rfl, rfl, q⟩ | ⟨_, _, rfl, rfl, rfl, q⟩
  · have q := eq_of_beq q; subst q; unfold Instr.sameBits; simp
  · have q := bytes_eq_of_beq q; subst q; unfold Instr.sameBits; rw [beq_toListBytes]; simp
  · have q := eq_of_beq q; subst q; unfold Instr.sameBits; simp
theorem keyDesc_ok (K : CfgOK P C) {t : TypeId} {d : TypeDesc} (h : keyDesc C t = some d) : P.underlying t = some d ∧ (d = .string ∨ d = .bool ∨ ∃ k, d = .int k) := by
  unfold keyDesc at h
  cases hi : C.ti t with
  | none => rw [hi] at h; cases h
  | some ti =>
    rw [hi] at h
    simp only at h
    obtain ⟨d0, hd, hu⟩ := (K.ti _ _ hi).und
    cases hU : ti.u <;> rw [hU] at h hu <;> simp at h
    · subst h; cases d0 <;> simp [toU] at hu; exact ⟨hd, .inr (.inl rfl)⟩
    · subst h; obtain rfl := toU_int hu; exact ⟨hd, .inr (.inr ⟨_, rfl⟩)⟩
    · subst h; obtain rfl := toU_str hu; exact ⟨hd, .inl rfl⟩
theorem run_checkKey {t : TypeId} {d : TypeDesc} (h : P.underlying t = some d) (hd : d = .string ∨ d = .bool ∨ ∃ k, d = .int k) (e : Bool) (k : Value) (w : World) : (Instr.checkKey e 10000 t k).run P w = .ok () w := by
  rcases hd with rfl | rfl | ⟨_, rfl⟩ <;> (rw [Instr.checkKey]; simp [run_underlying h])
theorem run_findKey {t : TypeId} {d : TypeDesc} (h : P.underlying t = some d) {k : Value} {es : List MapEntry} {o : Option (Nat × Value)} (hf : Instr.findNow d k es 0 = some o) (w : World) : (Instr.findKey t k es).run P w = .ok o w := by
  simp [Instr.findKey, run_underlying h, hf]
theorem run_getMap {r : Nat} {es : Array MapEntry} {c : Nat} (h : w.heap[r]? = some (.map es c)) : (getObj r).run P w = .ok (.map es c) w := by
  simp [getObj, Sem.run, h]
theorem run_setMap {r : Nat} {es : Array MapEntry} {c : Nat} (o : Obj) (h : w.heap[r]? = some (.map es c)) : (setObj r o).run P w = .ok () { w with heap := w.heap.setIfInBounds r o } := by
  simp [setObj, Sem.run, h]
theorem ER.length : ∀ {es es' : List MapEntry}, ER φ es es' → es'.length = es.length
  | _, _, .nil => rfl
  | _, _, .cons _ _ _ t => by simp [ER.length t]
theorem ER.snoc : ∀ {es es' : List MapEntry} {e e' : MapEntry}, ER φ es es' → VR φ e.key e'.key → VR φ e.val e'.val → e'.born = e.born → ER φ (es ++ [e]) (es' ++ [e'])
  | _, _, _, _, .nil, h1, h2, h3 => .cons h1 h2 h3 .nil
  | _, _, _, _, .cons a b c t, h1, h2, h3 => .cons a b c (ER.snoc t h1 h2 h3)
theorem ER.setVal : ∀ {es es' : List MapEntry} {k k' v v' : Value} (i : Nat), ER φ es es' → VR φ k k' → VR φ v v' → ER φ (Go.Eng.setVal es i k v) (es'.modify i fun e => { e with key := k', val := v' })
  | _, _, _, _, _, _, i, .nil, _, _ => by cases i <;> exact .nil
  | _, _, _, _, _, _, 0, .cons a b c t, h1, h2 => by
    simp only [Go.Eng.setVal, List.modify_zero_cons]
    exact .cons h1 h2 c t
  | _, _, _, _, _, _, i + 1, .cons a b c t, h1, h2 => by
    simp only [Go.Eng.setVal, List.modify_succ_cons]
    exact .cons a b c (ER.setVal i t h1 h2)
theorem ER.erase : ∀ {es es' : List MapEntry} (i : Nat), ER φ es es' → ER φ (es.eraseIdx i) (es'.eraseIdx i)
  | _, _, i, .nil => by simpa using ER.nil
  | _, _, 0, .cons a b c t => by simpa using t
  | _, _, i + 1, .cons a b c t => by simpa using ER.cons a b c (ER.erase i t)

theorem Rel.map {H : Tr AObj} {b c : Nat} {es : List MapEntry} {l : Loc} (h : Rel φ H w) (g : H.get b = some (.map es c)) (hp : φ b = some l) :
    l.sh = 0 ∧ l.blk < w.heap.size ∧ ∃ es', w.heap[l.blk]? = some (.map es' c) ∧ ER φ es es'.toList := by
  obtain ⟨l0, a, q, k⟩ := h.obj _ _ g
  rw [hp] at a; cases a
  exact ⟨k.1, q, k.2⟩
theorem Rel.putObj {H : Tr AObj} {b : Nat} {o o' : AObj} {l : Loc} (R : Rel φ H w) (g : H.get b = some o) (hr : o.rw = true) (hp : φ b = some l) (O : Obj)
    (ho : ObjR φ l o' { w with heap := w.heap.setIfInBounds l.blk O }) : Step φ H w φ (H.set b o') { w with heap := w.heap.setIfInBounds l.blk O } := by
  refine Step.write R g hr hp (by simp) (fun k hk => ?_) rfl rfl rfl ho
  show (w.heap.setIfInBounds l.blk O)[k]? = _
  rw [Array.getElem?_setIfInBounds_ne (fun e => hk e.symm)]

theorem aLookup_ok (K : CfgOK P C) (R : Rel φ s.heap w) {t : TypeId} {x x' k k' : Value} {ok : Bool} {r : Go.Eng.R} (hx : VR φ x x') (hk : VR φ k k') (h : aLookup C t x k ok s = some (r, s')) :
    ∃ v, r = .val v ∧ ValOK P φ s.heap w v s'.heap (Instr.lookup t x' k' ok) := by
  unfold aLookup at h
  cases hi : C.ti t with
  | none => rw [hi] at h; exact (fail_ok h).elim
  | some ti =>
  rw [hi] at h
  simp only at h
  obtain ⟨d, hd, hu⟩ := (K.ti _ _ hi).und
  cases hU : ti.u <;> rw [hU] at h <;> try exact (fail_ok h).elim
  rename_i kt et
  simp only at h
  rw [hU] at hu
  obtain rfl := toU_map hu
  cases hkd : keyDesc C kt with
  | none => rw [hkd] at h; exact (fail_ok h).elim
  | some kd =>
  cases he : C.ti et with
  | none => rw [hkd, he] at h; exact (fail_ok h).elim
  | some ei =>
  rw [hkd, he] at h
  simp only at h
  have TE := K.ti _ _ he
  obtain ⟨q1, q2⟩ := keyDesc_ok K hkd
  obtain ⟨⟨es, c⟩, s1, h1, h2⟩ := bind_ok h
  have hes : s1.heap = s.heap ∧ ∃ es' : Array MapEntry, ER φ es es'.toList ∧ ((x' = .map none ∧ es' = #[]) ∨ ∃ r c', x' = .map (some r) ∧ w.heap[r]? = some (.map es' c')) := by
    cases hx with
    | mnil =>
      obtain ⟨e, e2⟩ := ret_ok h1
      cases e
      exact ⟨by rw [e2], #[], .nil, .inl ⟨rfl, rfl⟩⟩
    | map hb =>
      obtain ⟨g, e1⟩ := mapAt_ok h1
      obtain ⟨_, _, es', hh, her⟩ := R.map g hb
      exact ⟨e1, es', her, .inr ⟨_, _, rfl, hh⟩⟩
    | _ => exact (fail_ok h1).elim
  obtain ⟨e1, es', her, hx'⟩ := hes
  have base : ∀ o v, Instr.findNow kd k' es'.toList 0 = some o → (v = match o with | some (_, v) => (v, true) | none => (ei.zv, false)) →
      (Instr.lookup t x' k' ok).run P w = .ok (if ok then .tuple #[v.1, .bool v.2] else v.1) w := by
    intro o v hf hv
    have hck := run_checkKey (P := P) q1 q2 es'.isEmpty k' w
    have hfk := run_findKey (P := P) q1 hf w
    rcases hx' with ⟨rfl, rfl⟩ | ⟨r, c', rfl, hh⟩
    · cases o with
      | none => simp at hck; simp at hfk; simp [Instr.lookup, run_underlying hd, hck, hfk, run_zeroValue' TE, hv]
      | some iv => obtain ⟨i, u⟩ := iv; simp at hck; simp at hfk; simp [Instr.lookup, run_underlying hd, hck, hfk, hv]
    · cases o with
      | none => simp [Instr.lookup, run_underlying hd, run_getMap hh, hck, hfk, run_zeroValue' TE, hv]
      | some iv => obtain ⟨i, u⟩ := iv; simp [Instr.lookup, run_underlying hd, run_getMap hh, hck, hfk, hv]
  simp only at h2
  cases hf : Instr.findNow kd k es 0 with
  | none => rw [hf] at h2; cases zeroV ei <;> exact (fail_ok h2).elim
  | some o =>
  have hF := findNow_VR hk her hf
  cases o with
  | some iv =>
    obtain ⟨i, v⟩ := iv
    rw [hf] at h2
    obtain ⟨v', e', g1, g2, _⟩ := hF
    obtain ⟨rfl, rfl⟩ := val_ok h2
    refine ⟨_, rfl, ?_⟩
    rw [e1]
    cases ok with
    | true => exact .here R (base _ (v', true) g1 rfl) (.tuple (.cons g2 (.cons (.bool _) .nil)))
    | false => exact .here R (base _ (v', true) g1 rfl) g2
  | none =>
    rw [hf] at h2
    cases hz : zeroV ei with
    | none => rw [hz] at h2; exact (fail_ok h2).elim
    | some z =>
    rw [hz] at h2
    obtain ⟨rfl, rfl⟩ := val_ok h2
    obtain rfl := zeroV_ok TE hz
    refine ⟨_, rfl, ?_⟩
    rw [e1]
    cases ok with
    | true => exact .here R (base _ (ei.zv, false) hF rfl) (.tuple (.cons TE.zvVR (.cons (.bool _) .nil)))
    | false => exact .here R (base _ (ei.zv, false) hF rfl) TE.zvVR

theorem aUpdate_ok (K : CfgOK P C) (R : Rel φ s.heap w) {t : TypeId} {x x' k k' v v' : Value} {r : Go.Eng.R} (hx : VR φ x x') (hk : VR φ k k') (hv : VR φ v v') (h : aUpdate C t x k v s = some (r, s')) :
    r = .unit ∧ UnitOK P φ s.heap w s'.heap (Instr.mapUpdate t x' k' v') := by
  unfold aUpdate at h
  cases hi : C.ti t with
  | none => rw [hi] at h; exact (fail_ok h).elim
  | some ti =>
  rw [hi] at h
  cases hx with
  | map hb =>
    rename_i b l
    simp only at h
    obtain ⟨d, hd, hu⟩ := (K.ti _ _ hi).und
    cases hU : ti.u <;> rw [hU] at h <;> try exact (fail_ok h).elim
    rename_i kt et
    simp only at h
    rw [hU] at hu
    obtain rfl := toU_map hu
    cases hkd : keyDesc C kt with
    | none => rw [hkd] at h; exact (fail_ok h).elim
    | some kd =>
    rw [hkd] at h
    simp only at h
    obtain ⟨q1, q2⟩ := keyDesc_ok K hkd
    obtain ⟨⟨es, c⟩, s1, h1, h2⟩ := bind_ok h
    obtain ⟨g, e1⟩ := mapAt_ok h1
    obtain ⟨hsh, hlt, es', hh, her⟩ := R.map g hb
    simp only at h2
    cases hf : Instr.findNow kd k es 0 with
    | none => rw [hf] at h2; exact (fail_ok h2).elim
    | some o =>
    have hF := findNow_VR hk her hf
    have hck := run_checkKey (P := P) q1 q2 false k' w
    have hset : ∀ (O : Obj), ({ w with heap := w.heap.setIfInBounds l.blk O } : World).heap[l.blk]? = some O := fun O => by
      show (w.heap.setIfInBounds l.blk O)[l.blk]? = _
      rw [Array.getElem?_setIfInBounds_self_of_lt hlt]
    cases o with
    | some iv =>
      obtain ⟨i, u⟩ := iv
      rw [hf] at h2
      obtain ⟨u', e', g1, g2, g3, g4, _⟩ := hF
      obtain ⟨_, s2, h3, h4⟩ := bind_ok h2
      obtain ⟨rfl, rfl⟩ := ret_ok h4
      have hfk := run_findKey (P := P) q1 g1 w
      refine ⟨rfl, φ, _, by rw [(wr_ok h3).1, e1]; exact R.putObj g rfl hb (.map (es'.modify i fun e => { e with key := k', val := v' }) c) ⟨hsh, _, hset _, by rw [Array.toList_modify]; exact ER.setVal i her hk hv⟩, ?_⟩
      have hkey : (((es'[i]?).map (·.key)).getD k') = e'.key := by
        have : es'[i]? = some e' := by simpa using g3
        simp [this]
      simp [Instr.mapUpdate, run_underlying hd, run_getMap hh, hck, hfk, Instr.keyThatStays, hkey, sameBits_of_sameNow g4, run_setMap _ hh]
    | none =>
      rw [hf] at h2
      obtain ⟨_, s2, h3, h4⟩ := bind_ok h2
      obtain ⟨rfl, rfl⟩ := ret_ok h4
      have hfk := run_findKey (P := P) q1 hF w
      refine ⟨rfl, φ, _, by rw [(wr_ok h3).1, e1]; exact R.putObj g rfl hb (.map (es'.push { key := k', val := v', born := c }) (c + 1)) ⟨hsh, _, hset _, by rw [Array.toList_push]; exact ER.snoc her hk hv rfl⟩, ?_⟩
      simp [Instr.mapUpdate, run_underlying hd, run_getMap hh, hck, hfk, run_setMap _ hh]
  | _ => exact (fail_ok h).elim

theorem aDelete_ok (K : CfgOK P C) (R : Rel φ s.heap w) {t : TypeId} {ts : Array TypeId} {ty : TypeId} {x x' k k' : Value} {r : Go.Eng.R} (ht : ts[0]? = some t) (hx : VR φ x x') (hk : VR φ k k') (h : aDelete C t x k s = some (r, s')) :
    ∃ v, r = .val v ∧ ValOK P φ s.heap w v s'.heap (Builtin.delete_ ts ty #[x', k']) := by
  unfold aDelete at h
  cases hi : C.ti t with
  | none => rw [hi] at h; exact (fail_ok h).elim
  | some ti =>
  rw [hi] at h
  simp only at h
  obtain ⟨d, hd, hu⟩ := (K.ti _ _ hi).und
  cases hU : ti.u <;> rw [hU] at h <;> try exact (fail_ok h).elim
  rename_i kt et
  simp only at h
  rw [hU] at hu
  obtain rfl := toU_map hu
  cases hkd : keyDesc C kt with
  | none => rw [hkd] at h; exact (fail_ok h).elim
  | some kd =>
  rw [hkd] at h
  obtain ⟨q1, q2⟩ := keyDesc_ok K hkd
  cases hx with
  | mnil =>
    obtain ⟨rfl, rfl⟩ := val_ok h
    exact ⟨_, rfl, .here R (v' := .tuple #[]) (by simp [Builtin.delete_, ht, run_underlying hd, run_checkKey (P := P) q1 q2]) (.tuple .nil)⟩
  | map hb =>
    rename_i b l
    simp only at h
    obtain ⟨⟨es, c⟩, s1, h1, h2⟩ := bind_ok h
    obtain ⟨g, e1⟩ := mapAt_ok h1
    obtain ⟨hsh, hlt, es', hh, her⟩ := R.map g hb
    simp only at h2
    cases hf : Instr.findNow kd k es 0 with
    | none => rw [hf] at h2; exact (fail_ok h2).elim
    | some o =>
    have hF := findNow_VR hk her hf
    have hset : ∀ (O : Obj), ({ w with heap := w.heap.setIfInBounds l.blk O } : World).heap[l.blk]? = some O := fun O => by
      show (w.heap.setIfInBounds l.blk O)[l.blk]? = _
      rw [Array.getElem?_setIfInBounds_self_of_lt hlt]
    cases o with
    | some iv =>
      obtain ⟨i, u⟩ := iv
      rw [hf] at h2
      obtain ⟨u', e', g1, g2, g3, g4, _⟩ := hF
      obtain ⟨_, s2, h3, h4⟩ := bind_ok h2
      obtain ⟨rfl, rfl⟩ := val_ok h4
      have hfk := run_findKey (P := P) q1 g1 w
      refine ⟨_, rfl, φ, _, .tuple #[], by rw [(wr_ok h3).1, e1]; exact R.putObj g rfl hb (.map (es'.eraseIdxIfInBounds i) c) ⟨hsh, _, hset _, by rw [Array.toList_eraseIdxIfInBounds]; exact ER.erase i her⟩, ?_, .tuple .nil⟩
      simp [Builtin.delete_, ht, run_underlying hd, run_checkKey (P := P) q1 q2, run_getMap hh, hfk, run_setMap _ hh]
    | none =>
      rw [hf] at h2
      obtain ⟨rfl, rfl⟩ := val_ok h2
      have hfk := run_findKey (P := P) q1 hF w
      have hsame : ({ w with heap := w.heap.setIfInBounds l.blk (.map es' c) } : World) = w := by
        have : w.heap.setIfInBounds l.blk (.map es' c) = w.heap := by
          apply Array.ext_getElem?
          intro j
          rw [Array.getElem?_setIfInBounds]
          split
          · rename_i e; subst e
            rw [Array.getElem?_eq_getElem hlt] at hh
            rw [Array.getElem?_eq_getElem hlt, hh]
          · rfl
        rw [this]
      refine ⟨_, rfl, ?_⟩
      rw [e1]
      refine .here R (v' := .tuple #[]) ?_ (.tuple .nil)
      simp [Builtin.delete_, ht, run_underlying hd, run_checkKey (P := P) q1 q2, run_getMap hh, hfk, run_setMap _ hh, hsame]
  | _ => exact (fail_ok h).elim

theorem aRange_ok (K : CfgOK P C) (R : Rel φ s.heap w) {t : TypeId} {x x' : Value} {r : Go.Eng.R} (hx : VR φ x x') (h : aRange C t x s = some (r, s')) :
    ∃ v, r = .val v ∧ ValOK P φ s.heap w v s'.heap (Instr.range t x') := by
  unfold aRange at h
  cases hi : C.ti t with
  | none => rw [hi] at h; exact (fail_ok h).elim
  | some ti =>
  rw [hi] at h
  cases hx with
  | str sb =>
    simp only at h
    obtain ⟨d, hd, hu⟩ := (K.ti _ _ hi).und
    cases hU : ti.u <;> rw [hU] at h <;> try exact (fail_ok h).elim
    simp only at h
    rw [hU] at hu
    obtain rfl := toU_str hu
    obtain ⟨b, s1, h1, h2⟩ := bind_ok h
    obtain ⟨g, e1⟩ := nw_ok h1
    obtain ⟨rfl, rfl⟩ := val_ok h2
    refine ⟨_, rfl, upd φ b ⟨w.heap.size, 0, 0⟩, w.alloc (.stringIter sb 0), .pointer (some ⟨w.heap.size, 0, none⟩), ?_, ?_, ?_⟩
    · rw [e1]
      refine Step.alloc R g rfl ⟨rfl, ?_⟩
      show (w.heap.push _)[w.heap.size]? = _
      rw [Array.getElem?_push, if_pos rfl]
    · simp [Instr.range, run_underlying hd]
    · have := VR.ptr (o := 0) (upd_same φ b ⟨w.heap.size, 0, 0⟩)
      simpa [ptr] using this
  | _ => exact (fail_ok h).elim
theorem aNext_ok (R : Rel φ s.heap w) {t : TypeId} {x x' : Value} {isS : Bool} {r : Go.Eng.R} (hx : VR φ x x') (h : aNext x isS s = some (r, s')) :
    ∃ v, r = .val v ∧ ValOK P φ s.heap w v s'.heap (Instr.next x' isS t) := by
  unfold aNext at h
  cases ha : addr x with
  | none => rw [ha] at h; exact (fail_ok h).elim
  | some bo =>
  obtain ⟨b, o⟩ := bo
  rw [ha] at h
  cases o with
  | succ _ => exact (fail_ok h).elim
  | zero =>
  simp only at h
  obtain ⟨l, hb, rfl⟩ := hx.addr ha
  obtain ⟨o, s1, h1, h2⟩ := bind_ok h
  obtain ⟨g, e1⟩ := rd_ok h1
  cases o with
  | iter sb pos =>
    simp only at h2
    obtain ⟨l0, a0, hlt, hsh, hh⟩ := R.obj _ _ g
    rw [hb] at a0; cases a0
    cases isS with
    | false => simp only [cond_false] at h2; exact (fail_ok h2).elim
    | true =>
    simp only [cond_true] at h2
    have hget : (getObj l.blk).run P w = .ok (.stringIter sb pos) w := by simp [getObj, Sem.run, hh]
    cases hp : Nat.blt pos sb.size with
    | false =>
      rw [hp] at h2
      simp only [cond_false] at h2
      obtain ⟨rfl, rfl⟩ := val_ok h2
      have : ¬ pos < sb.size := by
        intro q; rw [show Nat.blt pos sb.size = true by simpa using q] at hp; cases hp
      refine ⟨_, rfl, ?_⟩
      rw [e1]
      refine .here R (v' := .tuple #[.bool false]) ?_ (.tuple (.cons (.bool _) .nil))
      simp [Instr.next, hsh, hget, this]
    | true =>
      rw [hp] at h2
      simp only [cond_true] at h2
      have hlt' : pos < sb.size := by simpa using hp
      cases hd : Utf8.decode sb pos with
      | mk c wd =>
      rw [hd] at h2
      simp only at h2
      obtain ⟨_, s2, h3, h4⟩ := bind_ok h2
      obtain ⟨rfl, rfl⟩ := val_ok h4
      have hset : (setObj l.blk (.stringIter sb (pos + wd))).run P w = .ok () { w with heap := w.heap.setIfInBounds l.blk (.stringIter sb (pos + wd)) } := by simp [setObj, Sem.run, hh]
      have hget2 : ({ w with heap := w.heap.setIfInBounds l.blk (.stringIter sb (pos + wd)) } : World).heap[l.blk]? = some (.stringIter sb (pos + wd)) := by
        show (w.heap.setIfInBounds l.blk _)[l.blk]? = _
        rw [Array.getElem?_setIfInBounds_self_of_lt hlt]
      have st := R.putObj g rfl hb (.stringIter sb (pos + wd)) (o' := .iter sb (pos + wd)) ⟨hsh, hget2⟩
      refine ⟨_, rfl, φ, _, .tuple #[.bool true, .int .i64 pos, .int .i32 c], by rw [(wr_ok h3).1, e1]; exact st, ?_, .tuple (.cons (.bool _) (.cons (.int _ _) (.cons (.int _ _) .nil)))⟩
      simp [Instr.next, hsh, hget, hlt', hd, hset, goInt]
  | _ => exact (fail_ok h2).elim

theorem aLen_ok (K : CfgOK P C) (R : Rel φ s.heap w) {t ty : TypeId} {x x' : Value} {ts : Array TypeId} {r : Go.Eng.R} (ht : ts[0]? = some t) (hx : VR φ x x') (h : aLen C t x s = some (r, s')) :
    ∃ v, r = .val v ∧ ValOK P φ s.heap w v s'.heap (Builtin.len_ ts ty #[x']) := by
  unfold aLen at h
  cases hi : C.ti t with
  | none => rw [hi] at h; exact (fail_ok h).elim
  | some ti =>
  rw [hi] at h
  simp only at h
  obtain ⟨d, hd, hu⟩ := (K.ti _ _ hi).und
  cases hU : ti.u <;> rw [hU] at h <;> try (cases x <;> exact (fail_ok h).elim)
  case str =>
    rw [hU] at hu
    obtain rfl := toU_str hu
    cases hx with
    | str sb =>
      obtain ⟨rfl, rfl⟩ := val_ok h
      exact ⟨_, rfl, .here R (v' := .int .i64 sb.size) (by simp [Builtin.len_, ht, run_underlying hd, goInt]) (.int _ _)⟩
    | _ => exact (fail_ok h).elim
  case array n e =>
    rw [hU] at hu
    obtain rfl := toU_array hu
    obtain ⟨rfl, rfl⟩ := val_ok h
    exact ⟨_, rfl, .here R (v' := .int .i64 n) (by simp [Builtin.len_, ht, run_underlying hd, goInt]) (.int _ _)⟩
  case slice e =>
    rw [hU] at hu
    obtain rfl := toU_slice hu
    cases hx with
    | snil =>
      obtain ⟨rfl, rfl⟩ := val_ok h
      exact ⟨_, rfl, .here R (v' := .int .i64 (0 : Nat)) (by simp [Builtin.len_, ht, run_underlying hd, goInt]) (.int _ _)⟩
    | slice hb =>
      rename_i b o n c l
      obtain ⟨rfl, rfl⟩ := val_ok h
      exact ⟨_, rfl, .here R (v' := .int .i64 n) (by simp [Builtin.len_, ht, run_underlying hd, goInt]) (.int _ _)⟩
    | slice0 a hb =>
      obtain ⟨rfl, rfl⟩ := val_ok h
      exact ⟨_, rfl, .here R (v' := .int .i64 (0 : Nat)) (by simp [Builtin.len_, ht, run_underlying hd, goInt]) (.int _ _)⟩
    | _ => exact (fail_ok h).elim
  case map kt et =>
    rw [hU] at hu
    obtain rfl := toU_map hu
    cases hx with
    | mnil =>
      obtain ⟨rfl, rfl⟩ := val_ok h
      exact ⟨_, rfl, .here R (v' := .int .i64 0) (by simp [Builtin.len_, ht, run_underlying hd, goInt]) (.int _ _)⟩
    | map hb =>
      simp only at h
      obtain ⟨⟨es, c⟩, s1, h1, h2⟩ := bind_ok h
      obtain ⟨g, e1⟩ := mapAt_ok h1
      obtain ⟨hsh, hlt, es', hh, her⟩ := R.map g hb
      obtain ⟨rfl, rfl⟩ := val_ok h2
      refine ⟨_, rfl, ?_⟩
      rw [e1]
      have hl := her.length
      refine .here R (v' := .int .i64 es.length) ?_ (.int _ _)
      simp at hl
      simp [Builtin.len_, ht, run_underlying hd, goInt, run_getMap hh, hl]
    | _ => exact (fail_ok h).elim
end
end Go.Eng
