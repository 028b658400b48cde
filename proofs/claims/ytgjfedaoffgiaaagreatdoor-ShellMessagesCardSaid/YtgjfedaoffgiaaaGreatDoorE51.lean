/-
  ShellMessages: an error's message where the table has none.
-/
import Derived.Test.YtgjfedaoffgiaaaGreatDoorE53
import Derived.Test.YtgjfedaoffgiaaaGreatDoorE50
import Derived.Test.YtgjfedaoffgiaaaGreatDoorS2
namespace Go.Eng.Tryz
open Go.Proofs Go.RowKit
theorem findNow_out (x : Int) : ∀ (es : List MapEntry) (ks : List Int) (i : Nat), es.map (·.key) = ks.map (Value.int .i64) → (∀ k ∈ ks, x ≠ k) → Instr.findNow (.int .i64) (.int .i64 x) es i = some none
  | [], _, _, _, _ => rfl
  | _ :: _, [], _, h, _ => by simp at h
  | e :: es, k :: ks, i, h, hk => by
    simp only [List.map_cons, List.cons.injEq] at h
    have hx : (x == k) = false := by simpa using hk k List.mem_cons_self
    unfold Instr.findNow
    rw [h.1]
    simp only [Instr.sameNow, if_true, hx]
    exact findNow_out x es ks (i + 1) h.2 fun j hj => hk j (List.mem_cons_of_mem _ hj)
noncomputable def keysIn : Option (End × ASt) → Option (List Value)
  | some (.ret (.map (some b)), s) => (match mapAt b s with
    | some ((es, _), _) => some (es.map (·.key))
    | none => none)
  | _ => none
def msgKeys : List Int := [0, 2, 4, 5, 12, 11, 1, 8, 6, 9, 7]
theorem messages_keys : keysIn (aCall cfg 5000 41 86 [] s0) = some (msgKeys.map (Value.int .i64)) := by kernel_rfl
theorem msg_out {x : Int} (h : x < 0 ∨ 12 < x) : ∀ k ∈ msgKeys, x ≠ k := by
  intro k hk
  simp [msgKeys] at hk
  omega
/-- What the messages' map answers where it has none. -/
def NoMsg (r : Nat) (w : World) : Prop := ∀ x : Int, x < 0 ∨ 12 < x → (Instr.lookup 166 (.map (some r)) (.int .i64 x) true).run Go.Proofs.Tryz.prog w = .ok (.tuple #[.string ⟨#[]⟩, .bool false]) w
theorem messages_calls {w : World} (t : Tabs w) : Calls Go.Proofs.Tryz.prog 86 #[] w fun e w' => ∃ r, e = .returned (.map (some r)) ∧ Below w.heap.size w w' ∧ NoMsg r w' := by
  have h := messages_keys
  cases hr : aCall cfg 5000 41 86 [] s0 with
  | none => rw [hr] at h; cases h
  | some q =>
    obtain ⟨e, s'⟩ := q
    rw [hr] at h
    unfold keysIn at h
    split at h
    · rename_i b s1 hq
      cases hq
      split at h
      · rename_i es c s2 hm
        obtain ⟨g, _⟩ := mapAt_ok hm
        have hk : es.map (·.key) = msgKeys.map (Value.int .i64) := Option.some.inj h
        refine (runs 5000 41 86 [] s0 _ _ hr phi0 w #[] (rel0 t) .nil).mono fun e' w' ⟨φ', st, er⟩ => ?_
        cases er with
        | ret hv => cases hv with
          | @map _ l hb =>
            obtain ⟨_, _, es', hh, her⟩ := st.rel.map g hb
            refine ⟨l.blk, rfl, step_below st, fun x hx => ?_⟩
            have hF := findNow_VR (VR.int (φ := φ') .i64 x) her (findNow_out x es msgKeys 0 hk (msg_out hx))
            have hck := run_checkKey (P := Go.Proofs.Tryz.prog) Go.Proofs.Tryz.underlying33 (.inr (.inr ⟨.i64, rfl⟩)) es'.isEmpty (.int .i64 x) w'
            have hfk := run_findKey (P := Go.Proofs.Tryz.prog) Go.Proofs.Tryz.underlying33 hF w'
            simp [Instr.lookup, run_underlying Go.Proofs.Tryz.underlying166, run_getMap hh, hck, hfk, Go.Proofs.Tryz.zeroValue9]
      · cases h
    · cases h
def errText (x : Int) : List UInt8 := [69, 82, 82, 79, 82, 32] ++ Lib.itoa x
theorem itoa_len (x : Int) (h0 : -9223372036854775808 ≤ x) (h1 : x ≤ 9223372036854775807) : (Lib.itoa x).length ≤ 21 := by
  unfold Lib.itoa
  split
  · have := dec_len20 x.natAbs (by omega); simp; omega
  · have := dec_len20 x.toNat (by omega); omega
theorem str_err (x : Int) : Value.string (⟨#[69, 82, 82, 79, 82, 32]⟩ ++ ⟨(Lib.itoa x).toArray⟩) = .string ⟨(errText x).toArray⟩ := by
  congr 1
set_option maxRecDepth 100000 in
set_option maxHeartbeats 1000000 in
theorem refMessage_low (x : Int) (hx : x < 0) (h0 : -9223372036854775808 ≤ x) (w : World) : Calls Go.Proofs.Tryz.prog 45 #[.int .i64 x] w fun e w' => e = .returned (.string ⟨(errText x).toArray⟩) ∧ Below w.heap.size w w' := by
  have c := refDigits_neg x hx h0
  have hl := itoa_len x h0 (by omega)
  have n0 : ¬ x = 0 := by omega
  have n1 : ¬ 0 < x := by omega
  clear h0
  go_enter Go.Proofs.Tryz.func45, Go.Proofs.Tryz.ntmps45
  go_wp2_with (go_at_call 88; refine (c _).mono ?_; rintro e w' ⟨rfl, hb⟩)
  go_ret
  exact ⟨congrArg Ending.returned (str_err x), ((Below.refl _ _).alloc (Nat.le_refl _) _).trans (hb.mono (by simp))⟩
set_option maxRecDepth 100000 in
set_option maxHeartbeats 1000000 in
theorem refMessage_high (x : Int) (hx : 12 < x) (h0 : x ≤ 9223372036854775807) (w : World) : Calls Go.Proofs.Tryz.prog 45 #[.int .i64 x] w fun e w' => e = .returned (.string ⟨(errText x).toArray⟩) ∧ Below w.heap.size w w' := by
  have c := refDigits_pos x (by omega) h0
  have hl := itoa_len x (by omega) h0
  have n0 : ¬ x = 0 := by omega
  have n1 : 0 < x := by omega
  have n2 : ¬ x < 13 := by omega
  clear h0
  go_enter Go.Proofs.Tryz.func45, Go.Proofs.Tryz.ntmps45
  go_wp2_with (go_at_call 88; refine (c _).mono ?_; rintro e w' ⟨rfl, hb⟩)
  go_ret
  exact ⟨congrArg Ending.returned (str_err x), ((Below.refl _ _).alloc (Nat.le_refl _) _).trans (hb.mono (by simp))⟩
def PowTab (w : World) : Prop := ∃ ty fz, w.heap[6]? = some (.cells (Lib.pow10Tab.map (Value.int .u64)).toArray ty fz)
theorem PowTab.below {w w' : World} (t : PowTab w) (h : Below w.heap.size w w') : PowTab w' := by
  obtain ⟨ty, fz, e⟩ := t
  exact ⟨ty, fz, by rw [h.block 6 (Array.getElem?_eq_some_iff.1 e).1]; exact e⟩
theorem PowTab.is {w : World} (t : PowTab w) : Lib.TabIs Go.Proofs.Tryz.prog w "internal/strconv.uint64pow10" .u64 Lib.pow10Tab := by
  obtain ⟨ty, fz, h⟩ := t
  have hg : Go.Proofs.Tryz.prog.globalNamed "internal/strconv.uint64pow10" = some 6 := by kernel_rfl
  unfold Lib.TabIs World.var?
  simp [hg, h]
theorem below_grow (w : World) (k : Nat) (os : Array Obj) : Below w.heap.size w (Go.Sort.grow (w.drewN k) os) := by
  refine ⟨rfl, rfl, rfl, ?_, fun i hi => ?_⟩
  · show w.heap.size ≤ (w.heap ++ os).size
    simp
  · show (w.heap ++ os)[i]? = _
    rw [Array.getElem?_append_left hi]
theorem itoa_calls (x : Int) (h0 : -9223372036854775808 ≤ x) (h1 : x ≤ 9223372036854775807) (w : World) (t : PowTab w) : Calls Go.Proofs.Tryz.prog 87 #[.int .i64 x] w fun e w' => e = .returned (.string ⟨(Lib.itoa x).toArray⟩) ∧ Below w.heap.size w w' :=
  (Go.Proofs.Tryz.strconv_Itoa x h0 h1 w t.is).mono fun _ _ ⟨he, k, os, hw⟩ => ⟨he, by rw [hw]; exact below_grow w k os⟩
set_option maxRecDepth 100000 in
set_option maxHeartbeats 1000000 in
theorem message_out (x : Int) (hx : x < 0 ∨ 12 < x) (h0 : -9223372036854775808 ≤ x) (h1 : x ≤ 9223372036854775807) (w : World) (t : Tabs w) (p : PowTab w) : Calls Go.Proofs.Tryz.prog 44 #[.int .i64 x] w fun e w' => e = .returned (.string ⟨(errText x).toArray⟩) ∧ Below w.heap.size w w' := by
  have m := messages_calls t
  have c := fun w t => itoa_calls x h0 h1 w t
  have hl := itoa_len x h0 h1
  have HX := Lib.hid hx
  have P := Lib.hid p
  clear h0 h1 hx t p
  go_enter Go.Proofs.Tryz.func44, Go.Proofs.Tryz.ntmps44
  go_wp2_with (first
    | (go_at_call 86; refine m.mono ?_; rintro e w' ⟨r, rfl, hb, hn⟩; have hq := hn x HX.out; clear hn)
    | (go_at_call 87; refine (c _ (P.out.below hb)).mono ?_; rintro e w'' ⟨rfl, hb2⟩))
  go_ret
  exact ⟨congrArg Ending.returned (str_err x), hb.trans (hb2.mono hb.size)⟩
end Go.Eng.Tryz
