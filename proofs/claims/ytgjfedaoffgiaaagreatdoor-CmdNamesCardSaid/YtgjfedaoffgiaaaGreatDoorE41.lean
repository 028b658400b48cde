/-
  CmdNames: the walk: whatever number a command has, and whatever 'cut' is.
-/
import Derived.Test.YtgjfedaoffgiaaaGreatDoorE40
import Derived.Lib.Hide
namespace Go.Eng.Tryz
open Go.Proofs Go.RowKit
theorem Tabs.below {w w' : World} (t : Tabs w) (h : Below w.heap.size w w') : Tabs w' := by
  have q : ∀ {g : Nat} {zs : List Int}, (∃ ty fz, w.heap[g]? = some (.cells (zs.map (Value.int .u8)).toArray ty fz)) → ∃ ty fz, w'.heap[g]? = some (.cells (zs.map (Value.int .u8)).toArray ty fz) := by
    intro g zs ⟨ty, fz, e⟩
    exact ⟨ty, fz, by rw [h.block g (Array.getElem?_eq_some_iff.1 e).1]; exact e⟩
  exact ⟨q t.space, q t.first, q t.accept⟩
noncomputable def isSl : Option (End × ASt) → Bool
  | some (.ret (.slice (some ⟨_, _, none⟩) n _), _) => Nat.beq n 20
  | _ => false
theorem names_run : isSl (aCall cfg 5000 41 49 [] s0) = true := by kernel_rfl
theorem names_calls {w : World} (t : Tabs w) : Calls Go.Proofs.Tryz.prog 49 #[] w fun e w' => ∃ a c, e = .returned (.slice (some a) 20 c) ∧ Below w.heap.size w w' := by
  have h := names_run
  cases hr : aCall cfg 5000 41 49 [] s0 with
  | none => rw [hr] at h; cases h
  | some q =>
    obtain ⟨e, s'⟩ := q
    rw [hr] at h
    unfold isSl at h
    split at h
    · rename_i b o n c s1 hq
      cases hq
      obtain rfl := Nat.eq_of_beq_eq_true h
      refine (runs 5000 41 49 [] s0 _ _ hr phi0 w #[] (rel0 t) .nil).mono fun e' w' ⟨φ', st, er⟩ => ?_
      cases er with
      | ret hv => cases hv with
        | slice hl => exact ⟨_, _, rfl, step_below st⟩
    · cases h
set_option maxRecDepth 100000 in
theorem name_low (k : Int) (hk : k < 1) (w : World) (t : Tabs w) : Calls Go.Proofs.Tryz.prog 10 #[.int .i64 k] w fun e w' => e = .returned (.string ⟨#[]⟩) ∧ Below w.heap.size w w' := by
  have c := names_calls t
  clear t
  go_enter Go.Proofs.Tryz.func10, Go.Proofs.Tryz.ntmps10
  go_wp2_with (go_at_call 49; refine c.mono ?_; rintro e w' ⟨a, cc, rfl, hb⟩)
  go_ret
  exact ⟨rfl, hb⟩
set_option maxRecDepth 100000 in
theorem name_high (k : Int) (hk : 20 < k) (w : World) (t : Tabs w) : Calls Go.Proofs.Tryz.prog 10 #[.int .i64 k] w fun e w' => e = .returned (.string ⟨#[]⟩) ∧ Below w.heap.size w w' := by
  have c := names_calls t
  have h1 : ¬ k < 1 := by omega
  clear t
  go_enter Go.Proofs.Tryz.func10, Go.Proofs.Tryz.ntmps10
  go_wp2_with (go_at_call 49; refine c.mono ?_; rintro e w' ⟨a, cc, rfl, hb⟩)
  go_ret
  exact ⟨rfl, hb⟩
theorem awake25_run : isT (aCall cfg 5000 41 9 [] s0) = true := by kernel_rfl
theorem awake25 {w : World} (t : Tabs w) : Calls Go.Proofs.Tryz.prog 9 #[] w fun e w' => e = .returned (.bool true) ∧ Below w.heap.size w w' := true_of awake25_run rfl t
set_option maxRecDepth 100000 in
theorem law_low (k c : Int) (hk : k < 1) (w : World) (t : Tabs w) : Calls Go.Proofs.Tryz.prog 3 #[.int .i64 k, .int .u8 c] w fun e w' => e = .returned (.bool true) ∧ Below w.heap.size w w' := by
  have a := awake25 t
  have T := Lib.hid t
  clear t
  go_enter Go.Proofs.Tryz.func3, Go.Proofs.Tryz.ntmps3
  go_wp2_with (first
    | (go_at_call 9; refine a.mono ?_; rintro e w' ⟨rfl, ha⟩)
    | (go_at_call 10; refine (name_low k hk _ (T.out.below ha)).mono ?_; rintro e w'' ⟨rfl, hn⟩))
  go_ret
  exact ⟨rfl, ha.trans (hn.mono ha.size)⟩
set_option maxRecDepth 100000 in
theorem law_high (k c : Int) (hk : 20 < k) (w : World) (t : Tabs w) : Calls Go.Proofs.Tryz.prog 3 #[.int .i64 k, .int .u8 c] w fun e w' => e = .returned (.bool true) ∧ Below w.heap.size w w' := by
  have a := awake25 t
  have h1 : ¬ k < 1 := by omega
  have T := Lib.hid t
  clear t
  go_enter Go.Proofs.Tryz.func3, Go.Proofs.Tryz.ntmps3
  go_wp2_with (first
    | (go_at_call 9; refine a.mono ?_; rintro e w' ⟨rfl, ha⟩)
    | (go_at_call 10; refine (name_high k hk _ (T.out.below ha)).mono ?_; rintro e w'' ⟨rfl, hn⟩))
  go_ret
  exact ⟨rfl, ha.trans (hn.mono ha.size)⟩
theorem law25 (k c : Int) (h0 : 0 ≤ c) (h1 : c < 256) (w : World) (t : Tabs w) : Calls Go.Proofs.Tryz.prog 3 #[.int .i64 k, .int .u8 c] w fun e w' => e = .returned (.bool true) ∧ Below w.heap.size w w' := by
  by_cases hl : k < 1
  · exact law_low k c hl w t
  · by_cases hh : 20 < k
    · exact law_high k c hh w t
    · exact true_of (args := [.int .i64 k, .int .u8 c]) (in_range (by omega) (by omega) h0 h1) rfl t
end Go.Eng.Tryz
