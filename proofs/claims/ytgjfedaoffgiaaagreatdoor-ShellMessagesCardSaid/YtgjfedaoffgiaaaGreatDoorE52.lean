/-
  ShellMessages: the walk of the law, whatever number an error has.
-/
import Derived.Test.YtgjfedaoffgiaaaGreatDoorE51
namespace Go.Eng.Tryz
open Go.Proofs Go.RowKit
theorem messages_in : ((List.range 13).all fun e => isT (aCall cfg 5000 41 8 [.int .i64 (e : Int)] s0)) = true := by kernel_rfl
theorem awake26_run : isT (aCall cfg 5000 41 35 [] s0) = true := by kernel_rfl
theorem awake26 {w : World} (t : Tabs w) : Calls Go.Proofs.Tryz.prog 35 #[] w fun e w' => e = .returned (.bool true) ∧ Below w.heap.size w w' := true_of awake26_run rfl t
theorem refMessage_out (x : Int) (hx : x < 0 ∨ 12 < x) (h0 : -9223372036854775808 ≤ x) (h1 : x ≤ 9223372036854775807) (w : World) : Calls Go.Proofs.Tryz.prog 45 #[.int .i64 x] w fun e w' => e = .returned (.string ⟨(errText x).toArray⟩) ∧ Below w.heap.size w w' := by
  rcases hx with hx | hx
  · exact refMessage_low x hx h0 w
  · exact refMessage_high x hx h1 w
theorem did_nil (x : Int) (w : World) (c0 c1 c2 c3 c4 c5 c6 c7 c8 : Value) : Calls Go.Proofs.Tryz.prog 42 #[.pointer none, .agg #[c0, c1, c2, c3, c4, c5, c6, c7, c8], .int .i64 x, .slice none 0 0] w fun e w' => e = .returned (.tuple #[]) ∧ Below w.heap.size w w' := by
  go_enter Go.Proofs.Tryz.func42, Go.Proofs.Tryz.ntmps42
  go_wp2
  go_end0
  exact ⟨rfl, (Below.refl _ _).alloc (Nat.le_refl _) _⟩
set_option maxRecDepth 100000 in
theorem heard_nil (w : World) (c0 c1 c2 c3 c4 c5 c6 : Value) : Calls Go.Proofs.Tryz.prog 43 #[.pointer none, .agg #[c0, c1, c2, c3, c4, c5, c6]] w fun e w' => e = .returned (.tuple #[]) ∧ Below w.heap.size w w' := by
  go_enter Go.Proofs.Tryz.func43, Go.Proofs.Tryz.ntmps43
  go_wp2
  go_end0
  exact ⟨rfl, (Below.refl _ _).alloc (Nat.le_refl _) _⟩
set_option maxRecDepth 100000 in
theorem event_nil (w : World) (b : Nat) (k i j : Int) (p q : ByteArray) (h0 : w.cell? ⟨b, 0, none⟩ = some (.int .i64 k)) (h1 : w.cell? ⟨b, 1, none⟩ = some (.int .i64 i)) (h2 : w.cell? ⟨b, 2, none⟩ = some (.string p)) (h3 : w.cell? ⟨b, 3, none⟩ = some (.int .i64 j)) (h4 : w.cell? ⟨b, 4, none⟩ = some (.string q)) : Calls Go.Proofs.Tryz.prog 37 #[.pointer none, .slice (some ⟨b, 0, none⟩) 1 1] w fun e w' => e = .returned (.tuple #[]) ∧ Below w.heap.size w w' := by
  go_enter Go.Proofs.Tryz.func37, Go.Proofs.Tryz.ntmps37
  go_wp2
  go_loopw [8] (fun i wr => (i = .int .i64 0 ∧ wr = w) ∨ (i = .int .i64 1 ∧ Below w.heap.size w wr)) (fun i _ => (1 - RowKit.intOf i).toNat)
  case atStart => exact .inl ⟨rfl, rfl⟩
  case round =>
    rcases hrel with ⟨rfl, rfl⟩ | ⟨rfl, hb⟩
    · go_wp2
      go_roundw
      case rel => exact .inr ⟨rfl, by first | exact Below.refl _ _ | exact (Below.refl _ _).alloc (Nat.le_refl _) _⟩
      case measure => simp [RowKit.intOf]
    · go_wp2
      go_end0
      exact ⟨rfl, hb⟩
set_option maxRecDepth 100000 in
set_option maxHeartbeats 2000000 in
theorem law26_out (x : Int) (hx : x < 0 ∨ 12 < x) (h0 : -9223372036854775808 ≤ x) (h1 : x ≤ 9223372036854775807) (w : World) (t : Tabs w) (p : PowTab w) : Calls Go.Proofs.Tryz.prog 8 #[.int .i64 x] w fun e w' => e = .returned (.bool true) ∧ Below w.heap.size w w' := by
  have a := awake26 t
  have m := fun w t p => message_out x hx h0 h1 w t p
  have r := fun w => refMessage_out x hx h0 h1 w
  have T := Lib.hid t
  have P := Lib.hid p
  clear h0 h1 hx t p
  go_enter Go.Proofs.Tryz.func8, Go.Proofs.Tryz.ntmps8
  go_wp2_with (first
    | (go_at_call 35; refine a.mono ?_; rintro e w1 ⟨rfl, ha⟩)
    | (go_at_call 42; refine (did_nil x _ _ _ _ _ _ _ _ _ _).mono ?_; rintro e w2 ⟨rfl, hb⟩; have H2 := ha.trans (hb.mono ha.size); clear ha hb)
    | (go_at_call 37; refine (event_nil _ _ 1 0 0 ⟨#[]⟩ ⟨#[]⟩ (by simp [go_sem]) (by simp [go_sem]) (by simp [go_sem]) (by simp [go_sem]) (by simp [go_sem])).mono ?_; rintro e w3 ⟨rfl, hc⟩; have H3 := (H2.alloc H2.size _).trans (hc.mono (by have := H2.size; simp; omega)); clear H2 hc)
    | (go_at_call 43; refine (heard_nil _ _ _ _ _ _ _ _).mono ?_; rintro e w4 ⟨rfl, hd⟩; have H4 := H3.trans (hd.mono H3.size); clear H3 hd)
    | (go_at_call 44; refine (m _ (T.out.below H4) (P.out.below H4)).mono ?_; rintro e w5 ⟨rfl, he⟩; have H5 := H4.trans (he.mono H4.size); clear H4 he)
    | (go_at_call 45; refine (r _).mono ?_; rintro e w6 ⟨rfl, hf⟩; have H6 := H5.trans (hf.mono H5.size); clear H5 hf)
    | (go_at_call 46; go_in) | (go_at_call 38; go_in) | (go_at_call 47; go_in) | (go_at_call 48; go_in) | (go_at_call 40; go_in) | (go_at_call 41; go_in))
  go_ret
  exact ⟨rfl, H6⟩
theorem law26 (x : Int) (h0 : -9223372036854775808 ≤ x) (h1 : x ≤ 9223372036854775807) (w : World) (t : Tabs w) (p : PowTab w) : Calls Go.Proofs.Tryz.prog 8 #[.int .i64 x] w fun e w' => e = .returned (.bool true) ∧ Below w.heap.size w w' := by
  by_cases hx : x < 0 ∨ 12 < x
  · exact law26_out x hx h0 h1 w t p
  · obtain ⟨n, rfl⟩ : ∃ n : Nat, x = n := ⟨x.toNat, by omega⟩
    exact true_of (args := [.int .i64 (n : Int)]) (List.all_eq_true.1 messages_in n (List.mem_range.2 (by omega))) rfl t
end Go.Eng.Tryz
