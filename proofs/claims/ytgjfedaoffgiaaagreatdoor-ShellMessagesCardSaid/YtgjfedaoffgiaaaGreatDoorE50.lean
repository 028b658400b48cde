/-
  squelchref26.Digits: the decimal numeral of any number.
-/
import Derived.Test.YtgjfedaoffgiaaaGreatDoorProg
import Derived.Tactics
import Derived.Tactics2
import Derived.LoopTactic
import Derived.Below
import Derived.IntWalk
import Derived.Lib.ItoaNum
import Derived.Lib.Hide
import Derived.Laws.BytesString
import Derived.Laws.Concat
import Derived.Laws.Cells
import Derived.Laws.Bits64
namespace Go.Eng.Tryz
open Go.Proofs Go.RowKit
def emp : Value → Nat
  | .string s => if s.data.toList.isEmpty then 1 else 0
  | _ => 0
def digB (v : Nat) : UInt8 := UInt8.ofNat (48 + v % 10)
def rest10 (v : Nat) : List UInt8 := if v = 0 then [] else Lib.decDigits v
theorem dec_step (v : Nat) : Lib.decDigits v = rest10 (v / 10) ++ [digB v] := by
  unfold rest10 digB
  by_cases h : v < 10
  · rw [if_pos (by omega), Lib.decDigits, dif_pos h, Nat.mod_eq_of_lt h]; rfl
  · rw [if_neg (by omega), Lib.decDigits, dif_neg h]
def DigOK (u v : Nat) (l : List UInt8) : Prop := ((l = [] ∧ v = u) ∨ (l ≠ [] ∧ rest10 v ++ l = Lib.decDigits u)) ∧ v * 10 ^ l.length ≤ u
theorem DigOK.step {u v : Nat} {l : List UInt8} (h : DigOK u v l) (hv : l = [] ∨ 0 < v) : DigOK u (v / 10) (digB v :: l) := by
  refine ⟨.inr ⟨by simp, ?_⟩, ?_⟩
  · rcases h.1 with ⟨rfl, rfl⟩ | ⟨hl, h⟩
    · exact (dec_step v).symm
    · rcases hv with rfl | hv
      · exact absurd rfl hl
      · have : rest10 v = rest10 (v / 10) ++ [digB v] := by
          rw [← dec_step v]; unfold rest10; rw [if_neg (by omega)]
        rw [← h, this]; simp
  · have h2 := h.2
    have e : v / 10 * 10 ^ (l.length + 1) = (v / 10 * 10) * 10 ^ l.length := by rw [Nat.pow_succ, Nat.mul_assoc, Nat.mul_comm (10 ^ l.length) 10]
    show v / 10 * 10 ^ (l.length + 1) ≤ u
    rw [e]
    exact Nat.le_trans (Nat.mul_le_mul_right _ (by omega)) h2
theorem DigOK.done {u : Nat} {l : List UInt8} (h : DigOK u 0 l) (hl : l ≠ []) : l = Lib.decDigits u := by
  rcases h.1 with ⟨rfl, _⟩ | ⟨_, h⟩
  · exact absurd rfl hl
  · simpa [rest10] using h
theorem DigOK.short {u v : Nat} {l : List UInt8} (h : DigOK u v l) (hv : l = [] ∨ 0 < v) (hu : u ≤ 18446744073709551615) : l.length ≤ 19 := by
  rcases hv with rfl | hv
  · simp
  · have h2 := h.2
    by_cases hl : l.length ≤ 19
    · exact hl
    · have : 10 ^ 20 ≤ 10 ^ l.length := Nat.pow_le_pow_right (by omega) (by omega)
      have : 1 * 10 ^ l.length ≤ v * 10 ^ l.length := Nat.mul_le_mul_right _ hv
      omega
theorem str_cons (b : UInt8) (l : List UInt8) : Value.string (⟨#[b]⟩ ++ ⟨l.toArray⟩) = .string ⟨(b :: l).toArray⟩ := by
  congr 1
theorem emp_cons (b : UInt8) (l : List UInt8) : emp (.string (⟨#[b]⟩ ++ ⟨l.toArray⟩)) = 0 := by rw [str_cons]; rfl
theorem emp_some (l : List UInt8) (h : l ≠ []) : emp (.string ⟨l.toArray⟩) = 0 := by cases l with
  | nil => exact absurd rfl h
  | cons a l => rfl
theorem one_byte (wr : World) (v : Nat) : (convert 82 9 (.slice (some ⟨wr.heap.size, 0, none⟩) 1 1)).run Go.Proofs.Tryz.prog (wr.alloc (.cells #[.int .u8 (48 + (v : Int) % 10)] 5)) = .ok (.string ⟨#[digB v]⟩) (wr.alloc (.cells #[.int .u8 (48 + (v : Int) % 10)] 5)) := by
  rw [run_convert_bytes_string _ 82 9 5 _ _ _ Go.Proofs.Tryz.underlying82 Go.Proofs.Tryz.underlying5 Go.Proofs.Tryz.underlying9, run_bytesToString _ _ _ _ [48 + (v : Int) % 10] ?_]
  · have : (48 + (v : Int) % 10).toNat = 48 + v % 10 := by omega
    simp only [List.foldl_cons, List.foldl_nil, this]
    rfl
  · rw [run_loadCells _ _ 1 (fun _ => .int .u8 (48 + (v : Int) % 10)) (fun j hj => by
      obtain rfl : j = 0 := by omega
      have h := heap_alloc_new wr (.cells #[.int .u8 (48 + (v : Int) % 10)] 5)
      show (wr.alloc (.cells #[.int .u8 (48 + (v : Int) % 10)] 5)).cell? ⟨wr.heap.size, 0, none⟩ = _
      simp only [World.cell?]
      rw [h]
      rfl)]
    rfl
set_option maxRecDepth 100000 in
set_option maxHeartbeats 1000000 in
theorem digits_any (u : Nat) (hu : u ≤ 18446744073709551615) (w : World) : Calls Go.Proofs.Tryz.prog 148 #[.int .u64 u] w fun e w' => e = .returned (.string ⟨(Lib.decDigits u).toArray⟩) ∧ Below w.heap.size w w' := by
  go_enter Go.Proofs.Tryz.func148, Go.Proofs.Tryz.ntmps148
  go_wp2
  go_loopw [0, 3] (fun a b wr => ∃ (v : Nat) (l : List UInt8), v ≤ 18446744073709551615 ∧ a = .int .u64 v ∧ b = .string ⟨l.toArray⟩ ∧ DigOK u v l ∧ Below w.heap.size w wr) (fun a b _ => (intOf a).toNat + emp b)
  case atStart => exact ⟨u, [], hu, rfl, rfl, ⟨.inl ⟨rfl, rfl⟩, by simp⟩, Below.refl _ _⟩
  case round =>
    obtain ⟨v, l, hv, rfl, rfl, hd, hb⟩ := hrel
    have HD := Lib.hid hd
    have hc := one_byte wr v
    by_cases hl : l = []
    · subst hl
      have hs := hd.short (.inl rfl) hu
      clear hd
      go_wp2
      go_roundw
      case rel => exact ⟨v / 10, [digB v], by omega, rfl, rfl, HD.out.step (.inl rfl), hb.alloc hb.size _⟩
      case measure =>
        change (intOf (.int .u64 ((v : Int) / 10))).toNat + emp (.string (⟨#[digB v]⟩ ++ ⟨#[]⟩)) < (intOf (.int .u64 (v : Int))).toNat + emp (.string ⟨#[]⟩)
        rw [emp_cons (digB v) [], show emp (.string ⟨#[]⟩) = 1 from rfl]
        simp only [intOf]
        omega
    · have hne : (l == []) = false := by simpa using hl
      by_cases h0 : 0 < v
      · have hs := hd.short (.inr h0) hu
        clear hd
        go_wp2
        go_roundw
        case rel => exact ⟨v / 10, digB v :: l, by omega, rfl, str_cons (digB v) l, HD.out.step (.inr h0), hb.alloc hb.size _⟩
        case measure =>
          change (intOf (.int .u64 ((v : Int) / 10))).toNat + emp (.string (⟨#[digB v]⟩ ++ ⟨l.toArray⟩)) < (intOf (.int .u64 (v : Int))).toNat + emp (.string ⟨l.toArray⟩)
          rw [emp_cons, emp_some l hl]
          simp only [intOf]
          omega
      · obtain rfl : v = 0 := by omega
        clear hd
        go_wp2
        go_ret
        exact ⟨by have e := HD.out.done hl; show Ending.returned (.string ⟨l.toArray⟩) = _; rw [e], hb⟩
theorem dec_len : ∀ (k u : Nat), u < 10 ^ (k + 1) → (Lib.decDigits u).length ≤ k + 1
  | 0, u, h => by rw [Lib.decDigits, dif_pos (by simpa using h)]; simp
  | k + 1, u, h => by
    rw [Lib.decDigits]
    split
    · simp
    · have := dec_len k (u / 10) (by rw [Nat.pow_succ] at h; omega)
      simp; omega
theorem dec_len20 (u : Nat) (h : u ≤ 18446744073709551615) : (Lib.decDigits u).length ≤ 20 := dec_len 19 u (by have : (10 : Nat) ^ (19 + 1) = 100000000000000000000 := (by decide); rw [this]; omega)
theorem digits_int (m : Int) (h0 : 0 ≤ m) (h1 : m ≤ 18446744073709551615) (w : World) : Calls Go.Proofs.Tryz.prog 148 #[.int .u64 m] w fun e w' => e = .returned (.string ⟨(Lib.decDigits m.toNat).toArray⟩) ∧ Below w.heap.size w w' := by
  obtain ⟨u, rfl⟩ : ∃ u : Nat, m = u := ⟨m.toNat, by omega⟩
  exact digits_any u (by omega) w
set_option maxRecDepth 100000 in
theorem refDigits_pos (n : Int) (h0 : 0 ≤ n) (h1 : n ≤ 9223372036854775807) (w : World) : Calls Go.Proofs.Tryz.prog 88 #[.int .i64 n] w fun e w' => e = .returned (.string ⟨(Lib.itoa n).toArray⟩) ∧ Below w.heap.size w w' := by
  have hi : Lib.itoa n = Lib.decDigits n.toNat := by unfold Lib.itoa; rw [if_neg (by omega)]
  have HI := Lib.hid hi
  clear hi
  have c := digits_int n h0 (by omega) w
  have hw : IntKind.u64.wrap n = n := by rw [IntKind.wrap_u64]; omega
  have hneg : ¬ n < 0 := by omega
  go_enter Go.Proofs.Tryz.func88, Go.Proofs.Tryz.ntmps88
  go_wp2_with (go_at_call 148; refine c.mono ?_; rintro e w' ⟨rfl, hb⟩)
  go_ret
  exact ⟨by rw [HI.out]; rfl, hb⟩
set_option maxRecDepth 100000 in
set_option maxHeartbeats 1000000 in
theorem refDigits_neg (n : Int) (h0 : n < 0) (h1 : -9223372036854775808 ≤ n) (w : World) : Calls Go.Proofs.Tryz.prog 88 #[.int .i64 n] w fun e w' => e = .returned (.string ⟨(Lib.itoa n).toArray⟩) ∧ Below w.heap.size w w' := by
  have hi : Lib.itoa n = 45 :: Lib.decDigits (-n).toNat := by unfold Lib.itoa; rw [if_pos h0]; congr 2; omega
  have HI := Lib.hid hi
  clear hi
  have c := digits_int (-n) (by omega) (by omega) w
  have hl := dec_len20 (-n).toNat (by omega)
  have hw : IntKind.u64.wrap n = n + 18446744073709551616 := by rw [IntKind.wrap_u64]; omega
  have hw2 : IntKind.u64.wrap (-(n + 18446744073709551616)) = -n := by rw [IntKind.wrap_u64]; omega
  clear h1
  go_enter Go.Proofs.Tryz.func88, Go.Proofs.Tryz.ntmps88
  go_wp2_with (go_at_call 148; refine c.mono ?_; rintro e w' ⟨rfl, hb⟩)
  go_ret
  exact ⟨by rw [HI.out]; exact congrArg Ending.returned (str_cons 45 _), hb⟩
end Go.Eng.Tryz
