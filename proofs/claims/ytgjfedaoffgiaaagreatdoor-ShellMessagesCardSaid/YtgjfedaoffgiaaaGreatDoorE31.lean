/-
  What stands in cmd.Parse's place: its reader's own run, with what its deferred function makes of a panic.
-/
import Derived.Test.YtgjfedaoffgiaaaGreatDoorE30
import Derived.Defers
import Derived.Recover
import Derived.Laws.Pointers
namespace Go.Eng.Tryz
open Go.Proofs Go.RowKit
theorem catch_idle (c e : Addr) (w : World) :
    CallsD Go.Proofs.Tryz.prog 51 #[.pointer (some c), .pointer (some e)] .returning w fun r u' w' => r = .returned (.tuple #[]) ∧ u' = .returning ∧ w' = w := by
  refine callsD_of_wpS Go.Proofs.Tryz.func51 rfl fun c₀ cs hu => ?_
  apply wpS_seq
  apply wpS_region
  simp [wpOpsS, go_sem, recoverD, hu, Go.Proofs.Tryz.ntmps51, Exit.thenS]
  refine wpS_of_wp ?_
  go_wp2
  cases c₀
  simp_all [bodyPostS, results, Go.Proofs.Tryz.results51]
theorem run_assert (v : Value) (w : World) : (Instr.typeAssert (.iface 96 v) 20 96 true).run Go.Proofs.Tryz.prog w = .ok (.tuple #[v, .bool true]) w := by
  have hu : Go.Proofs.Tryz.prog.underlying 96 = some (.int .i64) := by kernel_rfl
  simp [Instr.typeAssert, run_underlying hu]
set_option maxHeartbeats 4000000 in
set_option maxRecDepth 100000 in
theorem catch_wrong (bc be : Nat) (n : Int) (older : List PanicEntry) (w : World) (c0 c1 c2 c3 c4 c5 x : Value)
    (h0 : w.cell? ⟨bc, 0, none⟩ = some c0) (h1 : w.cell? ⟨bc, 1, none⟩ = some c1) (h2 : w.cell? ⟨bc, 2, none⟩ = some c2) (h3 : w.cell? ⟨bc, 3, none⟩ = some c3) (h4 : w.cell? ⟨bc, 4, none⟩ = some c4) (h5 : w.cell? ⟨bc, 5, none⟩ = some c5)
    (f0 : w.frozen? ⟨bc, 0, none⟩ = false) (f1 : w.frozen? ⟨bc, 1, none⟩ = false) (f2 : w.frozen? ⟨bc, 2, none⟩ = false) (f3 : w.frozen? ⟨bc, 3, none⟩ = false) (f4 : w.frozen? ⟨bc, 4, none⟩ = false) (f5 : w.frozen? ⟨bc, 5, none⟩ = false)
    (he : w.cell? ⟨be, 0, none⟩ = some x) (fe : w.frozen? ⟨be, 0, none⟩ = false) (hbe' : be ≠ bc) :
    CallsD Go.Proofs.Tryz.prog 51 #[.pointer (some ⟨bc, 0, none⟩), .pointer (some ⟨be, 0, none⟩)] (.panicking ({ v := .iface 96 (.int .i64 n), recovered := false } :: older)) w fun r u' w' => r = .returned (.tuple #[]) ∧ u' = .panicking ({ v := .iface 96 (.int .i64 n), recovered := true } :: older) ∧
      w' = (w.setCells bc 0 [.int .i64 0, .int .i64 0, .string ⟨#[]⟩, .int .i64 0, .slice none 0 0, .string ⟨#[]⟩]).setCells be 0 [.int .i64 n] := by
  have hta := run_assert
  refine callsD_of_wpS Go.Proofs.Tryz.func51 rfl fun c₀ cs hu => ?_
  apply wpS_seq
  apply wpS_region
  simp [wpOpsS, go_sem, recoverD, hu, Go.Proofs.Tryz.ntmps51, Exit.thenS]
  refine wpS_of_wp ?_
  go_wp2
  cases c₀
  simp_all [bodyPostS, results, Go.Proofs.Tryz.results51, World.setCells]
def Six (bc be : Nat) (w : World) : Prop := (∃ c0 c1 c2 c3 c4 c5 x, w.cell? ⟨bc, 0, none⟩ = some c0 ∧ w.cell? ⟨bc, 1, none⟩ = some c1 ∧ w.cell? ⟨bc, 2, none⟩ = some c2 ∧ w.cell? ⟨bc, 3, none⟩ = some c3 ∧ w.cell? ⟨bc, 4, none⟩ = some c4 ∧ w.cell? ⟨bc, 5, none⟩ = some c5 ∧ w.cell? ⟨be, 0, none⟩ = some x) ∧
  w.frozen? ⟨bc, 0, none⟩ = false ∧ w.frozen? ⟨bc, 1, none⟩ = false ∧ w.frozen? ⟨bc, 2, none⟩ = false ∧ w.frozen? ⟨bc, 3, none⟩ = false ∧ w.frozen? ⟨bc, 4, none⟩ = false ∧ w.frozen? ⟨bc, 5, none⟩ = false ∧ w.frozen? ⟨be, 0, none⟩ = false
def w3 (s : ByteArray) (w : World) : World := ((w.alloc (.cells #[.int .i64 0, .int .i64 0, .string ⟨#[]⟩, .int .i64 0, .slice none 0 0, .string ⟨#[]⟩] 32)).alloc (.cells #[.int .i64 0] 33)).alloc (.cells #[.string s] 99)
def cmdV (k n : Int) (b : ByteArray) (i : Int) (p : Option Addr) (l c : Nat) (t : ByteArray) : List Value := [.int .i64 k, .int .i64 n, .string b, .int .i64 i, .slice p l c, .string t]
set_option maxHeartbeats 4000000 in
set_option maxRecDepth 100000 in
theorem parse_ret (s : ByteArray) (w : World) (X : Int → Int → ByteArray → Int → Option Addr → Nat → Nat → ByteArray → World → Prop)
    (h52 : Calls Go.Proofs.Tryz.prog 52 #[.pointer (some ⟨w.heap.size + 2, 0, none⟩)] (w3 s w) fun e w' => ∃ k n b i p l c t, e = .returned (.agg #[.int .i64 k, .int .i64 n, .string b, .int .i64 i, .slice p l c, .string t]) ∧ Six w.heap.size (w.heap.size + 1) w' ∧ X k n b i p l c t w') :
    Calls Go.Proofs.Tryz.prog 13 #[.string s] w fun e w' => ∃ k n b i p l c t w1, X k n b i p l c t w1 ∧ e = .returned (.tuple #[.agg #[.int .i64 k, .int .i64 n, .string b, .int .i64 i, .slice p l c, .string t], .int .i64 0]) ∧
      w' = (w1.setCells w.heap.size 0 (cmdV k n b i p l c t)).setCells (w.heap.size + 1) 0 [.int .i64 0] := by
  unfold w3 at h52
  have hmf : ∀ (fn : Fn) (first cap : Array Value) (w : World), (Instr.makeFunc fn first cap).run Go.Proofs.Tryz.prog w = .ok (.func fn first cap) w := fun _ _ _ _ => rfl
  go_enter_defers Go.Proofs.Tryz.func13, Go.Proofs.Tryz.ntmps13
  go_wp2_with (go_at_call 52; refine h52.mono ?_; rintro e w' ⟨k, n, b, i, p, l, c, t, rfl, hs, hx⟩; obtain ⟨⟨c0, c1, c2, c3, c4, c5, x, h0, h1, h2, h3, h4, h5, he⟩, f0, f1, f2, f3, f4, f5, fe⟩ := hs)
  refine leaves_cons (f := 51) (args := #[.pointer (some ⟨w.heap.size, 0, none⟩), .pointer (some ⟨w.heap.size + 1, 0, none⟩)]) (by simp) (by simp [go_sem]) ?_
  refine (catch_idle _ _ _).mono ?_
  rintro e u' w'' ⟨rfl, rfl, rfl⟩
  simp [Leaves, settle, results, Go.Proofs.Tryz.results13, go_sem, h0, h1, h2, h3, h4, h5, he]
  exact ⟨k, n, b, i, p, l, c, t, w', hx, ⟨rfl, rfl, rfl, rfl, ⟨rfl, rfl, rfl⟩, rfl⟩, rfl⟩
def zeroCmd : List Value := [.int .i64 0, .int .i64 0, .string ⟨#[]⟩, .int .i64 0, .slice none 0 0, .string ⟨#[]⟩]
set_option maxHeartbeats 4000000 in
set_option maxRecDepth 100000 in
theorem parse_pan (s : ByteArray) (w : World) (m : Int) (X : World → Prop)
    (h52 : Calls Go.Proofs.Tryz.prog 52 #[.pointer (some ⟨w.heap.size + 2, 0, none⟩)] (w3 s w) fun e w' => e = .panicked [{ v := .iface 96 (.int .i64 m), recovered := false }] ∧ Six w.heap.size (w.heap.size + 1) w' ∧ X w') :
    Calls Go.Proofs.Tryz.prog 13 #[.string s] w fun e w' => ∃ w1, X w1 ∧ e = .returned (.tuple #[.agg zeroCmd.toArray, .int .i64 m]) ∧
      w' = (w1.setCells w.heap.size 0 zeroCmd).setCells (w.heap.size + 1) 0 [.int .i64 m] := by
  unfold w3 at h52
  have hmf : ∀ (fn : Fn) (first cap : Array Value) (w : World), (Instr.makeFunc fn first cap).run Go.Proofs.Tryz.prog w = .ok (.func fn first cap) w := fun _ _ _ _ => rfl
  go_enter_defers Go.Proofs.Tryz.func13, Go.Proofs.Tryz.ntmps13
  go_wp2_with (go_at_call 52; refine h52.mono ?_; rintro e w' ⟨rfl, hs, hx⟩; obtain ⟨⟨c0, c1, c2, c3, c4, c5, x, h0, h1, h2, h3, h4, h5, he⟩, f0, f1, f2, f3, f4, f5, fe⟩ := hs)
  refine leaves_cons (f := 51) (args := #[.pointer (some ⟨w.heap.size, 0, none⟩), .pointer (some ⟨w.heap.size + 1, 0, none⟩)]) (by simp) (by simp [go_sem]) ?_
  refine (catch_wrong w.heap.size (w.heap.size + 1) m [] _ c0 c1 c2 c3 c4 c5 x ?_ ?_ ?_ ?_ ?_ ?_ ?_ ?_ ?_ ?_ ?_ ?_ ?_ ?_ ?_).mono ?_
  all_goals first | assumption | (simp; done) | skip
  rintro e u' w'' ⟨rfl, rfl, rfl⟩
  simp [Leaves, settle, results, Go.Proofs.Tryz.results13, go_sem, h0, h1, h2, h3, h4, h5, he, World.setCells]
  exact ⟨w', hx, rfl, rfl⟩
end Go.Eng.Tryz
