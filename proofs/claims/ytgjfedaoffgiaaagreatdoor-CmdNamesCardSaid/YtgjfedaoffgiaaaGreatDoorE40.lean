/-
  CmdNames: at each command's number, whatever 'cut' is, the run is true.
-/
import Derived.Test.YtgjfedaoffgiaaaGreatDoorE36
import Derived.Test.YtgjfedaoffgiaaaGreatDoorE37
import Derived.Test.YtgjfedaoffgiaaaGreatDoorE38
import Derived.Test.YtgjfedaoffgiaaaGreatDoorE39
import Derived.IntWalk
namespace Go.Eng.Tryz
theorem good_of {k c : Int} {L : Nat} (hL : 0 < L) (hr : remOf k c = some ((IntKind.i64.wrap c).tmod L)) (hg : ((List.range L).all fun r => goodAt k c (r : Int)) = true) (h0 : 0 ≤ c) (h1 : c < 256) :
    isT (aCall cfg 5000 41 3 [.int .i64 k, .int .u8 c] s0) = true := by
  rw [IntWalk.i64_in _ (by omega)] at hr
  obtain ⟨n, rfl⟩ : ∃ n : Nat, c = n := ⟨c.toNat, by omega⟩
  have e : (n : Int).tmod L = ((n % L : Nat) : Int) := by rw [Int.tmod_eq_emod_of_nonneg (by omega)]; rfl
  rw [e] at hr
  exact good_run (List.all_eq_true.1 hg (n % L) (List.mem_range.2 (Nat.mod_lt _ hL))) hr
theorem in_range {k c : Int} (hk : 1 ≤ k) (hk' : k ≤ 20) (h0 : 0 ≤ c) (h1 : c < 256) : isT (aCall cfg 5000 41 3 [.int .i64 k, .int .u8 c] s0) = true := by
  have hc : k = 1 ∨ k = 2 ∨ k = 3 ∨ k = 4 ∨ k = 5 ∨ k = 6 ∨ k = 7 ∨ k = 8 ∨ k = 9 ∨ k = 10 ∨ k = 11 ∨ k = 12 ∨ k = 13 ∨ k = 14 ∨ k = 15 ∨ k = 16 ∨ k = 17 ∨ k = 18 ∨ k = 19 ∨ k = 20 := by omega
  rcases hc with rfl | rfl | rfl | rfl | rfl | rfl | rfl | rfl | rfl | rfl | rfl | rfl | rfl | rfl | rfl | rfl | rfl | rfl | rfl | rfl
  · exact good_of (by decide) (rem1 c) (good1 c) h0 h1
  · exact good_of (by decide) (rem2 c) (good2 c) h0 h1
  · exact good_of (by decide) (rem3 c) (good3 c) h0 h1
  · exact good_of (by decide) (rem4 c) (good4 c) h0 h1
  · exact good_of (by decide) (rem5 c) (good5 c) h0 h1
  · exact good_of (by decide) (rem6 c) (good6 c) h0 h1
  · exact good_of (by decide) (rem7 c) (good7 c) h0 h1
  · exact good_of (by decide) (rem8 c) (good8 c) h0 h1
  · exact good_of (by decide) (rem9 c) (good9 c) h0 h1
  · exact good_of (by decide) (rem10 c) (good10 c) h0 h1
  · exact good_of (by decide) (rem11 c) (good11 c) h0 h1
  · exact good_of (by decide) (rem12 c) (good12 c) h0 h1
  · exact good_of (by decide) (rem13 c) (good13 c) h0 h1
  · exact good_of (by decide) (rem14 c) (good14 c) h0 h1
  · exact good_of (by decide) (rem15 c) (good15 c) h0 h1
  · exact good_of (by decide) (rem16 c) (good16 c) h0 h1
  · exact good_of (by decide) (rem17 c) (good17 c) h0 h1
  · exact good_of (by decide) (rem18 c) (good18 c) h0 h1
  · exact good_of (by decide) (rem19 c) (good19 c) h0 h1
  · exact good_of (by decide) (rem20 c) (good20 c) h0 h1
end Go.Eng.Tryz
