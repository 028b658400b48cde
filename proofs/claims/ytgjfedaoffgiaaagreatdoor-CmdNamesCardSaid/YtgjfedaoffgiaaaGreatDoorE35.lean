/-
  CmdNames: the run at each command, whatever 'cut' is.
-/
import Derived.Test.YtgjfedaoffgiaaaGreatDoorE34
namespace Go.Eng.Tryz
noncomputable section
/-- In front of 'int(cut) % len(n)'. -/
def atRem (k c : Int) : Option At := place cfg (aCall cfg 5000 40) Go.Proofs.Tryz.f3 5000 6 5 [.int .i64 k, .int .u8 c] s0
def remOf (k c : Int) : Option Int := match atRem k c with
  | some p => (match opAt cfg (aCall cfg 5000 40) p with
    | some (.int .i64 x, _) => some x
    | _ => none)
  | none => none
def goodAt (k c r : Int) : Bool := match atRem k c with
  | some p => (match opAt cfg (aCall cfg 5000 40) p with
    | some (_, s) => (match past 76 p (.int .i64 r) s with
      | some q => isT (onward cfg (aCall cfg 5000 40) Go.Proofs.Tryz.f3 q)
      | none => false)
    | none => false)
  | none => false
theorem good_run {k c r : Int} (h : goodAt k c r = true) (e : remOf k c = some r) : isT (aCall cfg 5000 41 3 [.int .i64 k, .int .u8 c] s0) = true := by
  have hb : aCall cfg 5000 41 3 [.int .i64 k, .int .u8 c] s0 = aBody cfg (aCall cfg 5000 40) 5000 Go.Proofs.Tryz.f3 [.int .i64 k, .int .u8 c] s0 := rfl
  rw [hb]
  unfold goodAt at h
  unfold remOf at e
  cases hp : atRem k c with
  | none => rw [hp] at h; cases h
  | some p =>
    rw [hp] at h e
    simp only at h e
    cases ho : opAt cfg (aCall cfg 5000 40) p with
    | none => rw [ho] at h; cases h
    | some q =>
      obtain ⟨v, s⟩ := q
      rw [ho] at h e
      simp only at h e
      split at e
      · rename_i x s' hv
        cases hv
        cases e
        cases hq : past 76 p (.int .i64 r) s with
        | none => rw [hq] at h; cases h
        | some q =>
          rw [hq] at h
          rw [place_ok (by rfl) hp, past_ok ho hq]
          exact h
      · cases e
end
end Go.Eng.Tryz
