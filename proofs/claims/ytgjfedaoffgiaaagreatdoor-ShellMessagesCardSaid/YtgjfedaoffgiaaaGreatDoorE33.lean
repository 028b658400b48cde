/-
  The evaluator at this seat: its tables, what stands in library functions' places, the first heap.
-/
import Derived.Test.YtgjfedaoffgiaaaGreatDoorE28
import Derived.Test.YtgjfedaoffgiaaaGreatDoorE32
import Derived.Laws.Externs
namespace Go.Eng.Tryz
noncomputable section
open Go.Proofs Go.RowKit
def over (f : Nat) : Option (CallF → List Value → M End) :=
  bif Nat.beq f 13 then some parseF else bif Nat.beq f 14 then some (fun _ => strF lowOK Lib.toLowerA) else bif Nat.beq f 91 then some (fun _ => fieldsF 0) else bif Nat.beq f 160 then some (fun _ => upperF) else none
theorem over_ok (f : Nat) (g : CallF → List Value → M End) (h : over f = some g) : OverOK Go.Proofs.Tryz.prog f g := by
  unfold over at h
  cases h1 : Nat.beq f 13 with
  | true =>
    rw [h1] at h
    obtain rfl := Nat.eq_of_beq_eq_true h1
    cases h
    exact parse_over
  | false =>
  cases h2 : Nat.beq f 14 with
  | true =>
    rw [h1, h2] at h
    obtain rfl := Nat.eq_of_beq_eq_true h2
    cases h
    exact lower_over
  | false =>
  cases h3 : Nat.beq f 91 with
  | true =>
    rw [h1, h2, h3] at h
    obtain rfl := Nat.eq_of_beq_eq_true h3
    cases h
    exact fields_over
  | false =>
  cases h4 : Nat.beq f 160 with
  | true =>
    rw [h1, h2, h3, h4] at h
    obtain rfl := Nat.eq_of_beq_eq_true h4
    cases h
    exact upper_over
  | false => rw [h1, h2, h3, h4] at h; cases h
def indexF : List Value → Option Value
  | [.string s, .int .u8 c] => some (.int .i64 (Lib.indexByte s.data.toList c.toNat.toUInt8))
  | _ => none
def ext (f : Nat) : Option (List Value → Option Value) := bif Nat.beq f 288 then some indexF else none
theorem ext_ok (f : Nat) (h : List Value → Option Value) (e : ext f = some h) (args : List Value) (v : Value) (hv : h args = some v) (φ : Phi) (args' : Array Value) (w : World) (ha : VRs φ args args'.toList) :
    ∃ v', VR φ v v' ∧ (callFunc f args').run Go.Proofs.Tryz.prog w = .ok (.value v') w := by
  unfold ext at e
  cases h1 : Nat.beq f 288 with
  | false => rw [h1] at e; cases e
  | true =>
    rw [h1] at e
    obtain rfl := Nat.eq_of_beq_eq_true h1
    cases e
    unfold indexF at hv
    split at hv
    · rename_i s c
      cases hv
      refine ⟨_, .int _ _, ?_⟩
      have ha' : args' = #[.string s, .int .u8 c] := by
        cases args' with
        | mk l =>
          cases ha with
          | cons a t => cases a; cases t with
            | cons b u => cases b; cases u; rfl
      rw [ha', run_callFunc_extern Go.Proofs.Tryz.func288 (by kernel_rfl) (by kernel_rfl) (by kernel_rfl) (e := Extern.BytealgIndexByte.indexByte) (by kernel_rfl), Lib.run_indexByteString]
      rfl
    · cases hv
def cfg : Cfg := { ti := fun t => Tr.get tiTr t, fn := fun f => Tr.get fnTr f, over := over, depth := 100, ext := ext }
theorem cfgOK : CfgOK Go.Proofs.Tryz.prog cfg := TabOK.cfg tab rfl rfl (by decide) ext_ok
theorem runs (F n : Nat) : CallOK Go.Proofs.Tryz.prog (aCall cfg F n) := call_ok cfgOK over_ok F n
def H0 : Tr AObj := ((Tr.leaf.set 0 (.cells (Lib.asciiSpaceTab.map (Value.int .u8)) 1)).set 4 (.cells (Lib.firstTab.map (Value.int .u8)) 1)).set 5 (.cells (acceptTab.map (Value.int .u8)) 1)
def s0 : ASt := ⟨H0, 64, 0, []⟩
def phi0 : Phi := fun g => if g < pinned then some ⟨g, 0, 0⟩ else none
/-- The tables of the library that the runs read. -/
structure Tabs (w : World) : Prop where
  space : ∃ ty fz, w.heap[0]? = some (.cells (Lib.asciiSpaceTab.map (Value.int .u8)).toArray ty fz)
  first : ∃ ty fz, w.heap[4]? = some (.cells (Lib.firstTab.map (Value.int .u8)).toArray ty fz)
  accept : ∃ ty fz, w.heap[5]? = some (.cells (acceptTab.map (Value.int .u8)).toArray ty fz)
theorem obj_tab {w : World} {g : Nat} {zs : List Int} (h : ∃ ty fz, w.heap[g]? = some (.cells (zs.map (Value.int .u8)).toArray ty fz)) : g < w.heap.size ∧ ObjR phi0 ⟨g, 0, 0⟩ (.cells (zs.map (Value.int .u8)) 1) w := by
  obtain ⟨ty, ⟨lo, hi⟩, h⟩ := h
  refine ⟨(Array.getElem?_eq_some_iff.1 h).1, _, ty, lo, hi, h, fun i v hv => ⟨v, ?_, ?_⟩, (fun q => by cases q), (fun _ => ⟨rfl, rfl, by simp⟩), (fun q => by omega)⟩
  · simpa using hv
  · exact VR.okc (List.all_eq_true.1 (okc_u8 zs) v (List.mem_of_getElem? hv))
theorem H0_get (id : Nat) : H0.get id = if id = 5 then some (.cells (acceptTab.map (Value.int .u8)) 1) else if id = 4 then some (.cells (Lib.firstTab.map (Value.int .u8)) 1) else if id = 0 then some (.cells (Lib.asciiSpaceTab.map (Value.int .u8)) 1) else none := by
  unfold H0
  rw [Tr.get_set, Tr.get_set, Tr.get_set]
  rfl
theorem rel0 {w : World} (t : Tabs w) : Rel phi0 H0 w where
  obj := fun id o h => by
    rw [H0_get] at h
    split at h
    · rename_i e; subst e; cases h
      exact ⟨⟨5, 0, 0⟩, rfl, obj_tab t.accept⟩
    · split at h
      · rename_i e; subst e; cases h
        exact ⟨⟨4, 0, 0⟩, rfl, obj_tab t.first⟩
      · split at h
        · rename_i e; subst e; cases h
          exact ⟨⟨0, 0, 0⟩, rfl, obj_tab t.space⟩
        · cases h
  abs := fun id h => by unfold phi0; rw [if_neg (by have := h.2; omega)]
  pin := fun g h => by unfold phi0; rw [if_pos h]
  inj := fun i j oi oj li lj hi _ ri _ _ _ _ => by
    rw [H0_get] at hi
    exfalso
    split at hi
    · cases hi; cases ri
    · split at hi
      · cases hi; cases ri
      · split at hi
        · cases hi; cases ri
        · cases hi
theorem noWrite {b : Nat} (h : WrB phi0 H0 b) : False := by
  obtain ⟨id, o, l, hg, hr, _⟩ := h
  rw [H0_get] at hg
  split at hg
  · cases hg; cases hr
  · split at hg
    · cases hg; cases hr
    · split at hg
      · cases hg; cases hr
      · cases hg
theorem step_below {w w' : World} {φ : Phi} {H : Tr AObj} (st : Step phi0 H0 w φ H w') : Below w.heap.size w w' :=
  ⟨st.os, st.tape, st.output, st.size, fun b hb => st.frm b hb fun h => noWrite h⟩
def isT : Option (End × ASt) → Bool
  | some (.ret (.bool true), _) => true
  | _ => false
/-- What the evaluator tells to be true is true, in every world that holds the tables. -/
theorem true_of {F n f : Nat} {args : List Value} (h : isT (aCall cfg F n f args s0) = true) (k : args.all okc = true) {w : World} (t : Tabs w) :
    Calls Go.Proofs.Tryz.prog f args.toArray w fun e w' => e = .returned (.bool true) ∧ Below w.heap.size w w' := by
  cases hr : aCall cfg F n f args s0 with
  | none => rw [hr] at h; cases h
  | some q =>
    obtain ⟨e, s'⟩ := q
    rw [hr] at h
    have he : e = .ret (.bool true) := by
      unfold isT at h
      split at h
      · rename_i h'; cases h'; rfl
      · cases h
    subst he
    refine (runs F n f args s0 _ s' hr phi0 w args.toArray (rel0 t) (by simpa using VRs.okc k)).mono fun e' w' ⟨φ', st, er⟩ => ⟨?_, step_below st⟩
    cases er with
    | ret hv => cases hv; rfl
end
end Go.Eng.Tryz
