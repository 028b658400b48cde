/-
  What stands in a library function's place: the words that the proofs of such contracts share.
-/
import Derived.Test.YtgjfedaoffgiaaaGreatDoorE27
import Derived.Below
import Derived.Lib.Space
import Derived.Lib.LaidTab
import Derived.Lib.Fields
import Derived.Lib.LaidU8T
import Derived.Lib.Bytealg
namespace Go.Eng
noncomputable section
open Go.RowKit
theorem Step.below {φ : Phi} {H : Tr AObj} {w w' : World} (R : Rel φ H w) (h : Below w.heap.size w w') : Step φ H w φ H w' where
  rel := ⟨fun id o ho => by
      obtain ⟨l, a, b, c⟩ := R.obj id o ho
      exact ⟨l, a, Nat.lt_of_lt_of_le b h.size, c.mono (Ext.refl _) fun _ => h.block _ b⟩, R.abs, R.pin, R.inj⟩
  ext := Ext.refl _
  sub := fun _ h => .inl h
  os := h.os
  tape := h.tape
  output := h.output
  size := h.size
  frm := fun b hb _ => h.block b hb
theorem VR.okc_eq {φ : Phi} {v v' : Value} (h : Go.Eng.okc v = true) (r : VR φ v v') : v' = v := by
  cases r <;> first | rfl | (simp [Go.Eng.okc] at h)
theorem VRs.okc_eq {φ : Phi} : ∀ {vs vs' : List Value}, vs.all Go.Eng.okc = true → VRs φ vs vs' → vs' = vs
  | _, _, _, .nil => rfl
  | _, _, h, .cons r t => by
    simp only [List.all_cons, Bool.and_eq_true] at h
    rw [r.okc_eq h.1, VRs.okc_eq h.2 t]
/-- What a block that is only read holds. -/
theorem Rel.tab {φ : Phi} {H : Tr AObj} {w : World} {g : Nat} {vs : List Value} (R : Rel φ H w) (hg : g < pinned) (h : H.get g = some (.cells vs 1)) (k : vs.all okc = true) :
    ∃ t fz, w.heap[g]? = some (.cells vs.toArray t fz) := by
  obtain ⟨l, a, b, c⟩ := R.obj g _ h
  rw [R.pin g hg] at a
  cases a
  obtain ⟨A, t, lo, hi, e, c1, _, c3, _⟩ := c
  obtain ⟨_, hs, hn⟩ := c3 rfl
  refine ⟨t, (lo, hi), ?_⟩
  have hv : VRs φ vs A.toList := VRs.of_get (by simpa using hn) fun i v hv => by
    obtain ⟨v', h1, h2⟩ := c1 i v hv
    exact ⟨v', by simpa [hs, Array.getElem?_toList] using h1, h2⟩
  have := hv.okc_eq k
  rw [e, ← this]
def sameU8 : List Value → List Int → Bool
  | [], [] => true
  | .int .u8 a :: vs, b :: bs => bif decide (a = b) then sameU8 vs bs else false
  | _, _ => false
theorem sameU8_ok : ∀ {vs : List Value} {bs : List Int}, sameU8 vs bs = true → vs = bs.map (Value.int .u8)
  | [], [], _ => rfl
  | [], _ :: _, h => by simp [sameU8] at h
  | v :: vs, [], h => by unfold sameU8 at h; split at h <;> simp_all
  | v :: vs, b :: bs, h => by
    unfold sameU8 at h
    split at h
    · simp_all
    · rename_i a us b' bs' e1 e2
      obtain ⟨rfl, rfl⟩ := List.cons.inj e1
      obtain ⟨rfl, rfl⟩ := List.cons.inj e2
      cases hd : decide (a = b) with
      | false => rw [hd] at h; cases h
      | true =>
        rw [hd] at h
        simp only [cond_true] at h
        rw [sameU8_ok h, of_decide_eq_true hd]
        rfl
    · cases h
theorem okc_u8 (bs : List Int) : (bs.map (Value.int .u8)).all okc = true := by
  rw [List.all_eq_true]
  intro v hv
  obtain ⟨b, _, rfl⟩ := List.mem_map.1 hv
  rfl
/-- A table of bytes that stands at one of the program's variables. -/
def tabAt (g : Nat) (zs : List Int) : M Unit := M.bind (rd g) fun
  | .cells vs m => bif Nat.beq m 1 && Nat.blt g pinned && sameU8 vs zs then M.ret () else M.fail
  | _ => M.fail
theorem tabAt_loc (g : Nat) (zs : List Int) : Local (tabAt g zs) := by
  refine Local.bind (Local.rd g) fun o => ?_
  cases o <;> first | exact Local.fail | exact Local.cond (Local.ret _) Local.fail
theorem tabAt_ok {φ : Phi} {w : World} {g : Nat} {zs : List Int} {s s' : ASt} {u : Unit} (R : Rel φ s.heap w) (h : tabAt g zs s = some (u, s')) :
    s'.heap = s.heap ∧ ∃ t fz, w.heap[g]? = some (.cells (zs.map (Value.int .u8)).toArray t fz) := by
  obtain ⟨o, s1, h1, h2⟩ := bind_ok h
  obtain ⟨g1, g2⟩ := rd_ok h1
  cases o with
  | cells vs m =>
    simp only at h2
    cases hb : (Nat.beq m 1 && Nat.blt g pinned && sameU8 vs zs) with
    | false => rw [hb] at h2; simp only [cond_false] at h2; exact (fail_ok h2).elim
    | true =>
      rw [hb] at h2
      obtain ⟨_, rfl⟩ := ret_ok h2
      simp only [Bool.and_eq_true] at hb
      obtain ⟨⟨b1, b2⟩, b3⟩ := hb
      obtain rfl : m = 1 := Nat.eq_of_beq_eq_true b1
      have := sameU8_ok b3
      subst this
      exact ⟨g2, R.tab (by simp [Nat.blt] at b2; omega) g1 (okc_u8 _)⟩
  | map _ _ => exact (fail_ok h2).elim
  | iter _ _ => exact (fail_ok h2).elim
  | dead => exact (fail_ok h2).elim
theorem VRs.str1 {φ : Phi} {s : ByteArray} {args' : Array Value} (h : VRs φ [.string s] args'.toList) : args' = #[.string s] := by
  cases args' with
  | mk l =>
    cases h with
    | cons a t => cases a; cases t; rfl
def ascii (l : List UInt8) : Bool := l.all fun b => Nat.blt b.toNat 128
theorem ascii_at {l : List UInt8} (h : ascii l = true) (j : Nat) (b : UInt8) (hb : l[j]? = some b) : b.toNat < 128 := by
  have := List.all_eq_true.1 h b (List.mem_of_getElem? hb)
  simp [Nat.blt] at this; omega
def strV (l : List UInt8) : Value := .string ⟨l.toArray⟩
/-- A function that takes a string, and hands back another one. -/
def strF (ok : ByteArray → Bool) (f : List UInt8 → List UInt8) : List Value → M End
  | [.string s] => bif ok s then M.ret (.ret (strV (f s.data.toList))) else M.fail
  | _ => M.fail
theorem strF_loc (ok : ByteArray → Bool) (f : List UInt8 → List UInt8) (args : List Value) : Local (strF ok f args) := by
  unfold strF
  split
  · exact Local.cond (Local.ret _) Local.fail
  · exact Local.fail
theorem strF_over {P : Program} {k : FuncId} {ok : ByteArray → Bool} {f : List UInt8 → List UInt8}
    (hc : ∀ (s : ByteArray) (w : World), ok s = true → Calls P k #[.string s] w fun e w' => e = .returned (strV (f s.data.toList)) ∧ Below w.heap.size w w') : OverOK P k (fun _ => strF ok f) where
  loc := fun _ _ => strF_loc ok f
  ok := by
    intro call _ _ args s e s' h φ w args' R ha
    unfold strF at h
    split at h
    · rename_i sb
      cases hb : ok sb with
      | false => rw [hb] at h; simp only [cond_false] at h; exact (fail_ok h).elim
      | true =>
        rw [hb] at h
        simp only [cond_true] at h
        obtain ⟨rfl, rfl⟩ := ret_ok h
        rw [ha.str1]
        exact (hc sb w hb).mono fun e' w' ⟨he, hw⟩ => ⟨φ, Step.below R hw, by rw [he]; exact .ret (.str _)⟩
    · exact (fail_ok h).elim
/-- strings.Fields at ASCII text. -/
def fieldsF (g : Nat) : List Value → M End
  | [.string s] => bif ascii s.data.toList && Nat.blt s.size 4294967281 then
      M.bind (tabAt g Lib.asciiSpaceTab) fun _ => M.bind (nw (.cells ((Lib.fields s.data.toList).map strV) 0)) fun b =>
        M.ret (.ret (.slice (some ⟨b, 0, none⟩) (Lib.fields s.data.toList).length (Lib.fields s.data.toList).length)) else M.fail
  | _ => M.fail
theorem fieldsF_loc (g : Nat) (args : List Value) : Local (fieldsF g args) := by
  unfold fieldsF
  split
  · exact Local.cond (Local.bind (tabAt_loc _ _) fun _ => Local.bind (Local.nw _) fun _ => Local.ret _) Local.fail
  · exact Local.fail
theorem VRs.strs {φ : Phi} (l : List (List UInt8)) : VRs φ (l.map strV) (l.map strV) := by
  induction l with
  | nil => exact .nil
  | cons a l ih => exact .cons (.str _) ih
theorem fieldsF_over {P : Program} {k g t : Nat}
    (hc : ∀ (s : ByteArray) (w : World), s.size < 4294967281 → (∀ (j : Nat) (b : UInt8), s.data.toList[j]? = some b → b.toNat < 128) → (∃ ty fz, w.heap[g]? = some (.cells (Lib.asciiSpaceTab.map (Value.int .u8)).toArray ty fz)) →
      Calls P k #[.string s] w fun e w' => e = .returned (.slice (some ⟨w.heap.size, 0, none⟩) (Lib.fields s.data.toList).length (Lib.fields s.data.toList).length) ∧ w' = w.alloc (.cells ((Lib.fields s.data.toList).map strV).toArray t)) :
    OverOK P k (fun _ => fieldsF g) where
  loc := fun _ _ => fieldsF_loc g
  ok := by
    intro call _ _ args s e s' h φ w args' R ha
    unfold fieldsF at h
    split at h
    · rename_i sb
      cases hb : (ascii sb.data.toList && Nat.blt sb.size 4294967281) with
      | false => rw [hb] at h; simp only [cond_false] at h; exact (fail_ok h).elim
      | true =>
        rw [hb] at h
        simp only [cond_true] at h
        simp only [Bool.and_eq_true] at hb
        obtain ⟨_, s1, h1, h2⟩ := bind_ok h
        obtain ⟨b, s2, h3, h4⟩ := bind_ok h2
        obtain ⟨rfl, rfl⟩ := ret_ok h4
        obtain ⟨e1, ht⟩ := tabAt_ok R h1
        obtain ⟨q1, q2⟩ := nw_ok h3
        rw [e1] at q1 q2
        rw [ha.str1]
        refine (hc sb w (by have := hb.2; simp [Nat.blt] at this; omega) (fun j c => ascii_at hb.1 j c) ht).mono fun e' w' ⟨he, hw⟩ => ⟨upd φ b ⟨w.heap.size, 0, 0⟩, ?_, ?_⟩
        · rw [hw, q2]
          exact Rel.new t R q1 (by simpa using VRs.strs _)
        · rw [he]
          exact .ret (.slice (φ := upd φ b ⟨w.heap.size, 0, 0⟩) (l := ⟨w.heap.size, 0, 0⟩) (upd_same ..))
    · exact (fail_ok h).elim
end
end Go.Eng
