/-
  What stands in the library functions' places at this seat: strings.Fields, strings.ToLower at ASCII text; cmd.upper.
-/
import Derived.Test.YtgjfedaoffgiaaaGreatDoorE29
import Derived.Test.YtgjfedaoffgiaaaGreatDoorS1
import Derived.Shelf.Strings.CaseAny
import Derived.Tactics
import Derived.Tactics2
namespace Go.Eng.Tryz
open Go.Proofs Go.RowKit
theorem space_tab {w : World} (h : ∃ ty fz, w.heap[0]? = some (.cells (Lib.asciiSpaceTab.map (Value.int .u8)).toArray ty fz)) : Lib.TabIs Go.Proofs.Tryz.prog w "strings.asciiSpace" .u8 Lib.asciiSpaceTab := by
  obtain ⟨ty, fz, h⟩ := h
  have hg : Go.Proofs.Tryz.prog.globalNamed "strings.asciiSpace" = some 0 := by kernel_rfl
  unfold Lib.TabIs World.var?
  simp [hg, h]
theorem fields_over : OverOK Go.Proofs.Tryz.prog 91 (fun _ => fieldsF 0) :=
  fieldsF_over (t := 9) fun s w h1 h2 h3 => Go.Proofs.Tryz.strings_Fields s w h1 h2 (space_tab h3)
def lowOK (s : ByteArray) : Bool := ascii s.data.toList && Nat.blt s.size 140737488355328
theorem lower_over : OverOK Go.Proofs.Tryz.prog 14 (fun _ => strF lowOK Lib.toLowerA) :=
  strF_over fun s w h => by
    simp only [lowOK, Bool.and_eq_true] at h
    exact Go.Proofs.Tryz.strings_ToLower_ascii s w (by have := h.2; simp [Nat.blt] at this; omega) fun j b => ascii_at h.1 j b
def upR (x : Int) : Int := if 97 ≤ x ∧ x ≤ 122 then x - 97 + 65 else x
def upB (b : UInt8) : UInt8 := bif Nat.ble 97 b.toNat && Nat.ble b.toNat 122 then b - 32 else b
theorem up_byte : ∀ i : Fin 128, Lib.encodeRune (upR (i.val : Int)) = [upB (UInt8.ofNat i.val)] := by decide
theorem upR_range (x : Nat) (hx : x ≤ 1114111) : 0 ≤ upR x ∧ upR x ≤ 2147483647 := by unfold upR; split <;> omega
theorem mapD_up : ∀ (l : List UInt8), (∀ b ∈ l, b.toNat < 128) → Lib.mapD upR l = l.map upB
  | [], _ => rfl
  | b :: t, ha => by
    have hb := ha b List.mem_cons_self
    have ih := mapD_up t (fun x hx => ha x (List.mem_cons_of_mem _ hx))
    rw [Lib.mapD_step upR (b :: t) (by simp), Lib.decodeL_ascii b t hb]
    dsimp only
    rw [if_pos (upR_range b.toNat (by omega)).1, up_byte ⟨b.toNat, hb⟩, List.drop_succ_cons, List.drop_zero, ih]
    simp
theorem ret32 {a b : Int} (h : a = b) : Ending.returned (.int .i32 a) = .returned (.int .i32 b) := by rw [h]
theorem upRune (x : Int) (h0 : 0 ≤ x) (h1 : x ≤ 1114111) (w : World) : Calls Go.Proofs.Tryz.prog 224 #[.int .i32 x] w fun e w' => e = .returned (.int .i32 (upR x)) ∧ w' = w := by
  by_cases h : 97 ≤ x
  · by_cases h2 : x ≤ 122
    · have e : upR x = x - 97 + 65 := by unfold upR; rw [if_pos ⟨h, h2⟩]
      go_enter Go.Proofs.Tryz.func224, Go.Proofs.Tryz.ntmps224
      go_wp2
      go_ret
      exact ⟨ret32 (by first | rfl | rw [e]), rfl⟩
    · have e : upR x = x := by unfold upR; rw [if_neg (by omega)]
      go_enter Go.Proofs.Tryz.func224, Go.Proofs.Tryz.ntmps224
      go_wp2
      go_ret
      exact ⟨ret32 (by first | rfl | rw [e]), rfl⟩
  · have e : upR x = x := by unfold upR; rw [if_neg (by omega)]
    go_enter Go.Proofs.Tryz.func224, Go.Proofs.Tryz.ntmps224
    go_wp2
    go_ret
    exact ⟨ret32 (by first | rfl | rw [e]), rfl⟩
def firstTab : List Int := Lib.firstTab
def acceptTab : List Int := [128, 191, 160, 191, 128, 159, 144, 191, 128, 143, 0, 0, 0, 0, 0, 0, 0, 0, 0, 0, 0, 0, 0, 0, 0, 0, 0, 0, 0, 0, 0, 0]
theorem accept_at : ∀ i, i < 16 → acceptTab[2 * i]? = some (Lib.accLo i : Int) ∧ acceptTab[2 * i + 1]? = some (Lib.accHi i : Int) := by decide
theorem utf8_tabs {w : World} (h4 : ∃ ty fz, w.heap[4]? = some (.cells (Lib.firstTab.map (Value.int .u8)).toArray ty fz)) (h5 : ∃ ty fz, w.heap[5]? = some (.cells (acceptTab.map (Value.int .u8)).toArray ty fz)) : Lib.Utf8Tabs 4 5 w := by
  obtain ⟨t4, f4, h4⟩ := h4
  obtain ⟨t5, f5, h5⟩ := h5
  refine ⟨fun c hc => ?_, fun i hi => ?_⟩
  · rw [Go.Eng.cell_of_heap h4]
    simp [Lib.firstTab, hc]
  · rw [Go.Eng.cell_of_heap h5, Go.Eng.cell_of_heap h5]
    obtain ⟨a, b⟩ := accept_at i hi
    simp [a, b]
theorem upper_calls (s : ByteArray) (w : World) (hs : s.size < 35184372088832) (ha : ascii s.data.toList = true) (hT : Lib.Utf8Tabs 4 5 w) :
    Calls Go.Proofs.Tryz.prog 160 #[.string s] w fun e w' => e = .returned (strV (s.data.toList.map upB)) ∧ Below w.heap.size w w' := by
  have hm : Lib.mapD upR s.data.toList = s.data.toList.map upB := mapD_up _ fun b hb => by
    obtain ⟨j, hj⟩ := List.mem_iff_getElem?.1 hb
    exact ascii_at ha j b hj
  have c := Go.Proofs.Tryz.strings_Map_runes 224 #[] (enters_of Go.Proofs.Tryz.func224 (by kernel_rfl) rfl) upR s w hs (fun W x hx _ => (upRune x (by omega) (by omega) W).mono fun e w' ⟨he, hw⟩ => ⟨he, 0, hw⟩) upR_range hT
  rw [hm] at c
  clear hm hT
  go_enter Go.Proofs.Tryz.func160, Go.Proofs.Tryz.ntmps160
  go_wp2_with (go_at_call 57; refine c.mono ?_; rintro e w' ⟨rfl, hw⟩)
  go_ret
  exact ⟨rfl, hw⟩
/-- cmd.upper at ASCII text. -/
noncomputable def upperF : List Value → M End
  | [.string s] => bif ascii s.data.toList && Nat.blt s.size 35184372088832 then
      M.bind (tabAt 4 Lib.firstTab) fun _ => M.bind (tabAt 5 acceptTab) fun _ => M.ret (.ret (strV (s.data.toList.map upB))) else M.fail
  | _ => M.fail
theorem upperF_loc (args : List Value) : Local (upperF args) := by
  unfold upperF
  split
  · exact Local.cond (Local.bind (tabAt_loc _ _) fun _ => Local.bind (tabAt_loc _ _) fun _ => Local.ret _) Local.fail
  · exact Local.fail
theorem upper_over : OverOK Go.Proofs.Tryz.prog 160 (fun _ => upperF) where
  loc := fun _ _ => upperF_loc
  ok := by
    intro call _ _ args s e s' h φ w args' R ha
    unfold upperF at h
    split at h
    · rename_i sb
      cases hb : (ascii sb.data.toList && Nat.blt sb.size 35184372088832) with
      | false => rw [hb] at h; simp only [cond_false] at h; exact (fail_ok h).elim
      | true =>
        rw [hb] at h
        simp only [cond_true] at h
        simp only [Bool.and_eq_true] at hb
        obtain ⟨_, s1, h1, h2⟩ := bind_ok h
        obtain ⟨_, s2, h3, h4⟩ := bind_ok h2
        obtain ⟨rfl, rfl⟩ := ret_ok h4
        obtain ⟨e1, t1⟩ := tabAt_ok R h1
        obtain ⟨e2, t2⟩ := tabAt_ok (by rw [e1]; exact R) h3
        rw [ha.str1]
        exact (upper_calls sb w (by have := hb.2; simp [Nat.blt] at this; omega) hb.1 (utf8_tabs t1 t2)).mono fun e' w' ⟨he, hw⟩ => ⟨φ, by rw [e2, e1]; exact Step.below R hw, by rw [he]; exact .ret (.str _)⟩
    · exact (fail_ok h).elim
end Go.Eng.Tryz
