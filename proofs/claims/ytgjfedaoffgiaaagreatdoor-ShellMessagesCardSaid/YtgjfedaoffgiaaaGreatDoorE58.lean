/-
  ShellMessages: the row's statement.
-/
import Derived.Test.YtgjfedaoffgiaaaGreatDoorE52
import Derived.Test.YtgjfedaoffgiaaaGreatDoorE42
import Derived.Test.YtgjfedaoffgiaaaGreatDoorE56
import Derived.Test.YtgjfedaoffgiaaaGreatDoorE57
import Derived.Test.YtgjfedaoffgiaaaGreatDoorE55
import Derived.Stop.Joined
namespace Go.Proofs.YtgjfedaoffgiaaaGreatDoor
open Go.ChangeShapes Go.WideShapes Go.ChangeAt Go.RowKit Go.Lib
namespace SM
theorem own : ownKnob Tryz.prog.godebug = none := by kernel_rfl
theorem tabs {W : World} (h : laidMetH Tryz.prog Rows.shellMessagesRow.laid W) : Go.Eng.Tryz.Tabs W := by
  rw [MakeChecks.laidMetH_plain _ _ _ (by kernel_rfl)] at h
  exact Go.Eng.Tryz.tabs_of (laidMet.reads h (List.mem_of_getElem? (i := 7) (by kernel_rfl))) (laidMet.reads h (List.mem_of_getElem? (i := 8) (by kernel_rfl))) (laidMet.reads h (List.mem_of_getElem? (i := 3) (by kernel_rfl)))
theorem pow {W : World} (h : laidMetH Tryz.prog Rows.shellMessagesRow.laid W) : Go.Eng.Tryz.PowTab W := by
  rw [MakeChecks.laidMetH_plain _ _ _ (by kernel_rfl)] at h
  obtain ⟨g, t, cs, fuel, p, hg, ht, hv, hd⟩ := laidMet.reads h (n := "internal/strconv.uint64pow10") (d := tabData .u64 pow10Tab) (List.mem_of_getElem? (i := 2) (by kernel_rfl))
  obtain rfl := Option.some.inj ((show Tryz.prog.globalNamed "internal/strconv.uint64pow10" = some 6 by kernel_rfl).symm.trans hg)
  obtain rfl := Option.some.inj ((show (Tryz.prog.globals[6]?).map (·.type) = some 377 by kernel_rfl).symm.trans ht)
  have := cells_of_tab Tryz.underlying377 Tryz.underlying232 (by kernel_rfl) (by kernel_rfl) hd
  unfold Go.Eng.Tryz.PowTab
  rw [show (pow10Tab.map (Value.int .u64)).toArray = cs by rw [← this]]
  exact Go.Eng.Tryz.var_heap hg hv
set_option maxRecDepth 100000 in
theorem lifted (os : Os) (started : os.Started) (H : Type) (enc : TypeId × Value → H) :
    ReturnsInHanded {} Tryz.checked os 8 .any (fun w args => (Rows.shellMessagesSpec.pre enc Tryz.prog Tryz.f8 Rows.shellMessagesRow.domain false w args ∧ laidMetH Tryz.prog Rows.shellMessagesRow.laid w) ∧ sizedMet enc Tryz.prog Tryz.f8 (OpenSpec.ofChange Rows.shellMessagesSpec) false w args)
      (Rows.shellMessagesSpec.post enc Tryz.prog Tryz.f8 false true false false) := by
  refine returnsInHanded_of_change_and (C := Tryz.checked) (X := fun w _ => laidMetH Tryz.prog Rows.shellMessagesRow.laid w) (fun _ _ _ hh h => h.of_heap hh) own started (by kernel_rfl) Tryz.func8
    (ChangeSpec.witness_shaped (enc := enc) (C := Tryz.checked) (os := os) (X := fun w _ => laidMetH Tryz.prog Rows.shellMessagesRow.laid w) false (World.laidAll Tryz.prog os Rows.shellMessagesRow.laid) #[.int .i64 0] 8 (World.laidAll_os _ _ _)
      (shaped os _) (by kernel_rfl) (by kernel_rfl) (by kernel_rfl) (met os _)) ?_
  intro W base args ds gs before hval0 hW _ _ hL _
  have hval : ∀ (j : Nat) t v, Tryz.f8.params[j]? = some t → args[j]? = some v → Value.okWide Tryz.prog W .any base t v := hval0
  have hW' := hW
  obtain ⟨p, q, hA0, hV, rfl, hfz, hnd⟩ := hW
  have hA : DataW.TrodAll enc Tryz.prog W 0 (fun _ => true) true Tryz.f8.params.toList args.toList ds p := hA0
  rw [Tryz.params8] at hA hval
  obtain ⟨v0, vs0, d0, ds0, p0, q0, hargs, rfl, rfl, h0, r0⟩ := trodAll_cons hA
  obtain ⟨rfl, rfl, rfl⟩ := trodAll_nil r0
  obtain rfl : args = #[v0] := by cases args; simp_all
  obtain ⟨rfl, rfl⟩ := trodVars_none hV
  obtain ⟨a0, rfl, rfl, rfl, w0⟩ := open_int Tryz.underlying33 (hval 0 33 v0 rfl rfl) h0
  clear hA0 hval0
  simp only [List.append_nil] at hW'
  have hu : IntKind.i64.min ≤ a0 ∧ a0 ≤ IntKind.i64.max := by simpa [Lit.wf] using w0
  rw [show IntKind.i64.min = -9223372036854775808 from rfl, show IntKind.i64.max = 9223372036854775807 from rfl] at hu
  refine (Go.Eng.Tryz.law26 a0 hu.1 hu.2 W (tabs hL) (pow hL)).mono fun e W' ⟨he, hg⟩ => ?_
  subst he
  exact ⟨_, rfl, Go.Eng.Tryz.post_of_below (pa := []) (pv := []) hW' (fun _ _ _ => (trodAll_cons_mk (shut_bool Tryz.underlying4 _) trodAll_mk0)) (fun sp _ => (trodAll_cons_mk (shut_int Tryz.underlying33 w0) trodAll_mk0)) (fun _ _ => rfl) rfl
    hg (ok_one (by kernel_rfl) rfl (okWide_bool_mk Tryz.underlying4 _))⟩
theorem said : Rows.ShellMessagesSaid :=
  OpenClaim.holds_of_wide 8 Tryz.f8 rfl rfl rfl rfl rfl rfl rfl ⟨rfl, rfl, rfl, rfl, rfl⟩ rfl rfl rfl rfl rfl (by kernel_rfl) Tryz.func8 closed
    (of_decide_eq_true (by kernel_rfl)) (by unfold Func.isWrapper; first | (rw [if_pos (by decide +kernel)]; kernel_rfl) | (rw [if_neg (by decide +kernel)]; exact ⟨rfl, rfl⟩))
    (fun os started H enc _ => lifted os started H enc)
end SM
end Go.Proofs.YtgjfedaoffgiaaaGreatDoor
