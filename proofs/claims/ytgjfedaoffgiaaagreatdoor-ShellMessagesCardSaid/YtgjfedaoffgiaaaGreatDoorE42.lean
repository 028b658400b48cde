/-
  From what a row lists of the package variables to what the evaluator's first heap holds; the row's last step.
-/
import Derived.Test.YtgjfedaoffgiaaaGreatDoorE33
import Derived.Test.YtgjfedaoffgiaaaGreatDoorRows
import Derived.ProofKit
import Derived.OpenShut
import Derived.LaidMore
import Derived.Lay
import Derived.ChangeSame
import Derived.MakeChecks
namespace Go.Eng.Tryz
open Go.Proofs Go.Lib Go.ChangeShapes Go.WideShapes Go.RowKit
section
variable {H : Type} {enc : TypeId × Value → H} {P : Program}
theorem post_of_below {f : Func} {s : ChangeSpec} {apart fresh handsOn again : Bool} {W W' : World} {args : Array Value} {v : Value} {ds gs : List (DataW H)} {before pa pv : List MemPlace}
    (hW : DataW.Whole enc P f.params.toList s.vars apart W args.toList ds gs before)
    (hres : ∀ (b : Nat) (sp : Nat → Bool) (hd : Bool), DataW.TrodAll enc P W' b sp hd f.resultTypes.toList (v.resultList f.resultTypes.size) (s.fn H (ds ++ gs)).results [])
    (hargs : ∀ sp : Nat → Bool, (∀ p ∈ before, sp p.block = true) → DataW.TrodAll enc P W' 0 sp true f.params.toList args.toList (s.fn H (ds ++ gs)).args pa)
    (hvars : ∀ sp : Nat → Bool, (∀ p ∈ before, sp p.block = true) → DataW.TrodVars enc P W' sp s.vars (s.fn H (ds ++ gs)).vars pv)
    (hps : before = pa ++ pv) (hb : Below W.heap.size W W')
    (hok : ∀ (j : Nat) (t : TypeId) (r : Value), f.resultTypes[j]? = some t → (v.resultList f.resultTypes.size)[j]? = some r → Value.okWide P W' .any 0 t r) :
    s.post enc P f apart fresh handsOn again W args v W' := by
  have hlt : ∀ p ∈ before, p.block < W.heap.size := fun p hp => hW.lt p hp
  have hold : ∀ p ∈ before, (fun b => decide (b < W.heap.size)) p.block = true := fun p hp => by simpa using hlt p hp
  refine ⟨ds, gs, before, [], pa, pv, hW, hres _ _ _, hargs _ hold, hvars _ hold, World.keptBut_mono (fun p hp => ⟨hp, ?_⟩) (hb.frame (· ∈ before)), fun _ => ?_⟩
  · rw [hps, List.mem_append] at hp
    exact Or.inr hp
  · obtain ⟨_, _, _, _, _, hz, hn⟩ := hW
    refine ⟨hok, _, _, ([] ++ pa) ++ pv, ⟨[] ++ pa, pv, trodAll_append (hargs _ (fun _ _ => rfl)) (hres _ _ _), hvars _ (fun _ _ => rfl), rfl, ?_, ?_⟩, ?_⟩
    · intro b off hp
      have hin : MemPlace.cell b off ∈ before := by rw [hps]; simpa using hp
      rw [hb.frozen (hlt _ hin)]
      exact hz b off hin
    · intro ha
      have := hn ha
      rw [hps] at this
      simpa using this
    · intro p hp _
      rw [hps]
      simpa using hp
end
theorem var_heap {P : Program} {w : World} {n : String} {g : Nat} {cs : Array Value} (hg : P.globalNamed n = some g) (h : w.var? P n = some cs) : ∃ ty fz, w.heap[g]? = some (.cells cs ty fz) := by
  unfold World.var? at h
  rw [hg] at h
  simp only [Option.bind_some] at h
  split at h
  · rename_i c t f e
    cases h
    exact ⟨t, f, e⟩
  · cases h
theorem space_of {w : World} (h : VarReads Go.Proofs.Tryz.prog w "strings.asciiSpace" (tabData .u8 asciiSpaceTab)) : ∃ ty fz, w.heap[0]? = some (.cells (asciiSpaceTab.map (Value.int .u8)).toArray ty fz) := by
  obtain ⟨g, t, cs, fuel, p, hg, ht, hv, hd⟩ := h
  obtain rfl := Option.some.inj ((show Go.Proofs.Tryz.prog.globalNamed "strings.asciiSpace" = some 0 by kernel_rfl).symm.trans hg)
  obtain rfl := Option.some.inj ((show (Go.Proofs.Tryz.prog.globals[0]?).map (·.type) = some 241 by kernel_rfl).symm.trans ht)
  have := cells_of_tab Go.Proofs.Tryz.underlying241 Go.Proofs.Tryz.underlying5 (by kernel_rfl) (by kernel_rfl) hd
  rw [show (asciiSpaceTab.map (Value.int .u8)).toArray = cs by rw [← this]]
  exact var_heap hg hv
theorem first_of {w : World} (h : VarReads Go.Proofs.Tryz.prog w "unicode/utf8.first" firstData) : ∃ ty fz, w.heap[4]? = some (.cells (Go.Lib.firstTab.map (Value.int .u8)).toArray ty fz) := by
  obtain ⟨g, t, cs, fuel, p, hg, ht, hv, hd⟩ := h
  obtain rfl := Option.some.inj ((show Go.Proofs.Tryz.prog.globalNamed "unicode/utf8.first" = some 4 by kernel_rfl).symm.trans hg)
  obtain rfl := Option.some.inj ((show (Go.Proofs.Tryz.prog.globals[4]?).map (·.type) = some 241 by kernel_rfl).symm.trans ht)
  have := cells_of_tab Go.Proofs.Tryz.underlying241 Go.Proofs.Tryz.underlying5 (by kernel_rfl) (by kernel_rfl) hd
  rw [show (Go.Lib.firstTab.map (Value.int .u8)).toArray = cs by rw [← this]]
  exact var_heap hg hv
theorem accept_of {w : World} (hf : VarReads Go.Proofs.Tryz.prog w "unicode/utf8.first" firstData) (h : VarReads Go.Proofs.Tryz.prog w "unicode/utf8.acceptRanges" acceptData) : ∃ ty fz, w.heap[5]? = some (.cells (acceptTab.map (Value.int .u8)).toArray ty fz) := by
  have hT : Utf8Tabs 4 5 w := utf8Tabs_of_readsT (ρ := Go.Proofs.Tryz.lays230_ren) ⟨Go.Proofs.Tryz.underlying5, Go.Proofs.Tryz.underlying241, Go.Proofs.Tryz.underlying318, Go.Proofs.Tryz.underlying319⟩ ⟨by kernel_rfl, by kernel_rfl, by kernel_rfl, by kernel_rfl, by kernel_rfl, by kernel_rfl, by kernel_rfl⟩ hf h
  obtain ⟨g, t, cs, fuel, p, hg, ht, hv, hd⟩ := h
  obtain rfl := Option.some.inj ((show Go.Proofs.Tryz.prog.globalNamed "unicode/utf8.acceptRanges" = some 5 by kernel_rfl).symm.trans hg)
  obtain rfl := Option.some.inj ((show (Go.Proofs.Tryz.prog.globals[5]?).map (·.type) = some 319 by kernel_rfl).symm.trans ht)
  obtain ⟨ty, fz, e⟩ := var_heap hg hv
  obtain ⟨xs, m, _, _, hl, _⟩ := DataW.trod_array Go.Proofs.Tryz.underlying319 hd
  have hl' : cs.toList.length = 32 := hl.trans (by kernel_rfl)
  have hcs : cs.toList = acceptTab.map (Value.int .u8) := by
    apply List.ext_getElem?
    intro j
    by_cases hj : j < 32
    · obtain ⟨a, b⟩ := hT.2 (j / 2) (by omega)
      rw [Go.Eng.cell_of_heap e] at a b
      obtain ⟨q1, q2⟩ := accept_at (j / 2) (by omega)
      rcases Nat.mod_two_eq_zero_or_one j with z | z
      · have e1 : 2 * (j / 2) = j := by omega
        rw [e1] at a q1
        rw [List.getElem?_map, q1, Array.getElem?_toList, a]; rfl
      · have e1 : 2 * (j / 2) + 1 = j := by omega
        rw [e1] at b q2
        rw [List.getElem?_map, q2, Array.getElem?_toList, b]; rfl
    · rw [List.getElem?_eq_none (by omega), List.getElem?_eq_none (by simp [acceptTab]; omega)]
  refine ⟨ty, fz, ?_⟩
  rw [e, ← hcs]
theorem tabs_of {w : World} (h0 : VarReads Go.Proofs.Tryz.prog w "strings.asciiSpace" (tabData .u8 asciiSpaceTab)) (h4 : VarReads Go.Proofs.Tryz.prog w "unicode/utf8.first" firstData) (h5 : VarReads Go.Proofs.Tryz.prog w "unicode/utf8.acceptRanges" acceptData) : Tabs w :=
  ⟨space_of h0, first_of h4, accept_of h4 h5⟩
end Go.Eng.Tryz
