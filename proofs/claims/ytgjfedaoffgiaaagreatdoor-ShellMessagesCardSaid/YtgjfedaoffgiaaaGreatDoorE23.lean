/-
  What an operation does hangs on the temporaries that it looks at alone.
-/
import Derived.Test.YtgjfedaoffgiaaaGreatDoorE22
namespace Go.Eng
section
variable {C : Cfg} {call : CallF} {T T' : Tm}
def tmpsOf (o : Op) : List Nat := o.operands.toList.filterMap fun | .tmp t => some t | _ => none
theorem ev_congr {x : Operand} (h : ∀ t, x = .tmp t → gett T t = gett T' t) : ev T x = ev T' x := by
  cases x with
  | tmp t => simp only [ev]; rw [h t rfl]
  | _ => rfl
theorem evs_congr : ∀ {l : List Operand}, (∀ x ∈ l, ev T x = ev T' x) → evs T l = evs T' l
  | [], _ => rfl
  | x :: l, h => by
    simp only [evs]
    rw [h x (by simp), evs_congr (l := l) fun y hy => h y (by simp [hy])]
theorem evps_congr : ∀ {l : List (Nat × Operand)}, (∀ x ∈ l, ev T x.2 = ev T' x.2) → evps T l = evps T' l
  | [], _ => rfl
  | (i, x) :: l, h => by
    simp only [evps]
    rw [h (i, x) (by simp), evps_congr (l := l) fun y hy => h y (by simp [hy])]
theorem evo_congr {o : Option Operand} (h : ∀ x, o = some x → ev T x = ev T' x) : evo T o = evo T' o := by
  cases o with
  | none => rfl
  | some x => simp only [evo]; rw [h x rfl]
theorem aOp_congr (o : Op) (h : ∀ t ∈ tmpsOf o, gett T t = gett T' t) : aOp C T o = aOp C T' o := by
  have H : ∀ x ∈ o.operands.toList, ev T x = ev T' x := fun x hx => ev_congr fun t e => h t (by
    unfold tmpsOf
    rw [List.mem_filterMap]
    exact ⟨x, hx, by rw [e]⟩)
  clear h
  cases o with
  | build t ps =>
    have : evps T ps.toList = evps T' ps.toList := evps_congr fun x hx => H x.2 (by simp [Op.operands]; exact ⟨x.1, by simpa using hx⟩)
    simp only [aOp]; rw [this]
  | buildSlice t n ps =>
    have : evps T ps.toList = evps T' ps.toList := evps_congr fun x hx => H x.2 (by simp [Op.operands]; exact ⟨x.1, by simpa using hx⟩)
    simp only [aOp]; rw [this]
  | makeFunc f first cap =>
    have h1 : evs T first.toList = evs T' first.toList := evs_congr fun x hx => H x (by simp [Op.operands]; simp at hx; exact .inl hx)
    have h2 : evs T cap.toList = evs T' cap.toList := evs_congr fun x hx => H x (by simp [Op.operands]; simp at hx; exact .inr hx)
    cases f <;> simp only [aOp]
    rw [h1, h2]
  | slice t x lo hi m =>
    have h1 : evo T lo = evo T' lo := evo_congr fun y hy => H y (by simp [Op.operands, hy])
    have h2 : evo T hi = evo T' hi := evo_congr fun y hy => H y (by simp [Op.operands, hy])
    have h3 : ev T x = ev T' x := H x (by simp [Op.operands])
    cases m <;> simp only [aOp, with1]
    rw [h1, h2, h3]
  | call c =>
    have h1 : evs T c.args.toList = evs T' c.args.toList := evs_congr fun x hx => H x (by
      simp [Op.operands, Call.operands]
      simp at hx
      exact .inr hx)
    have h2 : ∀ f, c.callee = .value f → ev T f = ev T' f := fun f hf => H f (by simp [Op.operands, Call.operands, hf])
    simp only [aOp, aCallOp]
    rw [h1]
    cases hq : c.callee with
    | value f => simp only; rw [h2 f hq]
    | _ => rfl
  | makeMap t r => cases r <;> rfl
  | _ => simp [Op.operands] at H; simp [aOp, with1, with2, H]
theorem opRun_congr {o : Oper} (h : ∀ t ∈ tmpsOf o.op, gett T t = gett T' t) : opRun C call T o = opRun C call T' o := by
  funext s
  unfold opRun
  rw [aOp_congr o.op h]
theorem looks_eq (all : List Oper) (o : Oper) : looks all o = tmpsOf o.op ++ (match o.guard with
   | some (j, _) => ((all[j]?).bind (·.dst)).toList
   | none => []) := rfl
theorem wantedA_congr {all : List Oper} {o : Oper} (h : ∀ t ∈ looks all o, gett T t = gett T' t) : wantedA all T o = wantedA all T' o := by
  unfold wantedA
  cases hg : o.guard with
  | none => rfl
  | some g =>
    obtain ⟨j, want⟩ := g
    simp only
    cases hj : all[j]? with
    | none => rfl
    | some p =>
      simp only
      cases hd : p.dst with
      | none => rfl
      | some d =>
        simp only
        rw [h d (by rw [looks_eq, hg]; simp [hj, hd])]
theorem runW_congr {all : List Oper} {o : Oper} (h : ∀ t ∈ looks all o, gett T t = gett T' t) : runW C call all T o = runW C call all T' o := by
  unfold runW
  rw [wantedA_congr h, opRun_congr fun t ht => h t (by rw [looks_eq]; exact List.mem_append_left _ ht)]
end
end Go.Eng
