/-
  How the evaluator's values and heap stand to the machine's: 'VR' (values), 'Rel' (heaps), 'Step' (a turn of both).
-/
import Derived.Test.YtgjfedaoffgiaaaGreatDoorE3
import Derived.Laws.World
import Derived.Deep.AppendSrc
import Derived.Deep.MidRow
namespace Go.Eng
structure Loc where
  blk : Nat
  sh : Nat
  ext : Nat
abbrev Phi : Type := Nat → Option Loc

mutual
inductive VR (φ : Phi) : Value → Value → Prop
  | bool (b : Bool) : VR φ (.bool b) (.bool b)
  | int (k : IntKind) (n : Int) : VR φ (.int k n) (.int k n)
  | float (k : FloatKind) (n : Nat) : VR φ (.float k n) (.float k n)
  | complex (k : FloatKind) (a b : Nat) : VR φ (.complex k a b) (.complex k a b)
  | str (s : ByteArray) : VR φ (.string s) (.string s)
  | pnil : VR φ (.pointer none) (.pointer none)
  | ptr {b o : Nat} {l : Loc} (h : φ b = some l) : VR φ (.pointer (some ⟨b, o, none⟩)) (.pointer (some ⟨l.blk, l.sh + o, none⟩))
  | snil : VR φ (.slice none 0 0) (.slice none 0 0)
  | slice {b o n c : Nat} {l : Loc} (h : φ b = some l) : VR φ (.slice (some ⟨b, o, none⟩) n c) (.slice (some ⟨l.blk, l.sh + o, none⟩) n (c + l.ext))
  | slice0 {b o : Nat} {l : Loc} (a : Addr) (h : φ b = some l) : VR φ (.slice (some ⟨b, o, none⟩) 0 0) (.slice (some a) 0 0)
  | mnil : VR φ (.map none) (.map none)
  | map {b : Nat} {l : Loc} (h : φ b = some l) : VR φ (.map (some b)) (.map (some l.blk))
  | nilFunc : VR φ .nilFunc .nilFunc
  | func (g : FuncId) {f c f' c' : Array Value} (hf : VRs φ f.toList f'.toList) (hc : VRs φ c.toList c'.toList) : VR φ (.func (.func g) f c) (.func (.func g) f' c')
  | nilIface : VR φ .nilIface .nilIface
  | iface (t : TypeId) {v v' : Value} (h : VR φ v v') : VR φ (.iface t v) (.iface t v')
  | agg {c c' : Array Value} (h : VRs φ c.toList c'.toList) : VR φ (.agg c) (.agg c')
  | tuple {c c' : Array Value} (h : VRs φ c.toList c'.toList) : VR φ (.tuple c) (.tuple c')
inductive VRs (φ : Phi) : List Value → List Value → Prop
  | nil : VRs φ [] []
  | cons {v v' : Value} {vs vs' : List Value} (h : VR φ v v') (t : VRs φ vs vs') : VRs φ (v :: vs) (v' :: vs')
end

def Ext (φ φ' : Phi) : Prop := ∀ id l, φ id = some l → φ' id = some l
theorem Ext.refl (φ : Phi) : Ext φ φ := fun _ _ h => h
theorem Ext.trans {a b c : Phi} (h : Ext a b) (k : Ext b c) : Ext a c := fun id l e => k id l (h id l e)

mutual
theorem VR.mono {φ φ' : Phi} (e : Ext φ φ') : ∀ {v v' : Value}, VR φ v v' → VR φ' v v'
  | _, _, .bool b => .bool b
  | _, _, .int k n => .int k n
  | _, _, .float k n => .float k n
  | _, _, .complex k a b => .complex k a b
  | _, _, .str s => .str s
  | _, _, .pnil => .pnil
  | _, _, .ptr h => .ptr (e _ _ h)
  | _, _, .snil => .snil
  | _, _, .slice h => .slice (e _ _ h)
  | _, _, .slice0 a h => .slice0 a (e _ _ h)
  | _, _, .mnil => .mnil
  | _, _, .map h => .map (e _ _ h)
  | _, _, .nilFunc => .nilFunc
  | _, _, .func g hf hc => .func g (VRs.mono e hf) (VRs.mono e hc)
  | _, _, .nilIface => .nilIface
  | _, _, .iface t h => .iface t (VR.mono e h)
  | _, _, .agg h => .agg (VRs.mono e h)
  | _, _, .tuple h => .tuple (VRs.mono e h)
theorem VRs.mono {φ φ' : Phi} (e : Ext φ φ') : ∀ {vs vs' : List Value}, VRs φ vs vs' → VRs φ' vs vs'
  | _, _, .nil => .nil
  | _, _, .cons h t => .cons (VR.mono e h) (VRs.mono e t)
end

section
variable {φ : Phi}
theorem VRs.length : ∀ {vs vs' : List Value}, VRs φ vs vs' → vs'.length = vs.length
  | _, _, .nil => rfl
  | _, _, .cons _ t => by simp [VRs.length t]
theorem VRs.get : ∀ {vs vs' : List Value}, VRs φ vs vs' → ∀ (i : Nat) (v : Value), vs[i]? = some v → ∃ v', vs'[i]? = some v' ∧ VR φ v v'
  | _, _, .nil, i, v, h => by simp at h
  | _, _, .cons h t, 0, v, e => by simp at e; subst e; exact ⟨_, by simp, h⟩
  | _, _, .cons h t, i + 1, v, e => by simp at e; simpa using VRs.get t i v e
theorem VRs.of_get : ∀ {vs vs' : List Value}, vs'.length = vs.length → (∀ (i : Nat) (v : Value), vs[i]? = some v → ∃ v', vs'[i]? = some v' ∧ VR φ v v') → VRs φ vs vs'
  | [], [], _, _ => .nil
  | [], _ :: _, h, _ => by simp at h
  | _ :: _, [], h, _ => by simp at h
  | v :: vs, v' :: vs', h, k => by
    obtain ⟨u, hu, hr⟩ := k 0 v (by simp)
    simp at hu; subst hu
    exact .cons hr (VRs.of_get (by simpa using h) fun i x hx => by simpa using k (i + 1) x (by simpa using hx))
theorem VRs.append : ∀ {a a' b b' : List Value}, VRs φ a a' → VRs φ b b' → VRs φ (a ++ b) (a' ++ b')
  | _, _, _, _, .nil, h => h
  | _, _, _, _, .cons h t, k => .cons h (VRs.append t k)
theorem VR.oneC {v v' : Value} (h : VR φ v v') : v'.oneCell' = oneC v := by cases h <;> rfl
theorem VRs.oneC : ∀ {vs vs' : List Value}, VRs φ vs vs' → vs.all Go.Eng.oneC = true → ∀ v ∈ vs', v.oneCell' = true
  | _, _, .nil, _, v, h => by simp at h
  | _, _, .cons h t, e, v, hm => by
    simp at e
    rcases List.mem_cons.1 hm with rfl | hm
    · rw [VR.oneC h]; exact e.1
    · exact VRs.oneC t (by simpa using e.2) v hm
theorem VR.cellsL {v v' : Value} (h : VR φ v v') : VRs φ (Go.Eng.cellsL v) v'.cells.toList := by
  cases h
  case agg h => exact h
  all_goals exact .cons (by constructor <;> assumption) .nil
end

inductive ER (φ : Phi) : List MapEntry → List MapEntry → Prop
  | nil : ER φ [] []
  | cons {e e' : MapEntry} {es es' : List MapEntry} (hk : VR φ e.key e'.key) (hv : VR φ e.val e'.val) (hb : e'.born = e.born) (t : ER φ es es') : ER φ (e :: es) (e' :: es')
theorem ER.mono {φ φ' : Phi} (x : Ext φ φ') : ∀ {es es' : List MapEntry}, ER φ es es' → ER φ' es es'
  | _, _, .nil => .nil
  | _, _, .cons hk hv hb t => .cons (hk.mono x) (hv.mono x) hb (ER.mono x t)

def AObj.rw : AObj → Bool
  | .cells _ m => !(Nat.beq m 1)
  | .map _ _ => true
  | .iter _ _ => true
  | .dead => false
def AObj.live : AObj → Bool
  | .dead => false
  | _ => true
theorem AObj.live_of_rw {o : AObj} (h : o.rw = true) : o.live = true := by cases o <;> simp_all [AObj.rw, AObj.live]

def CellsR (φ : Phi) (l : Loc) (vs : List Value) (m : Nat) (C : Array Value) (lo hi : Nat) : Prop :=
  (∀ (i : Nat) (v : Value), vs[i]? = some v → ∃ v', C[l.sh + i]? = some v' ∧ VR φ v v') ∧
  (m = 0 → l.sh = 0 ∧ l.ext = 0 ∧ C.size = vs.length ∧ lo = 0 ∧ hi = 0) ∧ (m = 1 → l.ext = 0 ∧ l.sh = 0 ∧ C.size = vs.length) ∧
  (2 ≤ m → l.sh + vs.length + l.ext * (m - 2) ≤ C.size ∧ ∀ i, i < C.size → ¬ (lo ≤ i ∧ i < hi))
def ObjR (φ : Phi) (l : Loc) (o : AObj) (w : World) : Prop := match o with
  | .cells vs m => ∃ C t lo hi, w.heap[l.blk]? = some (.cells C t (lo, hi)) ∧ CellsR φ l vs m C lo hi
  | .map es c => l.sh = 0 ∧ ∃ es', w.heap[l.blk]? = some (.map es' c) ∧ ER φ es es'.toList
  | .iter s pos => l.sh = 0 ∧ w.heap[l.blk]? = some (.stringIter s pos)
  | .dead => True
theorem ObjR.mono {φ φ' : Phi} {l : Loc} {o : AObj} {w w' : World} (x : Ext φ φ') (h : o.live = true → w'.heap[l.blk]? = w.heap[l.blk]?) (k : ObjR φ l o w) : ObjR φ' l o w' := by
  cases o with
  | cells vs m =>
    obtain ⟨C, t, lo, hi, e, a, b⟩ := k
    exact ⟨C, t, lo, hi, by rw [h rfl]; exact e, fun i v hv => by obtain ⟨v', h1, h2⟩ := a i v hv; exact ⟨v', h1, h2.mono x⟩, b⟩
  | map es c => obtain ⟨a, es', e, r⟩ := k; exact ⟨a, es', by rw [h rfl]; exact e, r.mono x⟩
  | iter s pos => obtain ⟨a, e⟩ := k; exact ⟨a, by rw [h rfl]; exact e⟩
  | dead => trivial

def Gone (H : Tr AObj) (id : Nat) : Prop := H.get id = none ∧ pinned ≤ id
def Pinned (φ : Phi) : Prop := ∀ g, g < pinned → φ g = some ⟨g, 0, 0⟩
theorem Pinned.mono {φ φ' : Phi} (h : Pinned φ) (e : Ext φ φ') : Pinned φ' := fun g hg => e _ _ (h g hg)
structure Rel (φ : Phi) (H : Tr AObj) (w : World) : Prop where
  obj : ∀ id o, H.get id = some o → ∃ l, φ id = some l ∧ l.blk < w.heap.size ∧ ObjR φ l o w
  abs : ∀ id, Gone H id → φ id = none
  pin : Pinned φ
  inj : ∀ i j oi oj li lj, H.get i = some oi → H.get j = some oj → oi.rw = true → oj.live = true → φ i = some li → φ j = some lj → li.blk = lj.blk → i = j
def WrB (φ : Phi) (H : Tr AObj) (b : Nat) : Prop := ∃ id o l, H.get id = some o ∧ o.rw = true ∧ φ id = some l ∧ l.blk = b

structure Step (φ : Phi) (H : Tr AObj) (w : World) (φ' : Phi) (H' : Tr AObj) (w' : World) : Prop where
  rel : Rel φ' H' w'
  ext : Ext φ φ'
  sub : ∀ b, WrB φ' H' b → WrB φ H b ∨ w.heap.size ≤ b
  os : w'.os = w.os
  tape : w'.tape = w.tape
  output : w'.output = w.output
  size : w.heap.size ≤ w'.heap.size
  frm : ∀ b, b < w.heap.size → ¬ WrB φ H b → w'.heap[b]? = w.heap[b]?

theorem Step.refl {φ : Phi} {H : Tr AObj} {w : World} (h : Rel φ H w) : Step φ H w φ H w :=
  ⟨h, Ext.refl _, fun _ h => .inl h, rfl, rfl, rfl, Nat.le_refl _, fun _ _ _ => rfl⟩
theorem Step.trans {φ φ1 φ2 : Phi} {H H1 H2 : Tr AObj} {w w1 w2 : World} (a : Step φ H w φ1 H1 w1) (b : Step φ1 H1 w1 φ2 H2 w2) : Step φ H w φ2 H2 w2 where
  rel := b.rel
  ext := a.ext.trans b.ext
  sub := fun x hx => by
    rcases b.sub x hx with h | h
    · exact a.sub x h
    · exact .inr (Nat.le_trans a.size h)
  os := b.os.trans a.os
  tape := b.tape.trans a.tape
  output := b.output.trans a.output
  size := Nat.le_trans a.size b.size
  frm := fun x hx hn => by
    have h1 : ¬ WrB φ1 H1 x := fun h => by
      rcases a.sub x h with h | h
      · exact hn h
      · omega
    rw [b.frm x (Nat.lt_of_lt_of_le hx a.size) h1, a.frm x hx hn]

/-- Worlds that hold one heap. -/
theorem Step.same {φ : Phi} {H : Tr AObj} {w w' : World} (h : Rel φ H w) (e : w'.heap = w.heap) (os : w'.os = w.os) (tape : w'.tape = w.tape) (output : w'.output = w.output) : Step φ H w φ H w' where
  rel := ⟨fun id o ho => by
      obtain ⟨l, a, b, c⟩ := h.obj id o ho
      exact ⟨l, a, by rw [e]; exact b, c.mono (Ext.refl _) fun _ => by rw [e]⟩, h.abs, h.pin, h.inj⟩
  ext := Ext.refl _
  sub := fun _ h => .inl h
  os := os
  tape := tape
  output := output
  size := by rw [e]; exact Nat.le_refl _
  frm := fun b _ _ => by rw [e]
theorem Step.drew {φ : Phi} {H : Tr AObj} {w : World} (h : Rel φ H w) : Step φ H w φ H w.drew := Step.same h rfl rfl rfl rfl

def upd (φ : Phi) (id : Nat) (l : Loc) : Phi := fun i => if i = id then some l else φ i
theorem upd_same (φ : Phi) (id : Nat) (l : Loc) : upd φ id l id = some l := by simp [upd]
theorem upd_ext {φ : Phi} {id : Nat} {l : Loc} (h : φ id = none) : Ext φ (upd φ id l) := fun i k e => by
  unfold upd
  split
  · subst i; rw [h] at e; cases e
  · exact e

/-- A new block. -/
theorem Step.alloc {φ : Phi} {H : Tr AObj} {w : World} {id : Nat} {o : AObj} {O : Obj} {l : Loc} (h : Rel φ H w) (hn : Gone H id) (hl : l.blk = w.heap.size)
    (ho : ObjR (upd φ id l) l o (w.alloc O)) : Step φ H w (upd φ id l) (H.set id o) (w.alloc O) := by
  have x : Ext φ (upd φ id l) := upd_ext (h.abs id hn)
  have hold : ∀ b, b < w.heap.size → (w.alloc O).heap[b]? = w.heap[b]? := fun b hb => by
    show (w.heap.push O)[b]? = _
    rw [Array.getElem?_push, if_neg (Nat.ne_of_lt hb)]
  refine ⟨⟨?_, ?_, h.pin.mono x, ?_⟩, x, ?_, rfl, rfl, rfl, by simp, fun b hb _ => hold b hb⟩
  · intro i oi hi
    rw [Tr.get_set] at hi
    split at hi
    · rename_i e; subst e
      cases hi
      exact ⟨l, upd_same .., by simp [hl], ho⟩
    · obtain ⟨li, a, b, c⟩ := h.obj i oi hi
      exact ⟨li, x _ _ a, by simp; omega, c.mono x fun _ => hold _ b⟩
  · intro i ⟨hi, hp⟩
    rw [Tr.get_set] at hi
    split at hi
    · cases hi
    · rename_i e
      simp [upd, e, h.abs i ⟨hi, hp⟩]
  · intro i j oi oj li lj hi hj ri rj pi pj hb
    rw [Tr.get_set] at hi hj
    by_cases ei : i = id <;> by_cases ej : j = id
    · omega
    · simp only [ei, ej, if_true, if_false] at hi hj
      exfalso
      obtain ⟨lj', a, b, _⟩ := h.obj j oj hj
      simp [upd, ej, a] at pj; subst pj
      rw [ei, upd_same] at pi
      cases pi
      omega
    · simp only [ei, ej, if_true, if_false] at hi hj
      exfalso
      obtain ⟨li', a, b, _⟩ := h.obj i oi hi
      simp [upd, ei, a] at pi; subst pi
      rw [ej, upd_same] at pj
      cases pj
      omega
    · simp only [ei, ej, if_false] at hi hj
      simp only [upd, ei, ej, if_false] at pi pj
      exact h.inj i j oi oj li lj hi hj ri rj pi pj hb
  · rintro b ⟨i, oi, li, hi, ri, pi, hb⟩
    rw [Tr.get_set] at hi
    by_cases ei : i = id
    · rw [ei, upd_same] at pi
      cases pi
      right; omega
    · simp only [ei, if_false] at hi
      simp only [upd, ei, if_false] at pi
      exact .inl ⟨i, oi, li, hi, ri, pi, hb⟩

/-- A write into a block that is held. -/
theorem Step.write {φ : Phi} {H : Tr AObj} {w w' : World} {id : Nat} {o o' : AObj} {l : Loc} (h : Rel φ H w) (hg : H.get id = some o) (hr : o.rw = true) (hp : φ id = some l)
    (hs : w'.heap.size = w.heap.size) (hb : ∀ b, b ≠ l.blk → w'.heap[b]? = w.heap[b]?) (os : w'.os = w.os) (tape : w'.tape = w.tape) (output : w'.output = w.output)
    (ho : ObjR φ l o' w') : Step φ H w φ (H.set id o') w' := by
  refine ⟨⟨?_, ?_, h.pin, ?_⟩, Ext.refl _, ?_, os, tape, output, by omega, ?_⟩
  · intro i oi hi
    rw [Tr.get_set] at hi
    split at hi
    · rename_i e; subst e
      cases hi
      obtain ⟨l0, a, b, _⟩ := h.obj _ _ hg
      rw [hp] at a; cases a
      exact ⟨l, hp, by omega, ho⟩
    · rename_i e
      obtain ⟨li, a, b, c⟩ := h.obj i oi hi
      refine ⟨li, a, by omega, c.mono (Ext.refl _) fun hl => hb _ fun hbl => e ?_⟩
      exact (h.inj id i o oi l li hg hi hr hl hp a hbl.symm).symm
  · intro i ⟨hi, hp⟩
    rw [Tr.get_set] at hi
    split at hi
    · cases hi
    · exact h.abs i ⟨hi, hp⟩
  · intro i j oi oj li lj hi hj ri rj pi pj hbl
    rw [Tr.get_set] at hi hj
    by_cases ei : i = id <;> by_cases ej : j = id
    · omega
    · simp only [ei, ej, if_true, if_false] at hi hj
      subst ei
      exact h.inj _ j o oj li lj hg hj hr rj pi pj hbl
    · simp only [ei, ej, if_true, if_false] at hi hj
      subst ej
      exact h.inj i _ oi o li lj hi hg ri (AObj.live_of_rw hr) pi pj hbl
    · simp only [ei, ej, if_false] at hi hj
      exact h.inj i j oi oj li lj hi hj ri rj pi pj hbl
  · rintro b ⟨i, oi, li, hi, ri, pi, hbl⟩
    rw [Tr.get_set] at hi
    by_cases ei : i = id
    · subst ei
      exact .inl ⟨_, o, li, hg, hr, pi, hbl⟩
    · simp only [ei, if_false] at hi
      exact .inl ⟨i, oi, li, hi, ri, pi, hbl⟩
  · intro b _ hn
    exact hb b fun e => hn ⟨id, o, l, hg, hr, hp, e.symm⟩

/-- A block that goes on under another number. -/
theorem Step.move {φ : Phi} {H : Tr AObj} {w w' : World} {id id' : Nat} {o o' : AObj} {l l' : Loc} (h : Rel φ H w) (hg : H.get id = some o) (hr : o.rw = true) (hp : φ id = some l) (hn : Gone H id')
    (hs : w'.heap.size = w.heap.size) (hb : ∀ b, b ≠ l.blk → w'.heap[b]? = w.heap[b]?) (os : w'.os = w.os) (tape : w'.tape = w.tape) (output : w'.output = w.output) (hl : l'.blk = l.blk)
    (ho : ObjR (upd φ id' l') l' o' w') : Step φ H w (upd φ id' l') ((H.set id .dead).set id' o') w' := by
  have x : Ext φ (upd φ id' l') := upd_ext (h.abs id' hn)
  have hne : id' ≠ id := fun e => by subst e; rw [hn.1] at hg; cases hg
  obtain ⟨l0, a0, b0, _⟩ := h.obj _ _ hg
  rw [hp] at a0; cases a0
  refine ⟨⟨?_, ?_, h.pin.mono x, ?_⟩, x, ?_, os, tape, output, by omega, ?_⟩
  · intro i oi hi
    rw [Tr.get_set, Tr.get_set] at hi
    split at hi
    · rename_i e; subst e
      cases hi
      exact ⟨l', upd_same .., by omega, ho⟩
    · split at hi
      · rename_i e; subst e
        cases hi
        exact ⟨l, x _ _ hp, by omega, trivial⟩
      · rename_i e
        obtain ⟨li, a, b, c⟩ := h.obj i oi hi
        refine ⟨li, x _ _ a, by omega, c.mono x fun hl => hb _ fun hbl => e ?_⟩
        exact (h.inj id i o oi l li hg hi hr hl hp a hbl.symm).symm
  · intro i ⟨hi, hp⟩
    rw [Tr.get_set, Tr.get_set] at hi
    split at hi
    · cases hi
    · split at hi
      · cases hi
      · rename_i e _
        simp [upd, e, h.abs i ⟨hi, hp⟩]
  · intro i j oi oj li lj hi hj ri rj pi pj hbl
    rw [Tr.get_set, Tr.get_set] at hi hj
    by_cases ei : i = id' <;> by_cases ej : j = id'
    · omega
    · simp only [ei, ej, if_true, if_false] at hi hj
      subst ei
      split at hj
      · cases hj; simp [AObj.live] at rj
      · rename_i e
        exfalso
        rw [upd_same] at pi; cases pi
        simp only [upd, ej, if_false] at pj
        exact e (h.inj id j o oj l lj hg hj hr rj hp pj (by omega)).symm
    · simp only [ei, ej, if_true, if_false] at hi hj
      subst ej
      split at hi
      · cases hi; simp [AObj.rw] at ri
      · rename_i e
        exfalso
        rw [upd_same] at pj; cases pj
        simp only [upd, ei, if_false] at pi
        exact e (h.inj i id oi o li l hi hg ri (AObj.live_of_rw hr) pi hp (by omega))
    · simp only [ei, ej, if_false] at hi hj
      simp only [upd, ei, ej, if_false] at pi pj
      split at hi
      · cases hi; simp [AObj.rw] at ri
      · split at hj
        · cases hj; simp [AObj.live] at rj
        · exact h.inj i j oi oj li lj hi hj ri rj pi pj hbl
  · rintro b ⟨i, oi, li, hi, ri, pi, hbl⟩
    rw [Tr.get_set, Tr.get_set] at hi
    by_cases ei : i = id'
    · subst ei
      rw [upd_same] at pi; cases pi
      exact .inl ⟨id, o, l, hg, hr, hp, by omega⟩
    · simp only [ei, if_false] at hi
      simp only [upd, ei, if_false] at pi
      split at hi
      · cases hi; simp [AObj.rw] at ri
      · exact .inl ⟨i, oi, li, hi, ri, pi, hbl⟩
  · intro b _ hn
    exact hb b fun e => hn ⟨id, o, l, hg, hr, hp, e.symm⟩
end Go.Eng
