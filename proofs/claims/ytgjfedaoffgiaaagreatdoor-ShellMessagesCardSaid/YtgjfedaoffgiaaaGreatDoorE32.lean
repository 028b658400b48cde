/-
  What stands in cmd.Parse's place, shown to be what the machine does.
-/
import Derived.Test.YtgjfedaoffgiaaaGreatDoorE31
namespace Go.Eng.Tryz
noncomputable section
open Go.Proofs Go.RowKit
def parseRet (c e : Nat) : List Value → M End
  | [.int .i64 k, .int .i64 n, .string b, .int .i64 i, .slice p l cp, .string t] =>
      M.bind (wr c (.cells (cmdV k n b i p l cp t) 0)) fun _ => M.bind (wr e (.cells [.int .i64 0] 0)) fun _ => M.ret (.ret (.tuple #[.agg (cmdV k n b i p l cp t).toArray, .int .i64 0]))
  | _ => M.fail
def parseEnd (c e : Nat) : End → M End
  | .ret (.agg cs) => parseRet c e cs.toList
  | .pan (.iface t (.int .i64 m)) => bif Nat.beq t 96 then
      M.bind (wr c (.cells zeroCmd 0)) fun _ => M.bind (wr e (.cells [.int .i64 m] 0)) fun _ => M.ret (.ret (.tuple #[.agg zeroCmd.toArray, .int .i64 m])) else M.fail
  | _ => M.fail
def parseF (call : CallF) : List Value → M End
  | [.string s] => M.bind (nw (.cells zeroCmd 0)) fun c => M.bind (nw (.cells [.int .i64 0] 0)) fun e => M.bind (nw (.cells [.string s] 0)) fun b =>
      M.bind (call 52 [ptr b 0]) fun r => M.bind (cellsAt c) fun x => M.bind (cellsAt e) fun y =>
        bif Nat.beq x.2 0 && Nat.beq y.2 0 && Nat.beq x.1.length 6 && Nat.beq y.1.length 1 then parseEnd c e r else M.fail
  | _ => M.fail
theorem parseEnd_loc (c e : Nat) (r : End) : Local (parseEnd c e r) := by
  unfold parseEnd
  split
  · unfold parseRet
    split
    · exact Local.bind (Local.wr _ _) fun _ => Local.bind (Local.wr _ _) fun _ => Local.ret _
    · exact Local.fail
  · exact Local.cond (Local.bind (Local.wr _ _) fun _ => Local.bind (Local.wr _ _) fun _ => Local.ret _) Local.fail
  · exact Local.fail
theorem parseF_loc (call : CallF) (h : ∀ f args, Local (call f args)) (args : List Value) : Local (parseF call args) := by
  unfold parseF
  split
  · exact Local.bind (Local.nw _) fun _ => Local.bind (Local.nw _) fun _ => Local.bind (Local.nw _) fun _ => Local.bind (h _ _) fun _ => Local.bind (Local.cellsAt _) fun _ => Local.bind (Local.cellsAt _) fun _ => Local.cond (parseEnd_loc _ _ _) Local.fail
  · exact Local.fail
theorem cells_at {φ : Phi} {H : Tr AObj} {w : World} {id N : Nat} {vs : List Value} (R : Rel φ H w) (g : H.get id = some (.cells vs 0)) (p : φ id = some ⟨N, 0, 0⟩) (i : Nat) (hi : i < vs.length) :
    (∃ v, w.cell? ⟨N, i, none⟩ = some v) ∧ w.frozen? ⟨N, i, none⟩ = false := by
  obtain ⟨A, t, lo, hi', e, c, c0, _⟩ := R.cells g p
  obtain ⟨_, _, hs, hl, hh⟩ := c0 rfl
  subst hl; subst hh
  refine ⟨⟨A[i]'(by omega), ?_⟩, ?_⟩
  · rw [Go.Eng.cell_of_heap e, Array.getElem?_eq_getElem (by omega)]
  · simp [World.frozen?, e]
theorem six_of {φ : Phi} {H : Tr AObj} {w : World} {c e N M : Nat} {vc ve : List Value} (R : Rel φ H w) (gc : H.get c = some (.cells vc 0)) (ge : H.get e = some (.cells ve 0)) (pc : φ c = some ⟨N, 0, 0⟩) (pe : φ e = some ⟨M, 0, 0⟩) (lc : vc.length = 6) (le : ve.length = 1) : Six N M w := by
  obtain ⟨⟨c0, h0⟩, f0⟩ := cells_at R gc pc 0 (by omega)
  obtain ⟨⟨c1, h1⟩, f1⟩ := cells_at R gc pc 1 (by omega)
  obtain ⟨⟨c2, h2⟩, f2⟩ := cells_at R gc pc 2 (by omega)
  obtain ⟨⟨c3, h3⟩, f3⟩ := cells_at R gc pc 3 (by omega)
  obtain ⟨⟨c4, h4⟩, f4⟩ := cells_at R gc pc 4 (by omega)
  obtain ⟨⟨c5, h5⟩, f5⟩ := cells_at R gc pc 5 (by omega)
  obtain ⟨⟨x, he⟩, fe⟩ := cells_at R ge pe 0 (by omega)
  exact ⟨⟨c0, c1, c2, c3, c4, c5, x, h0, h1, h2, h3, h4, h5, he⟩, f0, f1, f2, f3, f4, f5, fe⟩
theorem lset_six {vc cs : List Value} (l : vc.length = 6) (k : cs.length = 6) : lset vc 0 cs = some cs := by
  match vc, l, cs, k with
  | [_, _, _, _, _, _], _, [_, _, _, _, _, _], _ => rfl
theorem lset_one {ve : List Value} (v : Value) (l : ve.length = 1) : lset ve 0 [v] = some [v] := by
  match ve, l with
  | [_], _ => rfl
/-- Both cells laid anew. -/
theorem put_both {φ : Phi} {H : Tr AObj} {w : World} {c e N M : Nat} {vc ve cs cs' : List Value} {v : Value} (hce : c ≠ e) (R : Rel φ H w) (gc : H.get c = some (.cells vc 0)) (ge : H.get e = some (.cells ve 0)) (pc : φ c = some ⟨N, 0, 0⟩) (pe : φ e = some ⟨M, 0, 0⟩) (lc : vc.length = 6) (le : ve.length = 1)
    (k : cs.length = 6) (h1 : cs.all oneC = true) (hv : VRs φ cs cs') (ho : oneC v = true) (hk : okc v = true) :
    Step φ H w φ ((H.set c (.cells cs 0)).set e (.cells [v] 0)) ((w.setCells N 0 cs').setCells M 0 [v]) := by
  have s1 := (Rel.put (P := Go.Proofs.Tryz.prog) R gc pc rfl h1 (lset_six lc k) hv).1
  have s2 := (Rel.put (P := Go.Proofs.Tryz.prog) (cs := [v]) (cs' := [v]) s1.rel (by rw [Tr.get_set, if_neg (fun q => hce q.symm)]; exact ge) pe rfl (by simp [ho]) (lset_one v le) (.cons (VR.okc hk) .nil)).1
  exact s1.trans s2
theorem cmd_inv {φ : Phi} {k n : Int} {b : ByteArray} {i : Int} {p : Option Addr} {l c : Nat} {t : ByteArray} {vs' : List Value} (h : VRs φ (cmdV k n b i p l c t) vs') : ∃ p' l' c', vs' = cmdV k n b i p' l' c' t := by
  unfold cmdV at h
  cases h with
  | cons h0 h =>
  cases h with
  | cons h1 h =>
  cases h with
  | cons h2 h =>
  cases h with
  | cons h3 h =>
  cases h with
  | cons h4 h =>
  cases h with
  | cons h5 h =>
  cases h
  cases h0; cases h1; cases h2; cases h3; cases h5
  cases h4 <;> exact ⟨_, _, _, rfl⟩
theorem parse_over : OverOK Go.Proofs.Tryz.prog 13 parseF where
  loc := parseF_loc
  ok := by
    intro call hc _ args s r s' h φ w args' R ha
    unfold parseF at h
    split at h
    · rename_i sb
      obtain ⟨c, s1, h1, k1⟩ := bind_ok h
      clear h
      obtain ⟨e, s2, h2, k2⟩ := bind_ok k1
      clear k1
      obtain ⟨b, s3, h3, k3⟩ := bind_ok k2
      clear k2
      obtain ⟨r0, s4, h4, k4⟩ := bind_ok k3
      clear k3
      obtain ⟨⟨vc, mc⟩, s5, h5, k5⟩ := bind_ok k4
      clear k4
      obtain ⟨⟨ve, me⟩, s6, h6, h⟩ := bind_ok k5
      clear k5
      simp only at h
      cases hb : (Nat.beq mc 0 && Nat.beq me 0 && Nat.beq vc.length 6 && Nat.beq ve.length 1) with
      | false => rw [hb] at h; simp only [cond_false] at h; exact (fail_ok h).elim
      | true =>
      rw [hb] at h
      simp only [cond_true] at h
      simp only [Bool.and_eq_true] at hb
      obtain ⟨⟨⟨b1, b2⟩, b3⟩, b4⟩ := hb
      obtain rfl := Nat.eq_of_beq_eq_true b1
      obtain rfl := Nat.eq_of_beq_eq_true b2
      have lc := Nat.eq_of_beq_eq_true b3
      have le := Nat.eq_of_beq_eq_true b4
      obtain ⟨q1, e1⟩ := nw_ok h1
      obtain ⟨q2, e2⟩ := nw_ok h2
      obtain ⟨q3, e3⟩ := nw_ok h3
      obtain ⟨g5, e5⟩ := cellsAt_ok h5
      obtain ⟨g6, e6⟩ := cellsAt_ok h6
      rw [e5] at g6
      have hce : c ≠ e := fun q => by
        have := q2.1
        rw [e1, ← q, Tr.get_set, if_pos rfl] at this
        cases this
      have st1 := Rel.new (A := zeroCmd.toArray) 32 R q1 (by exact VRs.okc rfl)
      rw [← e1] at st1
      have st2 := Rel.new (A := #[.int .i64 0]) 33 st1.rel q2 (by exact VRs.okc rfl)
      rw [← e2] at st2
      have st3 := Rel.new (A := #[.string sb]) 99 st2.rel q3 (by exact VRs.okc rfl)
      rw [← e3] at st3
      have st := (st1.trans st2).trans st3
      have z1 : (w.alloc (.cells zeroCmd.toArray 32)).heap.size = w.heap.size + 1 := by simp
      have z2 : ((w.alloc (.cells zeroCmd.toArray 32)).alloc (.cells #[.int .i64 0] 33)).heap.size = w.heap.size + 2 := by simp
      generalize hφ3 : upd (upd (upd φ c ⟨w.heap.size, 0, 0⟩) e ⟨(w.alloc (.cells zeroCmd.toArray 32)).heap.size, 0, 0⟩) b ⟨((w.alloc (.cells zeroCmd.toArray 32)).alloc (.cells #[.int .i64 0] 33)).heap.size, 0, 0⟩ = φ3 at st st3
      have pc : φ3 c = some ⟨w.heap.size, 0, 0⟩ := st3.ext _ _ (st2.ext _ _ (upd_same ..))
      have pe : φ3 e = some ⟨w.heap.size + 1, 0, 0⟩ := by rw [← z1]; exact st3.ext _ _ (upd_same ..)
      have pb : φ3 b = some ⟨w.heap.size + 2, 0, 0⟩ := by rw [← z2, ← hφ3]; exact upd_same ..
      have c52 := hc 52 [ptr b 0] s3 r0 s4 h4 φ3 (w3 sb w) #[.pointer (some ⟨w.heap.size + 2, 0, none⟩)] st3.rel (.cons (.ptr pb) .nil)
      rw [ha.str1]
      unfold parseEnd at h
      split at h
      · rename_i cs
        generalize hcs : cs.toList = ls at h
        unfold parseRet at h
        split at h
        · rename_i k n bb i p l cp t
          obtain ⟨_, s7, h7, h⟩ := bind_ok h
          obtain ⟨_, s8, h8, h⟩ := bind_ok h
          obtain ⟨rfl, rfl⟩ := ret_ok h
          have e7 := (wr_ok h7).1
          have e8 := (wr_ok h8).1
          refine (parse_ret sb w (fun k' n' b' i' p' l' c' t' w' => ∃ φ', Step φ3 s3.heap (w3 sb w) φ' s4.heap w' ∧ VRs φ' (cmdV k n bb i p l cp t) (cmdV k' n' b' i' p' l' c' t')) (c52.mono ?_)).mono ?_
          · rintro e' w' ⟨φ', st', er⟩
            cases er with
            | ret hv =>
              cases hv with
              | agg hvs =>
                rename_i c'
                rw [hcs] at hvs
                obtain ⟨p', l', c2, hh⟩ := cmd_inv hvs
                refine ⟨k, n, bb, i, p', l', c2, t, ?_, six_of st'.rel g5 g6 (st'.ext _ _ pc) (st'.ext _ _ pe) lc le, φ', st', ?_⟩
                · rw [show c' = (cmdV k n bb i p' l' c2 t).toArray by rw [← hh]]; rfl
                · rw [← hh]; exact hvs
          · rintro e' w' ⟨k', n', b', i', p', l', c', t', w1, ⟨φ', st', hv⟩, rfl, rfl⟩
            refine ⟨φ', ?_, .ret (.tuple (.cons (.agg (by exact hv)) (.cons (.int _ _) .nil)))⟩
            rw [e8, e7, e6, e5]
            exact (st.trans st').trans (put_both hce st'.rel g5 g6 (st'.ext _ _ pc) (st'.ext _ _ pe) lc le rfl rfl hv rfl rfl)
        · exact (fail_ok h).elim
      · rename_i t m
        cases hb : Nat.beq t 96 with
        | false => rw [hb] at h; simp only [cond_false] at h; exact (fail_ok h).elim
        | true =>
        rw [hb] at h
        simp only [cond_true] at h
        obtain rfl := Nat.eq_of_beq_eq_true hb
        obtain ⟨_, s7, h7, h⟩ := bind_ok h
        obtain ⟨_, s8, h8, h⟩ := bind_ok h
        obtain ⟨rfl, rfl⟩ := ret_ok h
        have e7 := (wr_ok h7).1
        have e8 := (wr_ok h8).1
        refine (parse_pan sb w m (fun w' => ∃ φ', Step φ3 s3.heap (w3 sb w) φ' s4.heap w') (c52.mono ?_)).mono ?_
        · rintro e' w' ⟨φ', st', er⟩
          cases er with
          | pan hv =>
            cases hv with
            | iface _ hv =>
              cases hv
              exact ⟨rfl, six_of st'.rel g5 g6 (st'.ext _ _ pc) (st'.ext _ _ pe) lc le, φ', st'⟩
        · rintro e' w' ⟨w1, ⟨φ', st'⟩, rfl, rfl⟩
          refine ⟨φ', ?_, .ret (.tuple (.cons (.agg (VRs.okc rfl)) (.cons (.int _ _) .nil)))⟩
          rw [e8, e7, e6, e5]
          exact (st.trans st').trans (put_both hce st'.rel g5 g6 (st'.ext _ _ pc) (st'.ext _ _ pe) lc le rfl rfl (VRs.okc rfl) rfl rfl)
      · exact (fail_ok h).elim
    · exact (fail_ok h).elim
end
end Go.Eng.Tryz
