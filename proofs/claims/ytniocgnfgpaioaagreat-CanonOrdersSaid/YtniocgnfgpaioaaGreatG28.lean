/- The walk of model.Names' iterator; The walk of model.index. -/
import Derived.Test.YtniocgnfgpaioaaGreatG19
import Derived.Test.YtniocgnfgpaioaaGreatG4
import Derived.Maps.OwnIn
import Derived.Test.YtniocgnfgpaioaaGreatG25
import Derived.RangeFuncBox
import Derived.Shelf.Abstract
import Derived.WalkArith
set_option linter.unusedVariables false
set_option linter.unusedSimpArgs false
section
namespace Go.Proofs.YtniocgnfgpaioaaGreat.Mo
open Go Go.RowKit Go.Maps Go.Proofs.YtniocgnfgpaioaaGreat.Lb
attribute [local go_sem] Oper.semAt_some

theorem names_pre {m : Md} {k : Nat} {p : Pr} (h : m.ps[k]? = some p) (q : Nat) : (m.ps.take k).flatMap prNames ++ (prNames p).take q <+: mdNames m := by
 refine ⟨(prNames p).drop q ++ ((m.ps.drop (k + 1)).flatMap prNames ++ m.ls.map Lk.name), ?_⟩
 unfold mdNames
 have hk := (List.getElem?_eq_some_iff.1 h).1
 have e : m.ps = m.ps.take k ++ p :: m.ps.drop (k + 1) := by
  have h1 := List.take_append_drop k m.ps
  rw [List.drop_eq_getElem_cons hk] at h1
  rw [← (List.getElem?_eq_some_iff.1 h).2]
  exact h1.symm
 conv => rhs; rw [e]
 rw [List.flatMap_append, List.flatMap_cons]
 simp only [List.append_assoc]
 congr 1
 rw [← List.append_assoc, List.take_append_drop]
theorem names_lpre (m : Md) (q : Nat) : m.ps.flatMap prNames ++ (m.ls.map Lk.name).take q <+: mdNames m :=
 ⟨(m.ls.map Lk.name).drop q, by unfold mdNames; rw [List.append_assoc, List.take_append_drop]⟩
set_option maxHeartbeats 8000000 in
theorem NamesIt_in (n l Bx E0 : Nat) (m : Md) (C : List ByteArray → World → Prop) (Jx : List ByteArray → World → Prop)
  (hN : ∀ (pre : List ByteArray) (W : World), C pre W → RModel W m ∧ W.cell? ⟨Bx, 1, none⟩ = some (.slice m.pa m.ps.length m.pc) ∧ W.cell? ⟨Bx, 2, none⟩ = some (.slice m.la m.ls.length m.lc))
  (h0k : ∀ (pre : List ByteArray) (W W' : World), C pre W → Kept Nil W W' → C pre W')
  (hY : ∀ (pre : List ByteArray) (x : ByteArray) (W : World), (pre ++ [x]) <+: mdNames m → C pre W → YieldAt Fence.wide (n - 1) Tryz.prog l #[.string x] W (fun e W' =>
   (e = .returned (.bool true) ∧ C (pre ++ [x]) W' ∧ W.heap.size ≤ W'.heap.size ∧ ∀ (b : Nat) (cs : Array Value), E0 ≤ b → W.heap[b]? = some (.cells cs 34 (0, 0)) → W'.heap[b]? = some (.cells cs 34 (0, 0))) ∨ (e = .returned (.bool false) ∧ Jx (pre ++ [x]) W')))
  (hnl : m.ps.length ≤ 100000) (hll : m.ls.length ≤ 100000) (hvl : ∀ p ∈ m.ps, p.vs.length ≤ 100000)
  (W : World) (hE0 : E0 ≤ W.heap.size) (h0 : C [] W) :
  CallsIn Fence.wide n Tryz.prog 83 #[.func (.yield l) #[] #[], .pointer (some ⟨Bx, 0, none⟩)] W fun e W' => (∃ v, e = .returned v) ∧
   (C (mdNames m) W' ∨ (∃ pre, pre <+: mdNames m ∧ Jx pre W')) := by
 have HY := Lib.hid hY
 have HNm := Lib.hid hN
 have H0k := Lib.hid h0k
 have HVL := Lib.hid hvl
 have H0 := Lib.hid h0
 obtain ⟨_, hb1, hb2⟩ := hN _ _ h0
 have hBx : Bx < W.heap.size := World.block_lt_of_cell? _ _ hb1
 clear hY hN h0k hvl h0
 obtain ⟨ver, pa, ps, pc, la, ls, lc, ea, es, ec⟩ := m
 simp only at *
 refine callsIn_of_wp Tryz.func83 rfl trivial ?_ rfl
 simp only [Tryz.ntmps83, List.size_toArray, List.length_cons, List.length_nil, Nat.reduceAdd, Nat.reduceSub, Array.replicate_succ, Array.replicate_zero, List.push_toArray, List.append_toArray, List.nil_append, List.cons_append]
 gi_wp2
 gi_loopw [12] (fun i wr => ∃ k : Nat, k ≤ ps.length ∧ i = .int .i64 k ∧ C ((ps.take k).flatMap prNames) wr ∧ E0 ≤ wr.heap.size) (fun i _ => ps.length - (intOf i).toNat)
 case atStart => exact ⟨0, Nat.zero_le _, rfl, H0.out, hE0⟩
 case round =>
  obtain ⟨k, hk, rfl, hC, hE⟩ := hrel
  have HC := Lib.hid hC
  clear hC hb1 hb2 hBx
  obtain ⟨hM, hb1, hb2⟩ := HNm.out _ _ HC.out
  have HM := Lib.hid hM
  have hBx : Bx < wr.heap.size := World.block_lt_of_cell? _ _ hb1
  clear hM
  by_cases hlt : k < ps.length
  ·obtain ⟨p, ep⟩ : ∃ p, ps[k]? = some p := ⟨_, List.getElem?_eq_getElem hlt⟩
   obtain ⟨b, off, e1, c0, c1, c2, c3⟩ := HM.out.p.at ep
   simp only at e1
   subst e1
   have hbs : b < wr.heap.size := World.block_lt_of_cell? _ _ c0
   have hpv := HVL.out p (List.mem_of_getElem? ep)
   have HPN := Lib.hid (fun q => names_pre (m := ⟨ver, some ⟨b, off, none⟩, ps, pc, la, ls, lc, ea, es, ec⟩) (k := k) (p := p) ep q)
   have HPP := Lib.hid (HM.out.pp p (List.mem_of_getElem? ep))
   have HEP := Lib.hid ep
   clear ep
   have hCa := H0k.out _ _ (wr.alloc (.cells #[.string p.name, .int .i64 p.weight, .slice p.va p.vs.length p.vc, .slice p.sa p.ss.length p.sc] 34)) HC.out ((Kept.refl Nil wr).alloc _)
   obtain ⟨fn, tmps, assign, body, hy, hR⟩ := HY.out ((ps.take k).flatMap prNames) p.name _ (by have := HPN.out 1; simpa [prNames] using this) hCa
   have HRr := Lib.hid hR
   clear hR hCa
   gi_wp2
   refine ⟨(fun h => by cases h), HRr.out.mono ?_⟩
   rintro e W' (⟨rfl, hC', hsz', hkeep⟩ | ⟨rfl, hj⟩)
   ·have hB4 := hkeep wr.heap.size _ hE (heap_new wr _)
    have q2 : W'.cell? ⟨wr.heap.size, 2, none⟩ = some (.slice p.va p.vs.length p.vc) := by rw [cell_of hB4]; rfl
    have HB4 := Lib.hid hB4
    have HC' := Lib.hid hC'
    rw [World.size_alloc] at hsz'
    have hz4 : wr.heap.size < W'.heap.size := by omega
    clear hC' hkeep hB4 hy
    gi_wp2
    clear q2
    gi_loopw [24] (fun i wq => ∃ q : Nat, q ≤ p.vs.length ∧ i = .int .i64 q ∧ C ((ps.take k).flatMap prNames ++ (p.name :: (p.vs.take q).map V.name)) wq ∧ E0 ≤ wq.heap.size) (fun i _ => p.vs.length - (intOf i).toNat)
    case atStart => exact ⟨0, Nat.zero_le _, rfl, HC'.out, by omega⟩
    case round =>
     obtain ⟨q, hq, rfl, hCq, hEq⟩ := hrel
     have HCq := Lib.hid hCq
     clear hCq
     obtain ⟨hMq, -, -⟩ := HNm.out _ _ HCq.out
     have HMq := Lib.hid (hMq.pp p (List.mem_of_getElem? HEP.out))
     clear hMq
     by_cases hlq : q < p.vs.length
     ·obtain ⟨v, ev⟩ : ∃ v, p.vs[q]? = some v := ⟨_, List.getElem?_eq_getElem hlq⟩
      obtain ⟨b3, off3, e3, d0, d1⟩ := HMq.out.v.at ev
      have hbs3 : b3 < wr.heap.size := World.block_lt_of_cell? _ _ d0
      have htk : (p.vs.take (q + 1)).map V.name = (p.vs.take q).map V.name ++ [v.name] := by rw [List.take_add_one, ev, Option.toList_some, List.map_append]; rfl
      have hpre : (ps.take k).flatMap prNames ++ (p.name :: (p.vs.take q).map V.name) ++ [v.name] <+: mdNames ⟨ver, some ⟨b, off, none⟩, ps, pc, la, ls, lc, ea, es, ec⟩ := by
       have h9 := HPN.out (q + 2)
       have e9 : (prNames p).take (q + 2) = p.name :: ((p.vs.take q).map V.name ++ [v.name]) := by rw [← htk]; simp [prNames, List.map_take]
       rw [e9] at h9
       simpa using h9
      have HTK := Lib.hid htk
      have HPRE := Lib.hid hpre
      have HE3 := Lib.hid e3
      have hCa := H0k.out _ _ (wr.alloc (.cells #[.string v.name, .int .i64 v.init] 40)) HCq.out ((Kept.refl Nil wr).alloc _)
      obtain ⟨fn, tmps, assign, body, hy, hR⟩ := HY.out _ v.name _ hpre hCa
      have HRr := Lib.hid hR
      clear ev htk hpre e3 hR hCa
      have e3' := HE3.out
      gi_wp2
      refine ⟨(fun h => by cases h), HRr.out.mono ?_⟩
      rintro e W5 (⟨rfl, hC5, hsz5, -⟩ | ⟨rfl, hj⟩)
      ·have HC5 := Lib.hid hC5
       rw [World.size_alloc] at hsz5
       clear hC5 hy e3'
       gi_wp2
       go_roundw
       case measure => (simp [intOf] <;> omega)
       refine ⟨q + 1, by omega, by go_num, ?_, by omega⟩
       rw [HTK.out]
       have := HC5.out
       simpa using this
      ·have HJ := Lib.hid hj
       clear hj hy e3'
       gi_wp2
       refine bodyPost_ret (results_none rfl _ _ _) rfl ?_
       exact ⟨⟨_, rfl⟩, .inr ⟨_, HPRE.out, HJ.out⟩⟩
     ·obtain rfl : q = p.vs.length := by omega
      have hCk : C ((ps.take (k + 1)).flatMap prNames) wr := by
       have := HCq.out
       rw [List.take_length] at this
       rw [List.take_add_one, HEP.out, Option.toList_some, List.flatMap_append]
       simpa [prNames] using this
      have HCk := Lib.hid hCk
      clear hCk
      gi_wp2
      go_roundw
      case measure => (simp [intOf] <;> omega)
      exact ⟨k + 1, by omega, by go_num, HCk.out, hEq⟩
   ·have HJ := Lib.hid hj
    have HPRE := Lib.hid (show (ps.take k).flatMap prNames ++ [p.name] <+: mdNames ⟨ver, some ⟨b, off, none⟩, ps, pc, la, ls, lc, ea, es, ec⟩ by have := HPN.out 1; simpa [prNames] using this)
    clear hj hy
    gi_wp2
    refine bodyPost_ret (results_none rfl _ _ _) rfl ?_
    exact ⟨⟨_, rfl⟩, .inr ⟨_, HPRE.out, HJ.out⟩⟩
  ·obtain rfl : k = ps.length := by omega
   have hCk := HC.out
   rw [List.take_length] at hCk
   have HCk := Lib.hid hCk
   clear hCk hlt hk
   gi_wp2
   clear hb1 hb2
   gi_loopw [38] (fun i wq => ∃ q : Nat, q ≤ ls.length ∧ i = .int .i64 q ∧ C (ps.flatMap prNames ++ (ls.take q).map Lk.name) wq) (fun i _ => ls.length - (intOf i).toNat)
   case atStart => exact ⟨0, Nat.zero_le _, rfl, by simpa using HCk.out⟩
   case round =>
    obtain ⟨q, hq, rfl, hCq⟩ := hrel
    have HCq := Lib.hid hCq
    clear hCq
    obtain ⟨hMq, -, -⟩ := HNm.out _ _ HCq.out
    have HMq := Lib.hid hMq
    clear hMq
    by_cases hlq : q < ls.length
    ·obtain ⟨v, ev⟩ : ∃ v, ls[q]? = some v := ⟨_, List.getElem?_eq_getElem hlq⟩
     obtain ⟨b3, off3, e3, d0, d1, d2, d3, d4⟩ := HMq.out.l.at ev
     simp only at e3
     subst e3
     have hbs3 : b3 < wr.heap.size := World.block_lt_of_cell? _ _ d0
     have htk : (ls.take (q + 1)).map Lk.name = (ls.take q).map Lk.name ++ [v.name] := by rw [List.take_add_one, ev, Option.toList_some, List.map_append]; rfl
     have hpre : ps.flatMap prNames ++ (ls.take q).map Lk.name ++ [v.name] <+: mdNames ⟨ver, pa, ps, pc, some ⟨b3, off3, none⟩, ls, lc, ea, es, ec⟩ := by
      have h9 := names_lpre ⟨ver, pa, ps, pc, some ⟨b3, off3, none⟩, ls, lc, ea, es, ec⟩ (q + 1)
      simp only at h9
      rw [← List.map_take, htk] at h9
      simpa using h9
     have HTK := Lib.hid htk
     have HPRE := Lib.hid hpre
     have hCa := H0k.out _ _ (wr.alloc (.cells #[.string v.name, .string v.src, .string v.dst, .int .i64 v.delay, .int .i64 v.weight] 42)) HCq.out ((Kept.refl Nil wr).alloc _)
     obtain ⟨fn, tmps, assign, body, hy, hR⟩ := HY.out _ v.name _ hpre hCa
     have HRr := Lib.hid hR
     clear ev htk hpre hR hCa
     gi_wp2
     refine ⟨(fun h => by cases h), HRr.out.mono ?_⟩
     rintro e W5 (⟨rfl, hC5, hsz5, -⟩ | ⟨rfl, hj⟩)
     ·have HC5 := Lib.hid hC5
      clear hC5 hy
      gi_wp2
      go_roundw
      case measure => (simp [intOf] <;> omega)
      refine ⟨q + 1, by omega, by go_num, ?_⟩
      rw [HTK.out]
      have := HC5.out
      simpa using this
     ·have HJ := Lib.hid hj
      clear hj hy
      gi_wp2
      refine bodyPost_ret (results_none rfl _ _ _) rfl ?_
      exact ⟨⟨_, rfl⟩, .inr ⟨_, HPRE.out, HJ.out⟩⟩
    ·obtain rfl : q = ls.length := by omega
     have hCC := HCq.out
     rw [List.take_length] at hCC
     have HCC := Lib.hid hCC
     clear hCC
     gi_wp2
     refine bodyPost_end (results_none rfl _ _ _) rfl ?_
     exact ⟨⟨_, rfl⟩, .inl HCC.out⟩
end Go.Proofs.YtniocgnfgpaioaaGreat.Mo
end
section
namespace Go.Proofs.YtniocgnfgpaioaaGreat.Mo
open Go Go.RowKit Go.Maps Go.Shelf Go.Proofs.YtniocgnfgpaioaaGreat.Lb
attribute [local go_sem] Oper.semAt_some

/-- What holds of the index's blocks between two names. -/
structure IxC (B D l : Nat) (ro : Obj) (w0 : World) (pre : List ByteArray) (W : World) : Prop where
 ix : IxS Tryz.prog 9 3 B pre.length (ixF pre) W
 bo : W.heap[B + 1]? = some (.cells #[.map (some B)] 82 (0, 0))
 bn : W.heap[B + 2]? = some (.cells #[.int .i64 (pre.length : Int)] 3 (0, 0))
 df : W.heap[D]? = some (.deferred (some []))
 lp : W.heap[l]? = some ro
 hB : w0.heap.size = B
 hD : D = B + 3
 hl : l = D + 1
 kept : Kept Nil w0 W
theorem IxC.nil {B D l : Nat} {ro : Obj} {w0 W W' : World} {pre : List ByteArray} (h : IxC B D l ro w0 pre W) (hk : Kept Nil W W') : IxC B D l ro w0 pre W' :=
 ⟨h.ix.nil hk, hk.heap h.bo (fun h => h), hk.heap h.bn (fun h => h), hk.heap h.df (fun h => h), hk.heap h.lp (fun h => h), h.hB, h.hD, h.hl, h.kept.step hk⟩
theorem IxC.put {B D l : Nat} {ro ro' : Obj} {w0 W : World} {pre : List ByteArray} (h : IxC B D l ro w0 pre W) : IxC B D l ro' w0 pre (W.putObj l ro') := by
 have ho : ∀ k, k ≠ l → (W.putObj l ro').heap[k]? = W.heap[k]? := fun k hk => heap_put_other hk
 have h1 := h.hD
 have h2 := h.hl
 have h3 := h.hB
 exact ⟨h.ix.same (ho _ (by omega)), (ho _ (by omega)).trans h.bo, (ho _ (by omega)).trans h.bn, (ho _ (by omega)).trans h.df, heap_put h.lp, h.hB, h.hD, h.hl, h.kept.putObj (.inr (by omega)) _⟩
theorem IxC.step {B D l : Nat} {ro : Obj} {w0 W W5 : World} {pre : List ByteArray} {x : ByteArray} (h : IxC B D l ro w0 pre W) (hix : IxS Tryz.prog 9 3 B (pre.length + 1) (ixF (pre ++ [x])) W5) (hk : Kept (fun i => i = B) W W5) (ro' : Obj) :
  (W5.setCell ⟨B + 1 + 1, 0, none⟩ (.int .i64 ((pre.length : Int) + 1))).heap[l]? = some ro ∧ IxC B D l ro' w0 (pre ++ [x]) ((W5.setCell ⟨B + 1 + 1, 0, none⟩ (.int .i64 ((pre.length : Int) + 1))).putObj l ro') ∧
  W.heap.size ≤ ((W5.setCell ⟨B + 1 + 1, 0, none⟩ (.int .i64 ((pre.length : Int) + 1))).putObj l ro').heap.size ∧
  ∀ (b : Nat) (o : Obj), l + 1 ≤ b → W.heap[b]? = some o → ((W5.setCell ⟨B + 1 + 1, 0, none⟩ (.int .i64 ((pre.length : Int) + 1))).putObj l ro').heap[b]? = some o := by
 have h1 := h.hD
 have h2 := h.hl
 have h3 := h.hB
 obtain ⟨Ws, hWs⟩ : ∃ Ws, W5.setCell ⟨B + 1 + 1, 0, none⟩ (.int .i64 ((pre.length : Int) + 1)) = Ws := ⟨_, rfl⟩
 have ho : ∀ k, k ≠ B + 2 → Ws.heap[k]? = W5.heap[k]? := fun k hk => by rw [← hWs]; exact heap_set_other (p := ⟨B + 1 + 1, 0, none⟩) hk _
 have hlp : Ws.heap[l]? = some ro := (ho l (by omega)).trans (hk.heap h.lp (by omega))
 have hp : ∀ k, k ≠ l → (Ws.putObj l ro').heap[k]? = Ws.heap[k]? := fun k hk => heap_put_other hk
 have hsz : W5.heap.size ≤ (Ws.putObj l ro').heap.size := by rw [← hWs]; simp [World.putObj, World.setCell]
 have hkp : Kept Nil w0 (Ws.putObj l ro') := by
  rw [← hWs]
  have hk0 : Kept Nil w0 W5 := h.kept.trans hk (fun i hi => .inr (by omega))
  exact (hk0.setCell (p := ⟨B + 1 + 1, 0, none⟩) (.inr (by simp only; omega)) _).putObj (.inr (by omega)) _
 rw [hWs]
 refine ⟨hlp, ⟨?_, ?_, ?_, ?_, heap_put hlp, h3, h1, h2, hkp⟩, Nat.le_trans hk.size hsz, fun b o hb ho' => ?_⟩
 ·have := hix.same (W' := Ws.putObj l ro') ((hp B (by omega)).trans (ho B (by omega)))
  simpa using this
 ·exact (hp _ (by omega)).trans ((ho _ (by omega)).trans (hk.heap h.bo (by omega)))
 ·rw [hp _ (by omega), ← hWs]
  have h9 := heap_set (hk.heap h.bn (by omega)) 0 (.int .i64 ((pre.length : Int) + 1))
  rw [show B + 1 + 1 = B + 2 from rfl, h9]
  simp
 ·exact (hp _ (by omega)).trans ((ho _ (by omega)).trans (hk.heap h.df (by omega)))
 ·rw [hp _ (by omega), ho _ (by omega)]
  exact hk.heap ho' (by omega)
set_option maxRecDepth 4000 in
set_option maxHeartbeats 8000000 in
theorem index_is (m : Md) (Bx : Nat) (w : World) (hb1 : w.cell? ⟨Bx, 1, none⟩ = some (.slice m.pa m.ps.length m.pc)) (hb2 : w.cell? ⟨Bx, 2, none⟩ = some (.slice m.la m.ls.length m.lc)) (hm : RModel w m) (hsz : ∀ s ∈ mdNames m, s.size ≤ maxLen) (hnl : m.ps.length ≤ 100000) (hll : m.ls.length ≤ 100000) (hvl : ∀ p ∈ m.ps, p.vs.length ≤ 100000) (hmx : (mdNames m).length ≤ 1000000000) :
  Calls Tryz.prog 48 #[.func (.func 83) #[] #[.pointer (some ⟨Bx, 0, none⟩)]] w fun e w' => e = .returned (.map (some w.heap.size)) ∧ IxS Tryz.prog 9 3 w.heap.size (mdNames m).length (ixF (mdNames m)) w' ∧ Kept Nil w w' := by
 have HM := Lib.hid hm
 have HS := Lib.hid hsz
 have HVL := Lib.hid hvl
 have HB1 := Lib.hid hb1
 have HB2 := Lib.hid hb2
 have hBx : Bx < w.heap.size := World.block_lt_of_cell? _ _ hb1
 clear hm hsz hvl hb1 hb2
 obtain ⟨nn, hnn⟩ : ∃ nn : Nat, nn = nn := ⟨0, rfl⟩
 refine (callsIn_wide (n := nn)).1 ?_
 clear hnn
 refine callsIn_of_wp_marks Tryz.func48 rfl trivial ?_ rfl
 simp only [Tryz.ntmps48, List.size_toArray, List.length_cons, List.length_nil, Nat.reduceAdd, Nat.reduceSub, Array.replicate_succ, Array.replicate_zero, List.push_toArray, List.append_toArray, List.nil_append, List.cons_append]
 have hmm := @run_makeMap Tryz.prog
 gi_wp2_with fail
 obtain ⟨W1, hW1⟩ : ∃ W1, ((w.alloc (.map #[] 0)).alloc (.cells #[.map (some w.heap.size)] 82)).alloc (.cells #[.int .i64 0] 3) = W1 := ⟨_, rfl⟩
 rw [hW1]
 have hs1 : W1.heap.size = w.heap.size + 3 := by rw [← hW1]; simp
 have hk1 : Kept Nil w W1 := by rw [← hW1]; exact (((Kept.refl Nil w).alloc _).alloc _).alloc _
 have h0 : IxS Tryz.prog 9 3 w.heap.size 0 (ixF []) W1 := by
  rw [← hW1]
  exact ((IxS.made w _ _ _).congr (fun t => rfl)).nil (((Kept.refl Nil _).alloc _).alloc _)
 have h1 : W1.heap[w.heap.size + 1]? = some (.cells #[.map (some w.heap.size)] 82 (0, 0)) := by
  rw [← hW1, heap_old _ _ (by simp only [World.size_alloc]; omega)]
  have h9 := heap_new (w.alloc (.map #[] 0)) (.cells #[.map (some w.heap.size)] 82)
  rw [World.size_alloc] at h9
  exact h9
 have h2 : W1.heap[w.heap.size + 2]? = some (.cells #[.int .i64 0] 3 (0, 0)) := by
  rw [← hW1]
  have h9 := heap_new ((w.alloc (.map #[] 0)).alloc (.cells #[.map (some w.heap.size)] 82)) (.cells #[.int .i64 0] 3)
  simp only [World.size_alloc] at h9
  exact h9
 have H0 := Lib.hid h0
 have H1 := Lib.hid h1
 have H2 := Lib.hid h2
 have HK1 := Lib.hid hk1
 have HS1 := Lib.hid hs1
 clear hW1 h0 h1 h2 hk1 hmm hs1
 refine range_stmt' rfl (fun h => by cases h) (gf := 83) (lb := #[.pointer (some ⟨Bx, 0, none⟩)]) rfl trivial (enters_of Tryz.func83 (by kernel_rfl) rfl) ?_
 intro fn ro _ hro
 have HRO := Lib.hid hro
 clear hro
 refine (NamesIt_in (nn - 1) (W1.heap.size + 1) Bx (W1.heap.size + 2) m
  (fun pre W => IxC w.heap.size W1.heap.size (W1.heap.size + 1) (.loop (ro .ready none)) w pre W) (fun _ _ => False)
  ?_ ?_ ?_ hnl hll HVL.out _ (by simp) ?_).mono ?_
 case refine_1 => exact fun pre W h => ⟨HM.out.nil h.kept, h.kept.cell HB1.out (fun h => h), h.kept.cell HB2.out (fun h => h)⟩
 case refine_2 => exact fun pre W W' h hk => h.nil hk
 case refine_4 =>
  have hk2 : Kept Nil W1 ((W1.alloc (.deferred (some []))).alloc (.loop (ro .ready none))) := ((Kept.refl Nil W1).alloc _).alloc _
  refine ⟨H0.out.nil hk2, hk2.heap H1.out (fun h => h), hk2.heap H2.out (fun h => h), ?_, ?_, rfl, HS1.out, rfl, HK1.out.step hk2⟩
  ·exact (heap_old (W1.alloc (.deferred (some []))) (.loop (ro .ready none)) (k := W1.heap.size) (by simp)).trans (heap_new W1 _)
  ·have := heap_new (W1.alloc (.deferred (some []))) (.loop (ro .ready none))
   rw [World.size_alloc] at this
   exact this
 case refine_3 =>
  intro pre x W hpre hC
  have HC := Lib.hid hC
  have HPRE := Lib.hid hpre
  have hlen : pre.length + 1 ≤ 1000000000 := by
   have h9 := hpre.length_le
   rw [List.length_append] at h9
   simp only [List.length_cons, List.length_nil] at h9
   omega
  have hx : x.size ≤ maxLen := HS.out x (hpre.subset (by simp))
  have HX := Lib.hid hx
  have HWF := Lib.hid (show (Lit.int .i64 (pre.length : Int)).wf = true by simp only [Lit.wf, Bool.and_eq_true, decide_eq_true_eq]; exact ⟨by first | (simp [IntKind.min, IntKind.bits, IntKind.signed]; done) | (simp [IntKind.min, IntKind.bits, IntKind.signed]; omega), by first | (simp [IntKind.max, IntKind.bits, IntKind.signed]; done) | (simp [IntKind.max, IntKind.bits, IntKind.signed]; omega)⟩)
  refine yield_round' HRO.out trivial hC.lp rfl ?_
  clear hC hpre hx
  simp only [List.zip_toArray, List.zip_cons_cons, List.zip_nil_left, List.zip_nil_right, List.foldl_toArray, List.foldl_cons, List.foldl_nil, List.setIfInBounds_toArray, List.set_cons_succ, List.set_cons_zero, List.size_toArray, List.length_cons, List.length_nil]
  gi_wp2_with fail
  refine ⟨HC.out.lp, ?_⟩
  have hCb := HC.out.put (ro' := .loop (ro .busy none))
  obtain ⟨Wb, hWb⟩ : ∃ Wb, W.putObj (W1.heap.size + 1) (.loop (ro .busy none)) = Wb := ⟨_, rfl⟩
  rw [hWb] at hCb ⊢
  have HCB := Lib.hid hCb
  have cb : Wb.cell? ⟨w.heap.size + 1, 0, none⟩ = some (.map (some w.heap.size)) := by rw [cell_of hCb.bo]; rfl
  have cn : Wb.cell? ⟨w.heap.size + 1 + 1, 0, none⟩ = some (.int .i64 (pre.length : Int)) := by rw [show w.heap.size + 1 + 1 = w.heap.size + 2 from rfl, cell_of hCb.bn]; rfl
  have fn0 : Wb.frozen? ⟨w.heap.size + 1 + 1, 0, none⟩ = false := frozen_of hCb.bn 0
  have hBs : w.heap.size < Wb.heap.size := by have := (Array.getElem?_eq_some_iff.1 hCb.bo).1; omega
  have hwb : ∀ b, b ≠ W1.heap.size + 1 → Wb.heap[b]? = W.heap[b]? := fun b hb => by rw [← hWb]; exact heap_put_other hb
  have hws : Wb.heap.size = W.heap.size := by rw [← hWb]; simp [World.putObj]
  have HWB := Lib.hid hwb
  have HWS := Lib.hid hws
  clear hWb hCb hwb hws
  rcases hix : ixF pre x.data.toList with _ | nx
  ·have hlook : (Instr.lookup 82 (.map (some w.heap.size)) (.string x) true).run Tryz.prog Wb = .ok (.tuple #[.int .i64 0, .bool false]) Wb := by
    rw [HCB.out.ix.lookOk Tryz.underlying9 Tryz.underlying3 Tryz.underlying82 (fun w => by kernel_rfl) x HX.out, hix]; rfl
   have HIX := Lib.hid hix
   clear hix
   obtain ⟨D, hD, hE⟩ := HCB.out.ix.own
   have HD := Lib.hid hD
   have HE := Lib.hid hE
   clear hD hE
   gi_wp2_with (gi_at_mapUpdate; refine wpListIn_mapUpdate_own _ rfl _ _ _ 82 rfl 9 3 (string_keyed Tryz.underlying9) Tryz.underlying82 _ w.heap.size pre.length D rfl HD.out (by unfold maxLen; omega) _ _ _ rfl rfl (show keyOf Tryz.prog 9 (.string x) = some (.string x.data.toList) by simp [keyOf, Tryz.underlying9, mapKey, HX.out]) _ [] (plainElem_int Tryz.underlying3 HWF.out) ?_; intro w5 hown5 hgrow5; have q2 : w5.heap[w.heap.size + 2]? = some (.cells #[.int .i64 (pre.length : Int)] 3 (0, 0)) := (hgrow5.block _ (Array.getElem?_eq_some_iff.1 HCB.out.bn).1 (fun e => by have := Option.some.inj e; omega)).trans HCB.out.bn; have cn5 : w5.cell? ⟨w.heap.size + 1 + 1, 0, none⟩ = some (.int .i64 (pre.length : Int)) := (by rw [show w.heap.size + 1 + 1 = w.heap.size + 2 from rfl, cell_of q2]; rfl); have fn5 : w5.frozen? ⟨w.heap.size + 1 + 1, 0, none⟩ = false := frozen_of q2 0; have HO5 := Lib.hid hown5; have HG5 := Lib.hid hgrow5; have HQ2 := Lib.hid q2; clear hown5 hgrow5 q2)
   have hix2 : IxS Tryz.prog 9 3 w.heap.size (pre.length + 1) (ixF (pre ++ [x])) w5 :=
    (IxS.put HD.out.isMap HE.out _ _ HO5.out).congr (fun t => by rw [ixF_snoc, show ky x = x.data.toList from rfl, HIX.out]; simp)
   obtain ⟨r1, r2, r3, r4⟩ := HCB.out.step hix2 (Kept.grown (Kept.refl (fun i => i = w.heap.size) Wb) HG5.out (fun j e => .inl (by cases e; rfl))) (.loop (ro .ready none))
   exact ⟨r1, rfl, r2, by rw [← HWS.out]; exact r3, fun b cs hb hcs => r4 b _ hb ((HWB.out b (by omega)).trans hcs)⟩
  ·have hlook : (Instr.lookup 82 (.map (some w.heap.size)) (.string x) true).run Tryz.prog Wb = .ok (.tuple #[.int .i64 nx, .bool true]) Wb := by
    rw [HCB.out.ix.lookOk Tryz.underlying9 Tryz.underlying3 Tryz.underlying82 (fun w => by kernel_rfl) x HX.out, hix]; rfl
   have HIX := Lib.hid hix
   clear hix
   gi_wp2
   have hix2 : IxS Tryz.prog 9 3 w.heap.size (pre.length + 1) (ixF (pre ++ [x])) Wb :=
    (HCB.out.ix.weak (Nat.le_succ _)).congr (fun t => by rw [ixF_snoc, show ky x = x.data.toList from rfl, HIX.out]; simp)
   obtain ⟨r1, r2, r3, r4⟩ := HCB.out.step hix2 (Kept.refl _ Wb) (.loop (ro .ready none))
   exact ⟨r1, rfl, r2, by rw [← HWS.out]; exact r3, fun b cs hb hcs => r4 b _ hb ((HWB.out b (by omega)).trans hcs)⟩
 rintro e W' ⟨⟨u, rfl⟩, hC | ⟨pre, hpre, hf⟩⟩
 ·have HC := Lib.hid hC
  clear hC
  refine ⟨⟨u, rfl⟩, .inl ⟨HC.out.lp, ?_⟩⟩
  have hC2 := HC.out.put (ro' := .loop (ro .exhausted none))
  obtain ⟨W6, hW6⟩ : ∃ W6, W'.putObj (W1.heap.size + 1) (.loop (ro .exhausted none)) = W6 := ⟨_, rfl⟩
  rw [hW6] at hC2 ⊢
  have cb : W6.cell? ⟨w.heap.size + 1, 0, none⟩ = some (.map (some w.heap.size)) := by rw [cell_of hC2.bo]; rfl
  have HC2 := Lib.hid hC2
  clear hW6 hC2
  gi_wp2
  refine ⟨by simp, .inl ⟨_, _, rfl, run_takeDeferred HC2.out.df, ?_⟩⟩
  refine ⟨.map (some w.heap.size), by simp [results, Tryz.results48, go_sem], rfl, ?_, ?_⟩
  ·exact HC2.out.ix.same (heap_put_other (by have := HC2.out.hD; omega))
  ·exact HC2.out.kept.putObj (.inr (by have := HC2.out.hD; omega)) _
 ·exact hf.elim
end Go.Proofs.YtniocgnfgpaioaaGreat.Mo
end
