/- The walk of model.Names' iterator. -/
import Derived.Test.YthgbahlkflmgiaaCkBare
import Derived.Test.YthgbahlkflmgiaaRange
import Derived.Test.YthgbahlkflmgiaaColl
import Derived.Maps.OwnIn
namespace Go.Proofs.Ythgbahlkflmgiaa.Mo
open Go Go.RowKit Go.Maps Go.Proofs.Ythgbahlkflmgiaa.Lb
set_option linter.unusedVariables false
set_option linter.unusedSimpArgs false
attribute [local go_sem] Oper.semAt_some

theorem names_pre {m : Md} {k : Nat} {p : Pr} (h : m.ps[k]? = some p) (q : Nat) : (m.ps.take k).flatMap prNames ++ (prNames p).take q <+: mdNames m := by
  refine ⟨(prNames p).drop q ++ ((m.ps.drop (k + 1)).flatMap prNames ++ m.ls.map Lk.name), ?_⟩
  unfold mdNames
  have hk := (List.getElem?_eq_some_iff.1 h).1
  have e : m.ps = m.ps.take k ++ p :: m.ps.drop (k + 1) := by
    have h1 := List.take_append_drop k m.ps
    rw [List.drop_eq_getElem_cons hk] at h1
    rw [← (List.getElem?_eq_some_iff.1 h).2]
    exact h1.symm
  conv => rhs; rw [e]
  rw [List.flatMap_append, List.flatMap_cons]
  simp only [List.append_assoc]
  congr 1
  rw [← List.append_assoc, List.take_append_drop]
theorem names_lpre (m : Md) (q : Nat) : m.ps.flatMap prNames ++ (m.ls.map Lk.name).take q <+: mdNames m :=
  ⟨(m.ls.map Lk.name).drop q, by unfold mdNames; rw [List.append_assoc, List.take_append_drop]⟩
set_option maxHeartbeats 8000000 in
theorem NamesIt_in (n l Bx E0 : Nat) (m : Md) (C : List ByteArray → World → Prop) (Jx : List ByteArray → World → Prop)
    (hN : ∀ (pre : List ByteArray) (W : World), C pre W → RModel W m ∧ W.cell? ⟨Bx, 1, none⟩ = some (.slice m.pa m.ps.length m.pc) ∧ W.cell? ⟨Bx, 2, none⟩ = some (.slice m.la m.ls.length m.lc))
    (h0k : ∀ (pre : List ByteArray) (W W' : World), C pre W → Kept Nil W W' → C pre W')
    (hY : ∀ (pre : List ByteArray) (x : ByteArray) (W : World), (pre ++ [x]) <+: mdNames m → C pre W → YieldAt Fence.wide (n - 1) Try.prog l #[.string x] W (fun e W' =>
      (e = .returned (.bool true) ∧ C (pre ++ [x]) W' ∧ W.heap.size ≤ W'.heap.size ∧ ∀ (b : Nat) (cs : Array Value), E0 ≤ b → W.heap[b]? = some (.cells cs 52 (0, 0)) → W'.heap[b]? = some (.cells cs 52 (0, 0))) ∨ (e = .returned (.bool false) ∧ Jx (pre ++ [x]) W')))
    (hnl : m.ps.length ≤ 100000) (hll : m.ls.length ≤ 100000) (hvl : ∀ p ∈ m.ps, p.vs.length ≤ 100000)
    (W : World) (hE0 : E0 ≤ W.heap.size) (h0 : C [] W) :
    CallsIn Fence.wide n Try.prog 52 #[.func (.yield l) #[] #[], .pointer (some ⟨Bx, 0, none⟩)] W fun e W' => (∃ v, e = .returned v) ∧
      (C (mdNames m) W' ∨ (∃ pre, pre <+: mdNames m ∧ Jx pre W')) := by
  have HY := Lib.hid hY
  have HNm := Lib.hid hN
  have H0k := Lib.hid h0k
  have HVL := Lib.hid hvl
  have H0 := Lib.hid h0
  obtain ⟨_, hb1, hb2⟩ := hN _ _ h0
  have hBx : Bx < W.heap.size := World.block_lt_of_cell? _ _ hb1
  clear hY hN h0k hvl h0
  obtain ⟨ver, pa, ps, pc, la, ls, lc, ea, es, ec⟩ := m
  simp only at *
  refine callsIn_of_wp Try.func52 rfl trivial ?_ rfl
  simp only [Try.ntmps52, List.size_toArray, List.length_cons, List.length_nil, Nat.reduceAdd, Nat.reduceSub, Array.replicate_succ, Array.replicate_zero, List.push_toArray, List.append_toArray, List.nil_append, List.cons_append]
  gi_wp2
  gi_loopw [12] (fun i wr => ∃ k : Nat, k ≤ ps.length ∧ i = .int .i64 k ∧ C ((ps.take k).flatMap prNames) wr ∧ E0 ≤ wr.heap.size) (fun i _ => ps.length - (intOf i).toNat)
  case atStart => exact ⟨0, Nat.zero_le _, rfl, H0.out, hE0⟩
  case round =>
    obtain ⟨k, hk, rfl, hC, hE⟩ := hrel
    have HC := Lib.hid hC
    clear hC hb1 hb2 hBx
    obtain ⟨hM, hb1, hb2⟩ := HNm.out _ _ HC.out
    have HM := Lib.hid hM
    have hBx : Bx < wr.heap.size := World.block_lt_of_cell? _ _ hb1
    clear hM
    by_cases hlt : k < ps.length
    · obtain ⟨p, ep⟩ : ∃ p, ps[k]? = some p := ⟨_, List.getElem?_eq_getElem hlt⟩
      obtain ⟨b, off, e1, c0, c1, c2, c3⟩ := HM.out.p.at ep
      simp only at e1
      subst e1
      have hbs : b < wr.heap.size := World.block_lt_of_cell? _ _ c0
      have hpv := HVL.out p (List.mem_of_getElem? ep)
      have HPN := Lib.hid (fun q => names_pre (m := ⟨ver, some ⟨b, off, none⟩, ps, pc, la, ls, lc, ea, es, ec⟩) (k := k) (p := p) ep q)
      have HPP := Lib.hid (HM.out.pp p (List.mem_of_getElem? ep))
      have HEP := Lib.hid ep
      clear ep
      have hCa := H0k.out _ _ (wr.alloc (.cells #[.string p.name, .int .i64 p.weight, .slice p.va p.vs.length p.vc, .slice p.sa p.ss.length p.sc] 52)) HC.out ((Kept.refl Nil wr).alloc _)
      obtain ⟨fn, tmps, assign, body, hy, hR⟩ := HY.out ((ps.take k).flatMap prNames) p.name _ (by have := HPN.out 1; simpa [prNames] using this) hCa
      have HRr := Lib.hid hR
      clear hR hCa
      gi_wp2
      refine ⟨(fun h => by cases h), HRr.out.mono ?_⟩
      rintro e W' (⟨rfl, hC', hsz', hkeep⟩ | ⟨rfl, hj⟩)
      · have hB4 := hkeep wr.heap.size _ hE (heap_new wr _)
        have q2 : W'.cell? ⟨wr.heap.size, 2, none⟩ = some (.slice p.va p.vs.length p.vc) := by rw [cell_of hB4]; rfl
        have HB4 := Lib.hid hB4
        have HC' := Lib.hid hC'
        rw [World.size_alloc] at hsz'
        have hz4 : wr.heap.size < W'.heap.size := by omega
        clear hC' hkeep hB4 hy
        gi_wp2
        clear q2
        gi_loopw [24] (fun i wq => ∃ q : Nat, q ≤ p.vs.length ∧ i = .int .i64 q ∧ C ((ps.take k).flatMap prNames ++ (p.name :: (p.vs.take q).map V.name)) wq ∧ E0 ≤ wq.heap.size) (fun i _ => p.vs.length - (intOf i).toNat)
        case atStart => exact ⟨0, Nat.zero_le _, rfl, HC'.out, by omega⟩
        case round =>
          obtain ⟨q, hq, rfl, hCq, hEq⟩ := hrel
          have HCq := Lib.hid hCq
          clear hCq
          obtain ⟨hMq, -, -⟩ := HNm.out _ _ HCq.out
          have HMq := Lib.hid (hMq.pp p (List.mem_of_getElem? HEP.out))
          clear hMq
          by_cases hlq : q < p.vs.length
          · obtain ⟨v, ev⟩ : ∃ v, p.vs[q]? = some v := ⟨_, List.getElem?_eq_getElem hlq⟩
            obtain ⟨b3, off3, e3, d0, d1⟩ := HMq.out.v.at ev
            have hbs3 : b3 < wr.heap.size := World.block_lt_of_cell? _ _ d0
            have htk : (p.vs.take (q + 1)).map V.name = (p.vs.take q).map V.name ++ [v.name] := by rw [List.take_add_one, ev, Option.toList_some, List.map_append]; rfl
            have hpre : (ps.take k).flatMap prNames ++ (p.name :: (p.vs.take q).map V.name) ++ [v.name] <+: mdNames ⟨ver, some ⟨b, off, none⟩, ps, pc, la, ls, lc, ea, es, ec⟩ := by
              have h9 := HPN.out (q + 2)
              have e9 : (prNames p).take (q + 2) = p.name :: ((p.vs.take q).map V.name ++ [v.name]) := by rw [← htk]; simp [prNames, List.map_take]
              rw [e9] at h9
              simpa using h9
            have HTK := Lib.hid htk
            have HPRE := Lib.hid hpre
            have HE3 := Lib.hid e3
            have hCa := H0k.out _ _ (wr.alloc (.cells #[.string v.name, .int .i64 v.init] 80)) HCq.out ((Kept.refl Nil wr).alloc _)
            obtain ⟨fn, tmps, assign, body, hy, hR⟩ := HY.out _ v.name _ hpre hCa
            have HRr := Lib.hid hR
            clear ev htk hpre e3 hR hCa
            have e3' := HE3.out
            gi_wp2
            refine ⟨(fun h => by cases h), HRr.out.mono ?_⟩
            rintro e W5 (⟨rfl, hC5, hsz5, -⟩ | ⟨rfl, hj⟩)
            · have HC5 := Lib.hid hC5
              rw [World.size_alloc] at hsz5
              clear hC5 hy e3'
              gi_wp2
              go_roundw
              case measure => (simp [intOf] <;> omega)
              refine ⟨q + 1, by omega, by go_num, ?_, by omega⟩
              rw [HTK.out]
              have := HC5.out
              simpa using this
            · have HJ := Lib.hid hj
              clear hj hy e3'
              gi_wp2
              refine bodyPost_ret (results_none rfl _ _ _) rfl ?_
              exact ⟨⟨_, rfl⟩, .inr ⟨_, HPRE.out, HJ.out⟩⟩
          · obtain rfl : q = p.vs.length := by omega
            have hCk : C ((ps.take (k + 1)).flatMap prNames) wr := by
              have := HCq.out
              rw [List.take_length] at this
              rw [List.take_add_one, HEP.out, Option.toList_some, List.flatMap_append]
              simpa [prNames] using this
            have HCk := Lib.hid hCk
            clear hCk
            gi_wp2
            go_roundw
            case measure => (simp [intOf] <;> omega)
            exact ⟨k + 1, by omega, by go_num, HCk.out, hEq⟩
      · have HJ := Lib.hid hj
        have HPRE := Lib.hid (show (ps.take k).flatMap prNames ++ [p.name] <+: mdNames ⟨ver, some ⟨b, off, none⟩, ps, pc, la, ls, lc, ea, es, ec⟩ by have := HPN.out 1; simpa [prNames] using this)
        clear hj hy
        gi_wp2
        refine bodyPost_ret (results_none rfl _ _ _) rfl ?_
        exact ⟨⟨_, rfl⟩, .inr ⟨_, HPRE.out, HJ.out⟩⟩
    · obtain rfl : k = ps.length := by omega
      have hCk := HC.out
      rw [List.take_length] at hCk
      have HCk := Lib.hid hCk
      clear hCk hlt hk
      gi_wp2
      clear hb1 hb2
      gi_loopw [38] (fun i wq => ∃ q : Nat, q ≤ ls.length ∧ i = .int .i64 q ∧ C (ps.flatMap prNames ++ (ls.take q).map Lk.name) wq) (fun i _ => ls.length - (intOf i).toNat)
      case atStart => exact ⟨0, Nat.zero_le _, rfl, by simpa using HCk.out⟩
      case round =>
        obtain ⟨q, hq, rfl, hCq⟩ := hrel
        have HCq := Lib.hid hCq
        clear hCq
        obtain ⟨hMq, -, -⟩ := HNm.out _ _ HCq.out
        have HMq := Lib.hid hMq
        clear hMq
        by_cases hlq : q < ls.length
        · obtain ⟨v, ev⟩ : ∃ v, ls[q]? = some v := ⟨_, List.getElem?_eq_getElem hlq⟩
          obtain ⟨b3, off3, e3, d0, d1, d2, d3, d4⟩ := HMq.out.l.at ev
          simp only at e3
          subst e3
          have hbs3 : b3 < wr.heap.size := World.block_lt_of_cell? _ _ d0
          have htk : (ls.take (q + 1)).map Lk.name = (ls.take q).map Lk.name ++ [v.name] := by rw [List.take_add_one, ev, Option.toList_some, List.map_append]; rfl
          have hpre : ps.flatMap prNames ++ (ls.take q).map Lk.name ++ [v.name] <+: mdNames ⟨ver, pa, ps, pc, some ⟨b3, off3, none⟩, ls, lc, ea, es, ec⟩ := by
            have h9 := names_lpre ⟨ver, pa, ps, pc, some ⟨b3, off3, none⟩, ls, lc, ea, es, ec⟩ (q + 1)
            simp only at h9
            rw [← List.map_take, htk] at h9
            simpa using h9
          have HTK := Lib.hid htk
          have HPRE := Lib.hid hpre
          have hCa := H0k.out _ _ (wr.alloc (.cells #[.string v.name, .string v.src, .string v.dst, .int .i64 v.delay, .int .i64 v.weight] 48)) HCq.out ((Kept.refl Nil wr).alloc _)
          obtain ⟨fn, tmps, assign, body, hy, hR⟩ := HY.out _ v.name _ hpre hCa
          have HRr := Lib.hid hR
          clear ev htk hpre hR hCa
          gi_wp2
          refine ⟨(fun h => by cases h), HRr.out.mono ?_⟩
          rintro e W5 (⟨rfl, hC5, hsz5, -⟩ | ⟨rfl, hj⟩)
          · have HC5 := Lib.hid hC5
            clear hC5 hy
            gi_wp2
            go_roundw
            case measure => (simp [intOf] <;> omega)
            refine ⟨q + 1, by omega, by go_num, ?_⟩
            rw [HTK.out]
            have := HC5.out
            simpa using this
          · have HJ := Lib.hid hj
            clear hj hy
            gi_wp2
            refine bodyPost_ret (results_none rfl _ _ _) rfl ?_
            exact ⟨⟨_, rfl⟩, .inr ⟨_, HPRE.out, HJ.out⟩⟩
        · obtain rfl : q = ls.length := by omega
          have hCC := HCq.out
          rw [List.take_length] at hCC
          have HCC := Lib.hid hCC
          clear hCC
          gi_wp2
          refine bodyPost_end (results_none rfl _ _ _) rfl ?_
          exact ⟨⟨_, rfl⟩, .inl HCC.out⟩
end Go.Proofs.Ythgbahlkflmgiaa.Mo
