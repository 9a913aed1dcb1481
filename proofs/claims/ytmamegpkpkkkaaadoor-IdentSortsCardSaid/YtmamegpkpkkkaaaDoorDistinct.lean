/- The walk of ident.Distinct and of its iterator. -/
import Derived.Test.YtmamegpkpkkkaaaDoorSeenS
import Derived.Test.YtmamegpkpkkkaaaDoorBasics
import Derived.Test.YtmamegpkpkkkaaaDoorRange
import Derived.Test.YtmamegpkpkkkaaaDoorColl
import Derived.Maps.OwnIn
import Derived.Test.YtmamegpkpkkkaaaDoorProg
import Derived.WalkKit
import Derived.WalkSpells
import Derived.WalkLawsBesides
import Derived.IntWalk
import Derived.BigRegion
import Derived.RegionTactic
import Derived.LoopTactic
import Derived.BigQuiet
namespace Go.Proofs.YtmamegpkpkkkaaaDoor.Mo
open Go Go.RowKit Go.Maps Go.Proofs.YtmamegpkpkkkaaaDoor.Lb
set_option linter.unusedVariables false
set_option linter.unusedSimpArgs false
attribute [local go_sem] Oper.semAt_some

theorem Distinct_is (A : Option Addr) (n c : Nat) (w : World) : Calls Tryd.prog 25 #[.slice A n c] w fun e w' => e = .returned (.func (.func 27) #[] #[.pointer (some ⟨w.heap.size, 0, none⟩)]) ∧ w' = w.alloc (.cells #[.slice A n c] 22) := by
  go_enter Tryd.func25, Tryd.ntmps25
  go_wp2
  go_ret
  exact ⟨rfl, rfl⟩
set_option maxHeartbeats 4000000 in
theorem Distinct1_in (n l Bx cap E0 : Nat) (A : Option Addr) (names : List ByteArray) (C : List ByteArray → World → Prop) (Jx : List ByteArray → World → Prop)
    (hN : ∀ (pre : List ByteArray) (W : World), C pre W → RStrs W A names)
    (h0k : ∀ (pre : List ByteArray) (W W' : World), C pre W → Kept Nil W W' → C pre W')
    (hMk : ∀ (pre : List ByteArray) (W W' : World) (mb : Nat) (es : Array MapEntry) (clk : Nat), C pre W → E0 ≤ mb → W.heap[mb]? = some (Obj.map es clk) → Kept (fun i => i = mb) W W' → C pre W')
    (hY : ∀ (pre : List ByteArray) (x : ByteArray) (W : World) (mb : Nat) (es : Array MapEntry) (clk : Nat), (pre ++ [x]) <+: dist names → C pre W → E0 ≤ mb → W.heap[mb]? = some (Obj.map es clk) → YieldAt Fence.wide (n - 1) Tryd.prog l #[.string x] W (fun e W' =>
      (e = .returned (.bool true) ∧ C (pre ++ [x]) W' ∧ W'.heap[mb]? = W.heap[mb]?) ∨ (e = .returned (.bool false) ∧ Jx (pre ++ [x]) W')))
    (hs : ∀ s ∈ names, s.size ≤ maxLen) (hnl : names.length ≤ 100000)
    (W : World) (hE0 : E0 ≤ W.heap.size) (hb : W.cell? ⟨Bx, 0, none⟩ = some (.slice A names.length cap)) (h0 : C [] W) :
    CallsIn Fence.wide n Tryd.prog 27 #[.func (.yield l) #[] #[], .pointer (some ⟨Bx, 0, none⟩)] W fun e W' => (∃ v, e = .returned v) ∧
      (C (dist names) W' ∨ (∃ pre, pre <+: dist names ∧ Jx pre W')) := by
  have HY := Lib.hid hY
  have HNm := Lib.hid hN
  have H0k := Lib.hid h0k
  have HMk := Lib.hid hMk
  have HS := Lib.hid hs
  have H0 := Lib.hid h0
  have hBx : Bx < W.heap.size := World.block_lt_of_cell? _ _ hb
  clear hY hN h0k hMk hs h0
  refine callsIn_of_wp Tryd.func27 rfl trivial ?_ rfl
  simp only [Tryd.ntmps27, List.size_toArray, List.length_cons, List.length_nil, Nat.reduceAdd, Nat.reduceSub, Array.replicate_succ, Array.replicate_zero, List.push_toArray, List.append_toArray, List.nil_append, List.cons_append]
  have hmm := @run_makeMap Tryd.prog
  gi_wp2
  have hS0 : SeenS Tryd.prog 9 4 W.heap.size 0 [] (W.alloc (.map #[] 0)) := SeenS.made W _ _ _
  have HS0 := Lib.hid hS0
  clear hS0 hmm
  gi_loopw [9] (fun i wr => ∃ k : Nat, k ≤ names.length ∧ i = .int .i64 k ∧ C (dist (names.take k)) wr ∧ SeenS Tryd.prog 9 4 W.heap.size k ((names.take k).map ky) wr) (fun i _ => names.length - (intOf i).toNat)
  case atStart => exact ⟨0, Nat.zero_le _, rfl, H0k.out _ _ _ H0.out ((Kept.refl Nil W).alloc _), HS0.out⟩
  case round =>
    obtain ⟨k, hk, rfl, hC, hS⟩ := hrel
    have HC := Lib.hid hC
    have HSe := Lib.hid hS
    clear hC hS hb
    by_cases hlt : k < names.length
    · obtain ⟨s, es'⟩ : ∃ s, names[k]? = some s := ⟨_, List.getElem?_eq_getElem hlt⟩
      obtain ⟨b, off, rfl, c0⟩ := (HNm.out _ _ HC.out).at es'
      have hss := HS.out s (List.mem_of_getElem? es')
      have hlook := HSe.out.look (T := 47) Tryd.underlying9 Tryd.underlying4 Tryd.underlying47 (fun w => by kernel_rfl) s hss
      have HES := Lib.hid es'
      have HSS := Lib.hid hss
      have htk : names.take (k + 1) = names.take k ++ [s] := by rw [List.take_add_one, es', Option.toList_some]
      have HTK := Lib.hid htk
      clear es' hss htk
      by_cases hin : ky s ∈ (names.take k).map ky
      · have hd : decide (s.data.toList ∈ (names.take k).map ky) = true := decide_eq_true hin
        rw [hd] at hlook
        obtain ⟨D, hD, hE⟩ := HSe.out.own
        have HD := Lib.hid hD
        have HE := Lib.hid hE
        have HIN := Lib.hid hin
        clear hd hD hE hin
        have hds : dist (names.take (k + 1)) = dist (names.take k) := by
          rw [HTK.out, dist_snoc, dstep, if_pos ((dist_mem _ _).2 HIN.out)]
        have HDS := Lib.hid hds
        clear hds
        gi_wp2_with fail
        refine ⟨(fun _ h => by cases h), ?_⟩
        gi_wp2_with (gi_at_mapUpdate; refine wpListIn_mapUpdate_own _ rfl _ _ _ 47 rfl 9 4 (string_keyed Tryd.underlying9) Tryd.underlying47 _ W.heap.size k D rfl HD.out (by unfold maxLen; omega) _ _ _ rfl rfl (show keyOf Tryd.prog 9 (.string s) = some (.string s.data.toList) by simp [keyOf, Tryd.underlying9, mapKey, HSS.out]) _ [] (plainElem_bool Tryd.underlying4 true) ?_; intro w5 hown5 hgrow5)
        have hk5 : Kept (fun i => i = W.heap.size) wr w5 := Kept.grown (Kept.refl _ wr) hgrow5 (fun j e => .inl (by cases e; rfl))
        obtain ⟨es, clk, hmb⟩ := HSe.out.block
        go_roundw
        case measure => (simp [intOf] <;> omega)
        refine ⟨k + 1, by omega, by go_num, by rw [HDS.out]; exact HMk.out _ _ _ _ _ _ HC.out hE0 hmb hk5, ?_⟩
        rw [HTK.out, List.map_append]
        exact SeenS.put HD.out.isMap HE.out _ hown5
      · have hd : decide (s.data.toList ∈ (names.take k).map ky) = false := decide_eq_false hin
        rw [hd] at hlook
        have hds : dist (names.take (k + 1)) = dist (names.take k) ++ [s] := by
          rw [HTK.out, dist_snoc, dstep, if_neg (fun h => hin ((dist_mem _ _).1 h))]
        have hpre : dist (names.take k) ++ [s] <+: dist names := by rw [← hds]; exact dist_take names (k + 1)
        obtain ⟨es, clk, hmb⟩ := HSe.out.block
        obtain ⟨fn, tmps, assign, body, hy, hR⟩ := HY.out (dist (names.take k)) s wr W.heap.size es clk hpre HC.out hE0 hmb
        have HDS := Lib.hid hds
        have HPRE := Lib.hid hpre
        have HMB := Lib.hid hmb
        have HRr := Lib.hid hR
        clear hd hin hds hpre hmb hR
        gi_wp2
        refine ⟨(fun h => by cases h), HRr.out.mono ?_⟩
        rintro e W' (⟨rfl, hC', hm'⟩ | ⟨rfl, hj⟩)
        · have HC' := Lib.hid hC'
          have HSe' := Lib.hid (HSe.out.same hm')
          obtain ⟨D, hD, hE⟩ := HSe'.out.own
          have HD := Lib.hid hD
          have HE := Lib.hid hE
          obtain ⟨es', clk', hmb'⟩ := HSe'.out.block
          have HMB' := Lib.hid hmb'
          clear hC' hm' hD hE hmb' hlook hy
          gi_wp2_with (gi_at_mapUpdate; refine wpListIn_mapUpdate_own _ rfl _ _ _ 47 rfl 9 4 (string_keyed Tryd.underlying9) Tryd.underlying47 _ W.heap.size k D rfl HD.out (by unfold maxLen; omega) _ _ _ rfl rfl (show keyOf Tryd.prog 9 (.string s) = some (.string s.data.toList) by simp [keyOf, Tryd.underlying9, mapKey, HSS.out]) _ [] (plainElem_bool Tryd.underlying4 true) ?_; intro w5 hown5 hgrow5)
          have hk5 : Kept (fun i => i = W.heap.size) W' w5 := Kept.grown (Kept.refl _ W') hgrow5 (fun j e => .inl (by cases e; rfl))
          go_roundw
          case measure => (simp [intOf] <;> omega)
          refine ⟨k + 1, by omega, by go_num, by rw [HDS.out]; exact HMk.out _ _ _ _ _ _ HC'.out hE0 HMB'.out hk5, ?_⟩
          rw [HTK.out, List.map_append]
          exact SeenS.put HD.out.isMap HE.out _ hown5
        · have HJ := Lib.hid hj
          clear hj hlook hy
          gi_wp2
          refine bodyPost_ret (results_none rfl _ _ _) rfl ?_
          exact ⟨⟨_, rfl⟩, .inr ⟨_, HPRE.out, HJ.out⟩⟩
    · obtain rfl : k = names.length := by omega
      have hCC := HC.out
      rw [List.take_length] at hCC
      have HCC := Lib.hid hCC
      clear hCC hlt hk
      gi_wp2
      refine bodyPost_end (results_none rfl _ _ _) rfl ?_
      exact ⟨⟨_, rfl⟩, .inl HCC.out⟩
end Go.Proofs.YtmamegpkpkkkaaaDoor.Mo
