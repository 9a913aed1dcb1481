/- The walk of the statement RuleKeeps. -/
import Derived.Test.YtnohhpinigkccaaKeepsP
import Derived.Test.YtnohhpinigkccaaAppendR
namespace Go.Proofs.Ytnohhpinigkccaa.Mo
open Go Go.RowKit Go.Maps Go.Shelf Go.Proofs.Ytnohhpinigkccaa.Lb
set_option linter.unusedVariables false
set_option linter.unusedSimpArgs false

set_option maxHeartbeats 2000000 in
theorem Find_is (ns : List ByteArray) (A : Option Addr) (cap : Nat) (s : ByteArray) (w : World) (hr : RStrs w A ns) (hm : ns.length ≤ 9223372036854775807) :
    Calls Try.prog 18 #[.slice A ns.length cap, .string s] w fun e w' => e = .returned (.int .i64 (findIx ns s)) ∧ w = w' := by
  have HR := Lib.hid hr
  clear hr
  go_enter Try.func18, Try.ntmps18
  go_wp2_with fail
  go_loop [5] (fun i => ∃ k : Nat, k ≤ ns.length ∧ i = .int .i64 k ∧ (∀ (j : Nat) (v : V), j < k → (asV ns)[j]? = some v → v.name.toList ≠ s.toList)) (fun i => ns.length - (intOf i).toNat)
  case atStart => exact ⟨0, Nat.zero_le _, rfl, fun j v h => by omega⟩
  case round =>
    obtain ⟨k, hk, rfl, hne⟩ := hrel
    have HNE := Lib.hid hne
    clear hne
    by_cases hlt : k < ns.length
    · obtain ⟨t, et⟩ : ∃ v, ns[k]? = some v := ⟨_, List.getElem?_eq_getElem hlt⟩
      obtain ⟨b, off, rfl, c0⟩ := HR.out.at et
      have hev : (asV ns)[k]? = some ⟨t, 0⟩ := by rw [asV_get, et]; rfl
      have HEV := Lib.hid hev
      clear et hev
      by_cases hn : t.toList = s.toList
      · have hb : (t.toList == s.toList) = true := by simp [hn]
        have HV := Lib.hid (show findIx ns s = k from varIx_some HNE.out HEV.out hn)
        clear hn
        go_wp2_with fail
        go_ret
        exact ⟨by rw [HV.out]; rfl, rfl⟩
      · have hb : (t.toList == s.toList) = false := by simp [hn]
        have HN := Lib.hid hn
        clear hn
        go_wp2_with fail
        go_round
        case measure => (simp [intOf] <;> omega)
        refine ⟨k + 1, by omega, by go_num, fun j u hj hu => ?_⟩
        by_cases e : j = k
        · subst e
          rw [HEV.out] at hu; cases hu
          exact HN.out
        · exact HNE.out j u (by omega) hu
    · obtain rfl : k = ns.length := by omega
      have HV := Lib.hid (show findIx ns s = -1 from varIx_none (fun i v hi => HNE.out i v (by have := (List.getElem?_eq_some_iff.1 hi).1; unfold asV at this; simpa using this) hi))
      go_wp2_with fail
      go_ret
      exact ⟨by rw [HV.out]; rfl, rfl⟩
set_option maxRecDepth 4000 in
set_option maxHeartbeats 8000000 in
theorem RuleKeeps_calls (p : Pr) (A : Option Addr) (cap : Nat) (vars : List Int) (value : Int) (w : World) (hp : RProc w p) (hs : ∀ s ∈ p.ss, s.name.size ≤ maxLen) (hr : Sc.Reads w .i64 A vars) (hc : A = none → cap = 0) (hi : ∀ z ∈ vars, Sc.I64 z) (hm : vars.length ≤ maxLen) (hv : Sc.I64 value) :
    Calls Try.prog 4 #[p.val, .slice A vars.length cap, .int .i64 value] w fun e w' => e = .returned (.bool true) ∧ Below w.heap.size w w' := by
  obtain ⟨j0, hjnf, hy0, hy1, hy2⟩ := info_parts infoI64
  obtain ⟨pn, pw, va, vs, vc, sa, ss, pc_⟩ := p
  simp only at *
  have HP := Lib.hid hp
  have HS := Lib.hid hs
  have HR := Lib.hid hr
  have HC := Lib.hid hc
  have HI := Lib.hid hi
  have HV := Lib.hid hv
  unfold maxLen at hm
  clear hp hs hr hc hi hv
  obtain ⟨W0, hW0⟩ : ∃ W0, w.alloc (.cells #[.string pn, .int .i64 pw, .slice va vs.length vc, .slice sa ss.length pc_] 25) = W0 := ⟨_, rfl⟩
  have hk0 : Kept Nil w W0 := by rw [← hW0]; exact (Kept.refl Nil w).alloc _
  have p0 : W0.cell? ⟨w.heap.size, 0, none⟩ = some (.string pn) := by rw [← hW0]; simp
  have p1 : W0.cell? ⟨w.heap.size, 1, none⟩ = some (.int .i64 pw) := by rw [← hW0]; simp
  have p2 : W0.cell? ⟨w.heap.size, 2, none⟩ = some (.slice va vs.length vc) := by rw [← hW0]; simp
  have p3 : W0.cell? ⟨w.heap.size, 3, none⟩ = some (.slice sa ss.length pc_) := by rw [← hW0]; simp
  have hsz : W0.heap.size = w.heap.size + 1 := by rw [← hW0]; simp
  have HW0 := Lib.hid hW0
  have HK0 := Lib.hid hk0
  have G0 := Lib.hid p0
  have G1 := Lib.hid p1
  have G2 := Lib.hid p2
  have G3 := Lib.hid p3
  have HSZ := Lib.hid hsz
  clear hW0 hk0 p0 p1 p2 p3

  unfold Pr.val
  simp only
  go_enter Try.func4, Try.ntmps4
  go_wp2_with fail
  rw [HW0.out]
  refine (alive_is W0).mono ?_
  rintro e w1 ⟨rfl, hk1⟩
  have HK1 := Lib.hid hk1
  clear hk1
  have a0 := (HK1.out).cell G0.out (fun h => h)
  have a1 := (HK1.out).cell G1.out (fun h => h)
  have a2 := (HK1.out).cell G2.out (fun h => h)
  have a3 := (HK1.out).cell G3.out (fun h => h)
  have hb1 : w.heap.size < w1.heap.size := by have := HK1.out.size; omega
  go_wp2_with fail
  refine (few_is ⟨pn, pw, va, vs, vc, sa, ss, pc_⟩ w1 (HP.out.nil (HK0.out.step HK1.out))).mono ?_
  rintro e w2 ⟨b, rfl, hbb, hk2⟩
  have HK2 := Lib.hid (HK1.out.step hk2)
  have HBB := Lib.hid hbb
  have hb2 : w.heap.size < w2.heap.size := by have := hk2.size; omega
  clear hk2 hbb a0 a1 a2 a3
  cases b with
  | false =>
    go_wp2_with fail
    go_ret
    exact ⟨rfl, (HK0.out.step HK2.out).toBelow⟩
  | true =>
    by_cases h100 : 100 < vars.length
    · go_wp2_with fail
      go_ret
      exact ⟨rfl, (HK0.out.step HK2.out).toBelow⟩
    · have hvl := (HBB.out rfl).1
      have hsl := (HBB.out rfl).2
      simp only at hvl hsl
      have a0 := (HK2.out).cell G0.out (fun h => h)
      have a1 := (HK2.out).cell G1.out (fun h => h)
      have a2 := (HK2.out).cell G2.out (fun h => h)
      have a3 := (HK2.out).cell G3.out (fun h => h)
      go_wp2_with (at_builtin; refine stop_append _ _ _ rfl ?_)
      unfold StopA
      refine wpList_append_reads rfl _ _ 26 rfl w2.heap.size 2 j0 (.int .i64 0) 8 Try.underlying26 hjnf hy0 hy1 hy2 rfl (.slice (some ⟨w2.heap.size, 0, none⟩) 0 0) 0 [] rfl (World.ownsRow_lit w2 #[] 0 (Nat.le_refl _) (by decide) rfl) .i64 A cap vars rfl (reads_kept HR.out ((HK0.out.step HK2.out).alloc _) (fun _ _ _ h => h)) HC.out (by unfold maxLen; omega) (by omega) (by simp) ?_
      intro v3 w3 hO3 hg3
      have hk3 : Kept Nil w2 w3 := ((Kept.refl Nil w2).alloc _).grown hg3 (fun j e => .inr (by simp [Value.ownBlock] at e; omega))
      have hO3' : w3.ownsRow w2.heap.size 2 1 v3 vars.length (vars.map (Value.int .i64)) := by simpa using hO3
      obtain ⟨-, A3, c3, rfl, hA3, -⟩ := longs_of_own hO3'
      have HA3 := Lib.hid hA3
      have HK3 := Lib.hid (HK2.out.step hk3)
      have hb3 : w.heap.size < w3.heap.size := by have := hk3.size; omega
      clear hO3 hO3' hg3 hk3 hA3 a0 a1 a2 a3
      have a0 := (HK3.out).cell G0.out (fun h => h)
      have a1 := (HK3.out).cell G1.out (fun h => h)
      have a2 := (HK3.out).cell G2.out (fun h => h)
      have a3 := (HK3.out).cell G3.out (fun h => h)
      obtain ⟨r, hrr⟩ : ∃ r, runP ⟨pn, pw, va, vs, vc, sa, ss, pc_⟩ vars value = r := ⟨_, rfl⟩
      have HRR := Lib.hid hrr
      clear hrr
      go_wp2_with fail
      refine (Run_is ⟨pn, pw, va, vs, vc, sa, ss, pc_⟩ A cap vars value w3 (HP.out.nil (HK0.out.step HK3.out)) (reads_kept HR.out (HK0.out.step HK3.out) (fun _ _ _ h => h)) HI.out HV.out (by omega) (by simp only; omega)).mono ?_
      rintro e w4 ⟨u4, v4, rfl, ⟨hu4, hv4⟩, hk4⟩
      rw [HRR.out] at hu4 hv4 ⊢
      obtain ⟨re, rn, rs⟩ := r
      simp only at hu4 hv4
      obtain ⟨-, A4, c4, rfl, hA4, -⟩ := longs_of_own hu4
      obtain ⟨B4, d4, rfl⟩ := own_slice hv4
      have HA4 := Lib.hid hA4
      have HK4 := Lib.hid (HK3.out.step hk4)
      have HK34 := Lib.hid hk4
      have hb4 : w.heap.size < w4.heap.size := by have := hk4.size; omega
      clear hu4 hv4 hA4 hk4 a0 a1 a2 a3
      have a0 := (HK4.out).cell G0.out (fun h => h)
      have a1 := (HK4.out).cell G1.out (fun h => h)
      have a2 := (HK4.out).cell G2.out (fun h => h)
      have a3 := (HK4.out).cell G3.out (fun h => h)
      go_wp2_with fail
      refine (Run_is ⟨pn, pw, va, vs, vc, sa, ss, pc_⟩ A cap vars value w4 (HP.out.nil (HK0.out.step HK4.out)) (reads_kept HR.out (HK0.out.step HK4.out) (fun _ _ _ h => h)) HI.out HV.out (by omega) (by simp only; omega)).mono ?_
      rintro e w5 ⟨u5, v5, rfl, ⟨hu5, hv5⟩, hk5⟩
      rw [HRR.out] at hu5 hv5 ⊢
      simp only at hu5 hv5
      obtain ⟨-, A5, c5, rfl, hA5, -⟩ := longs_of_own hu5
      obtain ⟨B5, d5, rfl⟩ := own_slice hv5
      have HA5 := Lib.hid hA5
      have HK5 := Lib.hid (HK4.out.step hk5)
      have HK45 := Lib.hid hk5
      have hb5 : w.heap.size < w5.heap.size := by have := hk5.size; omega
      have hrnl : rn.length ≤ 1000 := by
        by_cases h0 : re = 0
        · have h9 := run_sends (runP_ok (p := ⟨pn, pw, va, vs, vc, sa, ss, pc_⟩) (vars := vars) (value := value) (by rw [HRR.out]; exact h0)).2.2
          rw [HRR.out] at h9
          have := h9.1
          simp only at this
          omega
        · have h9 := (runP_err (p := ⟨pn, pw, va, vs, vc, sa, ss, pc_⟩) (vars := vars) (value := value) (by rw [HRR.out]; exact h0)).1
          rw [HRR.out] at h9
          simp only at h9
          rw [h9]; simp
      have hee : (re != re) = false := by simp
      clear hu5 hv5 hA5 hk5 a0 a1 a2 a3
      go_wp2_with fail
      refine (SameLongs_is vars A3 A c3 cap w5 (reads_kept HA3.out (HK34.out.step HK45.out) (fun _ _ _ h => h)) (reads_kept HR.out (HK0.out.step HK5.out) (fun _ _ _ h => h)) (by omega)).mono ?_
      rintro e w6 ⟨rfl, hk6⟩
      have HK56 := Lib.hid hk6
      clear hk6
      go_wp2_with fail
      refine (SameLongs_is rn A4 A5 c4 c5 w6 (reads_kept HA4.out (HK45.out.step HK56.out) (fun _ _ _ h => h)) (reads_kept HA5.out HK56.out (fun _ _ _ h => h)) (by omega)).mono ?_
      rintro e w7 ⟨rfl, hk7⟩
      have HK57 := Lib.hid (HK56.out.step hk7)
      have HK7 := Lib.hid (HK5.out.step HK57.out)
      have hb7 : w.heap.size < w7.heap.size := by have := HK57.out.size; omega
      clear hk7
      have a0 := (HK7.out).cell G0.out (fun h => h)
      have a1 := (HK7.out).cell G1.out (fun h => h)
      have a2 := (HK7.out).cell G2.out (fun h => h)
      have a3 := (HK7.out).cell G3.out (fun h => h)
      by_cases h0 : re = 0
      · subst h0
        have hok := runP_ok (p := ⟨pn, pw, va, vs, vc, sa, ss, pc_⟩) (vars := vars) (value := value) (by rw [HRR.out])
        have hsn := run_sends hok.2.2
        rw [HRR.out] at hsn
        have hn1 : rn.length = vars.length := hsn.1
        have hn2 : rs.length = sendsN ss := by have := hsn.2; simpa using this
        have hn3 : vars.length = vs.length := hok.1
        have HN1 := Lib.hid hn1
        have HN2 := Lib.hid hn2
        have HN3 := Lib.hid hn3
        clear hok hsn hn1 hn2 hn3 hee
        go_wp2_with fail
        clear a0 a1 a2 a3
        go_loopw [14, 84] (fun m i wr => ∃ k : Nat, k ≤ ss.length ∧ i = .int .i64 k ∧ m = .int .i64 (sendsN (ss.take k)) ∧ Kept Nil w7 wr) (fun _ i _ => ss.length - (intOf i).toNat)
        case atStart => exact ⟨0, Nat.zero_le _, rfl, rfl, Kept.refl _ _⟩
        case round =>
          obtain ⟨k, hk, rfl, rfl, hK⟩ := hrel
          have HKr := Lib.hid (HK7.out.step hK)
          have HKq := Lib.hid hK
          have hbr : w.heap.size < wr.heap.size := by have := hK.size; omega
          clear hK
          by_cases hlt : k < ss.length
          · obtain ⟨s, es⟩ : ∃ s, ss[k]? = some s := ⟨_, List.getElem?_eq_getElem hlt⟩
            obtain ⟨b, off, e1, c0, c1, c2, c3, c4⟩ := (HP.out.nil (HK0.out.step HKr.out)).s.at es
            simp only at e1
            subst e1
            have hbs : b < wr.heap.size := World.block_lt_of_cell? _ _ c0
            have htk := sendsN_take ss es
            have hle : sendsN (ss.take k) ≤ k := by
              unfold sendsN
              exact Nat.le_trans (List.length_filter_le _ _) (by rw [List.length_take]; omega)
            have HTK := Lib.hid htk
            clear es htk
            by_cases h4 : s.kind = 4
            · have h4b : (s.kind == 4) = true := by simp [h4]
              have hq : sendsN (ss.take (k + 1)) = sendsN (ss.take k) + 1 := by rw [HTK.out, if_pos h4]
              have HQ := Lib.hid hq
              clear h4 hq
              go_wp2_with fail
              go_round
              case measure => (simp [intOf] <;> omega)
              exact ⟨k + 1, by omega, by go_num, by rw [HQ.out]; go_num, HKq.out.alloc _⟩
            · have h4b : (s.kind == 4) = false := by simp [h4]
              have hq : sendsN (ss.take (k + 1)) = sendsN (ss.take k) := by rw [HTK.out, if_neg h4]
              have HQ := Lib.hid hq
              clear h4 hq
              go_wp2_with fail
              go_round
              case measure => (simp [intOf] <;> omega)
              exact ⟨k + 1, by omega, by go_num, by rw [HQ.out], HKq.out.alloc _⟩
          · obtain rfl : k = ss.length := by omega
            rw [List.take_length]
            have a0 := (HKr.out).cell G0.out (fun h => h)
            have a1 := (HKr.out).cell G1.out (fun h => h)
            have a2 := (HKr.out).cell G2.out (fun h => h)
            have a3 := (HKr.out).cell G3.out (fun h => h)
            obtain ⟨wa, hwa⟩ : ∃ x, x = wr := ⟨_, rfl⟩
            subst hwa
            clear hlt hk
            go_wp2_with fail
            refine (writes_is ⟨pn, pw, va, vs, vc, sa, ss, pc_⟩ 1000 wa (HP.out.nil (HK0.out.step HKr.out)) (by simp only; omega) HS.out).mono ?_
            rintro e w8 ⟨v8, rfl, hO8, hk8⟩
            have hds : (dist (wNames ss)).take (1000 : Int).toNat = dist (wNames ss) := List.take_of_length_le (Nat.le_trans (dist_len _) (Nat.le_trans (wNames_len _) (by simp only [Int.reduceToNat]; omega)))
            simp only at hO8
            rw [hds] at hO8
            obtain ⟨dn, hdn⟩ : ∃ dn, dist (wNames ss) = dn := ⟨_, rfl⟩
            have hdl : dn.length ≤ 1000 := by rw [← hdn]; exact Nat.le_trans (dist_len _) (Nat.le_trans (wNames_len _) (by omega))
            rw [hdn] at hO8
            have HDN := Lib.hid hdn
            obtain ⟨-, A8, c8, rfl, hA8, -⟩ := strs_of_own hO8
            have HA8 := Lib.hid hA8
            have HKx := Lib.hid hk8
            have HK8 := Lib.hid (HKr.out.step hk8)
            have HK58 := Lib.hid ((HK57.out.step HKq.out).step hk8)
            have hb8 : w.heap.size < w8.heap.size := by have := hk8.size; omega
            clear hO8 hds hdn hA8 hk8 a0 a1 a2 a3
            have a0 := (HK8.out).cell G0.out (fun h => h)
            have a1 := (HK8.out).cell G1.out (fun h => h)
            have a2 := (HK8.out).cell G2.out (fun h => h)
            have a3 := (HK8.out).cell G3.out (fun h => h)
            go_wp2_with fail
            clear a0 a1 a2 a3
            go_loopw [99] (fun i wr => ∃ k : Nat, k ≤ vs.length ∧ i = .int .i64 k ∧ Kept Nil w8 wr) (fun i _ => vs.length - (intOf i).toNat)
            case atStart => exact ⟨0, Nat.zero_le _, rfl, Kept.refl _ _⟩
            case round =>
              obtain ⟨k, hk, rfl, hK⟩ := hrel
              have HKs := Lib.hid (HK8.out.step hK)
              have HKt := Lib.hid hK
              have hbr : w.heap.size < wr.heap.size := by have := hK.size; omega
              clear hK
              by_cases hlt : k < vs.length
              · obtain ⟨v, ev⟩ : ∃ s, vs[k]? = some s := ⟨_, List.getElem?_eq_getElem hlt⟩
                obtain ⟨b, off, e1, c0, c1⟩ := (HP.out.nil (HK0.out.step HKs.out)).v.at ev
                simp only at e1
                subst e1
                have hbs : b < wr.heap.size := World.block_lt_of_cell? _ _ c0
                obtain ⟨x, hx⟩ : ∃ x, findIx dn v.name = x := ⟨_, rfl⟩
                have HX := Lib.hid hx
                obtain ⟨Wx, hWx⟩ : ∃ Wx, wr.alloc (.cells #[.string v.name, .int .i64 v.init] 49) = Wx := ⟨_, rfl⟩
                have hkx : Kept Nil wr Wx := by rw [← hWx]; exact (Kept.refl Nil wr).alloc _
                have r0 : Wx.cell? ⟨wr.heap.size, 0, none⟩ = some (.string v.name) := by rw [← hWx]; simp
                have r1 : Wx.cell? ⟨wr.heap.size, 1, none⟩ = some (.int .i64 v.init) := by rw [← hWx]; simp
                have HWX := Lib.hid hWx
                have HKX := Lib.hid hkx
                have H0 := Lib.hid r0
                have H1 := Lib.hid r1
                have HEV := Lib.hid ev
                have hfi : ∀ nq : Nat, Calls Try.prog 18 #[.slice A8 dn.length c8, .string v.name] (Wx.drewN nq) (fun e w' => e = .returned (.int .i64 x) ∧ w' = Wx.drewN nq) := fun nq => by
                  have h9 := Find_is dn A8 c8 v.name (Wx.drewN nq) (HA8.out.kept ((HKt.out.step HKX.out).drewN nq) (fun _ _ _ _ h => h)) (by omega)
                  rw [hx] at h9
                  exact h9.mono fun _ _ h => ⟨h.1, h.2.symm⟩
                have HFI := Lib.hid hfi
                clear hx hWx hkx r0 r1 ev hfi
                by_cases hneg : x < 0
                · have hkeep : rn[k]? = vars[k]? := by
                    have h9 := keeps (show (runP _ vars value).1 = 0 by rw [HRR.out]) HEV.out (dist_names (by rw [show dist (wNames ss) = dn from HDN.out]; exact findIx_neg (by rw [HX.out]; exact hneg)))
                    rw [HRR.out] at h9
                    exact h9
                  have hkn : k < vars.length := by have := HN3.out; omega
                  have hkn2 : k < rn.length := by have := HN1.out; omega
                  obtain ⟨z, ez⟩ : ∃ z, vars[k]? = some z := ⟨_, List.getElem?_eq_getElem hkn⟩
                  rw [ez] at hkeep
                  obtain ⟨b4, o4, e4, f0⟩ := reads_at (reads_kept HA4.out (((HK45.out.step HK58.out).step HKt.out).step HKX.out) (fun _ _ _ h => h)) hkeep
                  obtain ⟨b5, o5, e5, f1⟩ := reads_at (reads_kept HR.out ((HK0.out.step HKs.out).step HKX.out) (fun _ _ _ h => h)) ez
                  subst e4 e5
                  have hdx : decide (x < 0) = true := by simp [hneg]
                  clear hkeep ez hneg
                  go_wp2_with fail
                  rw [HWX.out]
                  have r0 := H0.out
                  have r1 := H1.out
                  go_big_quiet ((go_at_call 18; exact Calls.quiet_of_same (HFI.out _)))
                  clear r0 r1 f0 f1 hdx
                  go_wp2_with fail
                  go_round
                  case measure => (simp [intOf] <;> omega)
                  exact ⟨k + 1, by omega, by go_num, (HKt.out.step HKX.out).drewN _⟩
                · have hdx : decide (x < 0) = false := by simp; omega
                  clear hneg
                  go_wp2_with fail
                  rw [HWX.out]
                  have r0 := H0.out
                  have r1 := H1.out
                  go_big_quiet ((go_at_call 18; exact Calls.quiet_of_same (HFI.out _)))
                  clear r0 r1 hdx
                  go_wp2_with fail
                  go_round
                  case measure => (simp [intOf] <;> omega)
                  exact ⟨k + 1, by omega, by go_num, (HKt.out.step HKX.out).drewN _⟩
              · obtain rfl : k = vs.length := by omega
                have e1 : ((rs.length : Int) == (sendsN ss : Int)) = true := by simp [HN2.out]
                have e2 : ((rn.length : Int) == (vars.length : Int)) = true := by simp [HN1.out]
                go_wp2_with fail
                go_ret
                exact ⟨rfl, (HK0.out.step HKs.out).toBelow⟩
      · have h0b : (re != 0) = true := by simp [h0]
        have herr := runP_err (p := ⟨pn, pw, va, vs, vc, sa, ss, pc_⟩) (vars := vars) (value := value) (by rw [HRR.out]; exact h0)
        rw [HRR.out] at herr
        obtain ⟨e1, e2⟩ := herr
        simp only at e1 e2
        subst e1 e2
        go_wp2_with fail
        go_ret
        exact ⟨rfl, (HK0.out.step HK7.out).toBelow⟩
end Go.Proofs.Ytnohhpinigkccaa.Mo
