/- The walk of the statement IdentFresh. -/
import Derived.Test.YtmamegpkpkkkaaaDoorIdentAlive
import Derived.Test.YtmamegpkpkkkaaaDoorFreshL
import Derived.Test.YtmamegpkpkkkaaaDoorRowOf
import Derived.Deep.Cut
import Derived.Deep.CutRange
namespace Go.Proofs.YtmamegpkpkkkaaaDoor.Mo
open Go Go.RowKit Go.Proofs.YtmamegpkpkkkaaaDoor.Lb
set_option linter.unusedVariables false
set_option linter.unusedSimpArgs false
theorem strs_nil {w w' : World} {A : Option Addr} {ns : List ByteArray} (hk : Kept Nil w w') (h : RStrs w A ns) : RStrs w' A ns := h.kept hk (fun _ _ _ _ h => h)
theorem flat_str (ns : List ByteArray) : ns.flatMap (fun s : ByteArray => [Value.string s]) = ns.map Value.string := by
  induction ns with
  | nil => rfl
  | cons x xs ih => rw [List.flatMap_cons, ih]; rfl
theorem strs_src {w : World} {A : Option Addr} {ns : List ByteArray} {cap : Nat} (h : RStrs w A ns) (hn : A = none → cap = 0) : SrcRow w 1 (.slice A ns.length cap) ns.length (ns.map Value.string) := by
  have h9 : RowOf w A 1 (fun s : ByteArray => [Value.string s]) ns := by
    rcases h with h | ⟨b, off, e, hc⟩
    · exact .inl h
    · refine .inr ⟨b, off, e, fun j o hj c hcc => ?_⟩
      obtain rfl : c = 0 := by omega
      rw [Nat.mul_one]
      exact hc j o hj
  have := h9.src (fun _ => rfl) (by decide) hn
  rw [flat_str] at this
  exact this
theorem Fresh_atn (ns : List ByteArray) (n : Nat) (A : Option Addr) (cap : Nat) (stem : ByteArray) (hn : ns.length = n) (w : World) (hr : RStrs w A ns) (hl : ns.length ≤ 80) (hs : stem.size ≤ 1000) :
    Calls Tryd.prog 8 #[.slice A n cap, .string stem] w fun e w' => e = .returned (.tuple #[.string (freshS ns stem), .int .i64 (freshE ns stem)]) ∧ Kept Nil w w' := by
  subst hn
  exact Fresh_is ns A cap stem w hr hl hs
set_option maxRecDepth 4000 in
set_option maxHeartbeats 16000000 in
theorem IdentFresh_calls (ns : List ByteArray) (A : Option Addr) (cap : Nat) (stem : ByteArray) (w : World) (hm : ns.length ≤ maxLen) (hr : RStrs w A ns) (hz : ∀ x ∈ ns, x.size ≤ maxLen) (hcn : A = none → cap = 0) (hst : stem.size ≤ maxLen) :
    Calls Tryd.prog 4 #[.slice A ns.length cap, .string stem] w fun e w' => e = .returned (.bool true) ∧ Kept Nil w w' := by
  have HR := Lib.hid hr
  have HZ := Lib.hid hz
  have HCN := Lib.hid hcn
  unfold maxLen at hm
  clear hr hz hcn
  go_enter Tryd.func4, Tryd.ntmps4
  go_wp2_with fail
  refine (alive_is w).mono ?_
  rintro e w1 ⟨rfl, hk1⟩
  by_cases h1 : 60 < stem.size
  · have f1 : decide (60 < (stem.size : Int)) = true := decide_eq_true (by omega)
    have f1b : decide (60 < stem.size) = true := decide_eq_true (by omega)
    clear h1
    go_wp2_with fail
    go_ret
    exact ⟨rfl, hk1⟩
  · have f1 : decide (60 < (stem.size : Int)) = false := decide_eq_false (by omega)
    have f1b : decide (60 < stem.size) = false := decide_eq_false (by omega)
    by_cases h2 : 40 < ns.length
    · have f2 : decide (40 < (ns.length : Int)) = true := decide_eq_true (by omega)
      have f2b : decide (40 < ns.length) = true := decide_eq_true (by omega)
      clear h1 h2
      go_wp2_with fail
      go_ret
      exact ⟨rfl, hk1⟩
    · have f2 : decide (40 < (ns.length : Int)) = false := decide_eq_false (by omega)
      have f2b : decide (40 < ns.length) = false := decide_eq_false (by omega)
      have hl40 : ns.length ≤ 40 := by omega
      have hs60 : stem.size ≤ 60 := by omega
      have HR1 := Lib.hid (strs_nil hk1 HR.out)
      have HK1 := Lib.hid hk1
      clear h1 h2 hk1
      go_wp2_with fail
      refine (Fresh_is ns A cap stem w1 HR1.out (by omega) (by omega)).mono ?_
      rintro e w2 ⟨rfl, hk2⟩
      have HK2 := Lib.hid hk2
      clear hk2
      cases hrs : rightName stem with
      | false =>
        have hb : freshB ns stem = false := by rw [fresh60 (by omega) hs60, hrs]
        have e1 : freshS ns stem = ⟨#[]⟩ := by unfold freshS; rw [if_neg (by rw [hb]; simp)]
        have e2 : freshE ns stem = 40 := by unfold freshE; rw [if_neg (by rw [hb]; simp)]
        have hn : nameC stem = 40 := by unfold nameC; rw [if_neg (by rw [hrs]; simp)]
        rw [e1, e2]
        clear hb e1 e2 hrs
        go_wp2_with (go_at_call 12; (with_reducible refine (Check_is stem _ hst).mono ?_); rintro e w3 ⟨rfl, rfl⟩)
        go_ret
        exact ⟨rfl, HK1.out.step HK2.out⟩
      | true =>
        obtain ⟨S, hS⟩ : ∃ S, freshS ns stem = S := ⟨_, rfl⟩
        have hF := fresh_right (ns := ns) (by omega) hs60 hrs
        rw [hS] at hF
        have hss : S.size ≤ 1100 := by
          have hb : freshB ns stem = true := by rw [fresh60 (by omega) hs60, hrs]
          rw [← hS]; unfold freshS; rw [if_pos hb]
          exact size_cand (by omega) (by have := (freshK_is ns stem (by omega)).1; omega)
        have hsm : S.size ≤ maxLen := by unfold maxLen; omega
        have hG := fresh_right (ns := ns ++ [S]) (stem := stem) (by simp; omega) hs60 hrs
        obtain ⟨T, hT⟩ : ∃ T, freshS (ns ++ [S]) stem = T := ⟨_, rfl⟩
        rw [hT] at hG
        have hTT := findI_none_app (by rw [hG.f]; decide)
        have HF := Lib.hid hF
        have HG := Lib.hid hG
        have nS : nameC S = 0 := by unfold nameC; rw [if_pos hF.r]
        have fS : findI ns S = -1 := hF.f
        have fT : findI ns T = -1 := findI_m1 hTT.1
        have neq : (T.toList == S.toList) = false := by simp [hTT.2]
        rw [hF.s, hF.e]
        clear hS hT hTT hF hG hrs
        obtain ⟨j0, hjnf, hy0, hy1, hy2⟩ := info_parts infoStr
        go_wp2_with (at_builtin; refine stop_append _ _ _ rfl ?_)
        unfold StopA
        refine wpList_append_src rfl _ _ 22 rfl w2.heap.size 9 j0 (.string ⟨#[]⟩) 1 16 Tryd.underlying22 hjnf hy0 hy1 hy2 rfl (by decide) (.slice (some ⟨w2.heap.size, 0, none⟩) 0 0) 0 [] rfl (World.ownsRow_lit w2 #[] 0 (Nat.le_refl _) (by decide) rfl) (.slice A ns.length cap) ns.length (ns.map Value.string) rfl (strs_src (strs_nil ((Kept.refl Nil w2).alloc _) (strs_nil HK2.out HR1.out)) HCN.out) (fun u hu => by obtain ⟨q, _, rfl⟩ := List.mem_map.1 hu; rfl) (by unfold maxLen; omega) (by omega) (by simp) ?_
        intro v5 w5 hown5 hgrow5
        rw [Nat.zero_add, List.nil_append] at hown5
        obtain ⟨A5, c5, rfl⟩ := own_slice hown5
        have hk5 : Kept Nil w2 w5 := ((Kept.refl Nil w2).alloc (.cells #[] 9)).grown hgrow5 (fun j e => .inr (by have h9 : w2.heap.size = j := (by simpa [Value.ownBlock] using e); omega))
        have HOW5 := Lib.hid hown5
        have HK5 := Lib.hid hk5
        have hz5 := hk5.size
        clear hown5 hgrow5 hk5
        go_wp2_with (at_builtin; refine stop_append _ _ _ rfl ?_)
        unfold StopA
        refine wpList_append_own _ rfl _ _ 22 rfl w2.heap.size 9 j0 (.string ⟨#[]⟩) 1 16 Tryd.underlying22 hjnf hy0 hy1 hy2 rfl (by decide) (.slice A5 ns.length c5) ns.length _ rfl (HOW5.out.alloc _) ⟨w5.heap.size, 0, none⟩ 1 1 [.string S] rfl rfl (cells_new w5 [.string S] 9) (by simp [Value.oneCell']) (by unfold maxLen; omega) (by omega) (by simp; omega) ?_
        intro v6 w6 hown6 hgrow6 _
        have hown6' : w6.ownsRow w2.heap.size 9 1 v6 (ns.length + 1) ((ns ++ [S]).map Value.string) := by simpa using hown6
        obtain ⟨-, A6, c6, rfl, hA6, -⟩ := strs_of_own hown6'
        have hk6 : Kept Nil w2 w6 := (HK5.out.alloc (.cells #[.string S] 9)).grown hgrow6 (fun j e => .inr (HOW5.out.lt j e).1)
        have HA6 := Lib.hid hA6
        have HK6 := Lib.hid hk6
        clear hown6 hown6' hgrow6 hA6 hk6
        go_wp2_with fail
        refine (Fresh_atn (ns ++ [S]) (ns.length + 1) A6 c6 stem (by simp) w6 HA6.out (by simp; omega) (by omega)).mono ?_
        rintro e w7 ⟨rfl, hk7⟩
        rw [HG.out.s, HG.out.e]
        have HK7 := Lib.hid (HK6.out.step hk7)
        clear hk7
        obtain ⟨ds, hds⟩ : ∃ ds, dist ns = ds := ⟨_, rfl⟩
        have HDS := Lib.hid hds
        have hdl : ds.length ≤ 40 := by rw [← hds]; exact Nat.le_trans (dist_len _) hl40
        clear hds
        go_wp2_with (first | (go_at_call 12; (with_reducible refine (Check_is S _ ?_).mono ?_); exact hsm; rintro e w8 ⟨rfl, rfl⟩) | (go_at_call 16; (with_reducible refine (FindI_is ns A cap S _ ?_ ?_).mono ?_); exact strs_nil (HK2.out.step (HK7.out.step (by repeat (first | exact Kept.refl _ _ | assumption | refine Kept.drew ?_ | refine Kept.drewN ?_ _ | refine Kept.alloc ?_ _ | refine Kept.step ?_ (by assumption))))) HR1.out; omega; rintro e w9 ⟨rfl, rfl⟩) | (go_at_call 16; (with_reducible refine (FindI_is ns A cap T _ ?_ ?_).mono ?_); exact strs_nil (HK2.out.step (HK7.out.step (by repeat (first | exact Kept.refl _ _ | assumption | refine Kept.drew ?_ | refine Kept.drewN ?_ _ | refine Kept.alloc ?_ _ | refine Kept.step ?_ (by assumption))))) HR1.out; omega; rintro e w9 ⟨rfl, rfl⟩) | (go_at_call 19; (with_reducible refine (distinct_is ns A cap 1000 _ ?_ ?_ ?_ ?_).mono ?_); exact strs_nil (HK2.out.step (HK7.out.step (by repeat (first | exact Kept.refl _ _ | assumption | refine Kept.drew ?_ | refine Kept.drewN ?_ _ | refine Kept.alloc ?_ _ | refine Kept.step ?_ (by assumption))))) HR1.out; omega; exact HZ.out; decide; rintro e w10 ⟨v10, rfl, hO10, hk10⟩; rw [HDS.out, show ds.take (1000 : Int).toNat = ds from List.take_of_length_le (by simp only [Int.reduceToNat]; omega)] at hO10; obtain ⟨-, A9, c9, rfl, hA9, -⟩ := strs_of_own hO10; have HA9 := Lib.hid hA9; clear hO10 hA9; have HKX := Lib.hid (HK2.out.step (HK7.out.step hk10)); clear hk10))
        clear nS fS fT neq
        have HRX := Lib.hid (strs_nil HKX.out HR1.out)
        go_loopw [78] (fun i wr => ∃ k : Nat, k ≤ ds.length ∧ i = .int .i64 k ∧ wr = w10) (fun i _ => ds.length - (intOf i).toNat)
        case atStart => exact ⟨0, Nat.zero_le _, rfl, rfl⟩
        case round =>
          obtain ⟨k, hk, rfl, hwr⟩ := hrel
          subst hwr
          by_cases hlt : k < ds.length
          · obtain ⟨t, et⟩ : ∃ v, ds[k]? = some v := ⟨_, List.getElem?_eq_getElem hlt⟩
            obtain ⟨b, off, e9, c0⟩ := HA9.out.at et
            have hq := dist_find (ns := ns) (i := k) (x := t) (by rw [HDS.out]; exact et)
            rw [HDS.out] at hq
            have q1 := hq.1
            have q2 := hq.2
            have HA9x := Lib.hid HA9.out
            clear et hq
            subst e9
            go_wp2_with (first | (go_at_call 16; (with_reducible refine (FindI_is ds _ c9 t _ ?_ ?_).mono ?_); exact HA9.out; omega; rintro e w11 ⟨rfl, rfl⟩) | (go_at_call 16; (with_reducible refine (FindI_is ns A cap t _ ?_ ?_).mono ?_); exact HRX.out; omega; rintro e w12 ⟨rfl, rfl⟩))
            go_round
            case measure => (simp [intOf] <;> omega)
            exact ⟨k + 1, by omega, by go_num, trivial⟩
          · obtain rfl : k = ds.length := by omega
            go_wp2_with fail
            go_loopw [97] (fun i wx => ∃ k : Nat, k ≤ ns.length ∧ i = .int .i64 k ∧ wx = wr) (fun i _ => ns.length - (intOf i).toNat)
            case atStart => exact ⟨0, Nat.zero_le _, rfl, rfl⟩
            case round =>
              obtain ⟨k, hk, rfl, hwr⟩ := hrel
              subst hwr
              by_cases hlt : k < ns.length
              · obtain ⟨t, et⟩ : ∃ v, ns[k]? = some v := ⟨_, List.getElem?_eq_getElem hlt⟩
                obtain ⟨b, off, e9, c0⟩ := HRX.out.at et
                have q2 := find_dist (ns := ns) (i := k) (x := t) et
                rw [HDS.out] at q2
                clear et
                subst e9
                go_wp2_with (go_at_call 16; (with_reducible refine (FindI_is ds A9 c9 t _ ?_ ?_).mono ?_); exact HA9.out; omega; rintro e w11 ⟨rfl, rfl⟩)
                go_round
                case measure => (simp [intOf] <;> omega)
                exact ⟨k + 1, by omega, by go_num, trivial⟩
              · obtain rfl : k = ns.length := by omega
                go_wp2_with fail
                go_ret
                exact ⟨rfl, HK1.out.step HKX.out⟩
end Go.Proofs.YtmamegpkpkkkaaaDoor.Mo
