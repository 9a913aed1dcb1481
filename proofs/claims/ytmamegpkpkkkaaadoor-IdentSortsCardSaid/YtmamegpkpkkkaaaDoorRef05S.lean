/- The walks of the reference's Find and Distinct (layer 5). -/
import Derived.Test.YtmamegpkpkkkaaaDoorBasics
import Derived.Test.YtmamegpkpkkkaaaDoorFindP
import Derived.Test.YtmamegpkpkkkaaaDoorRef05T
namespace Go.Proofs.YtmamegpkpkkkaaaDoor.Mo
open Go Go.RowKit Go.Proofs.YtmamegpkpkkkaaaDoor.Lb
set_option linter.unusedVariables false
set_option linter.unusedSimpArgs false

set_option maxHeartbeats 1000000 in
theorem FindS_is (ns : List ByteArray) (A : Option Addr) (cap : Nat) (s : ByteArray) (w : World) (hr : RStrs w A ns) (hm : ns.length ≤ 9223372036854775807) :
    Calls Tryd.prog 17 #[.slice A ns.length cap, .string s] w fun e w' => e = .returned (.int .i64 (findI ns s)) ∧ w = w' := by
  have HR := Lib.hid hr
  clear hr
  go_enter Tryd.func17, Tryd.ntmps17
  go_wp2_with fail
  go_loop [5] (fun i => ∃ k : Nat, k ≤ ns.length ∧ i = .int .i64 k ∧ (∀ (j : Nat) (t : ByteArray), j < k → ns[j]? = some t → t.toList ≠ s.toList)) (fun i => ns.length - (intOf i).toNat)
  case atStart => exact ⟨0, Nat.zero_le _, rfl, fun j v h => by omega⟩
  case round =>
    obtain ⟨k, hk, rfl, hne⟩ := hrel
    have HNE := Lib.hid hne
    clear hne
    by_cases hlt : k < ns.length
    · obtain ⟨t, et⟩ : ∃ v, ns[k]? = some v := ⟨_, List.getElem?_eq_getElem hlt⟩
      obtain ⟨b, off, rfl, c0⟩ := HR.out.at et
      have HEV := Lib.hid et
      clear et
      by_cases hn : t.toList = s.toList
      · have hb : (t.toList == s.toList) = true := by simp [hn]
        have HV := Lib.hid (findI_some HNE.out HEV.out hn)
        clear hn
        go_wp2_with fail
        go_ret
        exact ⟨by rw [HV.out]; rfl, rfl⟩
      · have hb : (t.toList == s.toList) = false := by simp [hn]
        have HN := Lib.hid hn
        clear hn
        go_wp2_with fail
        go_round
        case measure => (simp [intOf] <;> omega)
        refine ⟨k + 1, by omega, by go_num, fun j u hj hu => ?_⟩
        by_cases e : j = k
        · subst e
          rw [HEV.out] at hu; cases hu
          exact HN.out
        · exact HNE.out j u (by omega) hu
    · obtain rfl : k = ns.length := by omega
      have HV := Lib.hid (findI_none HNE.out)
      go_wp2_with fail
      go_ret
      exact ⟨by rw [HV.out]; rfl, rfl⟩
theorem dist_take_len (ns : List ByteArray) (k : Nat) : (dist (ns.take k)).length ≤ k := Nat.le_trans (dist_len _) (List.length_take_le _ _)
set_option maxHeartbeats 2000000 in
theorem DistinctR_is (ns : List ByteArray) (A : Option Addr) (cap : Nat) (w : World) (hr : RStrs w A ns) (hm : ns.length ≤ 100000) :
    Calls Tryd.prog 10 #[.slice A ns.length cap] w fun e w' => ∃ v, e = .returned v ∧ w'.ownsRow w.heap.size 9 1 v (dist ns).length ((dist ns).map Value.string) ∧ Kept Nil w w' := by
  obtain ⟨j0, hjnf, hy0, hy1, hy2⟩ := info_parts infoStr
  have HR := Lib.hid hr
  clear hr
  go_enter Tryd.func10, Tryd.ntmps10
  go_wp2_with fail
  go_loopw [3, 4] (fun r i wr => ∃ k : Nat, k ≤ ns.length ∧ i = .int .i64 k ∧ wr.ownsRow w.heap.size 9 1 r (dist (ns.take k)).length ((dist (ns.take k)).map Value.string) ∧ Kept Nil w wr) (fun _ i _ => ns.length - (intOf i).toNat)
  case atStart => exact ⟨0, Nat.zero_le _, rfl, World.ownsRow_lit w #[] 0 (Nat.le_refl _) (by decide) rfl, (Kept.refl Nil w).alloc _⟩
  case round =>
    obtain ⟨k, hk, rfl, hO, hK⟩ := hrel
    have HO := Lib.hid hO
    have HK := Lib.hid hK
    have hzz := hK.size
    clear hO hK
    by_cases hlt : k < ns.length
    · obtain ⟨s, es⟩ : ∃ v, ns[k]? = some v := ⟨_, List.getElem?_eq_getElem hlt⟩
      obtain ⟨b, off, e1, c0⟩ := (HR.out.kept HK.out (fun _ _ _ _ h => h)).at es
      subst e1
      have hbs : b < wr.heap.size := World.block_lt_of_cell? _ _ c0
      have hdl := dist_take_len ns k
      have htk : ns.take (k + 1) = ns.take k ++ [s] := by rw [List.take_add_one, es, Option.toList_some]
      have HTK := Lib.hid htk
      clear es htk
      obtain ⟨_, A3, c3, rfl, hS, hB⟩ := strs_of_own HO.out
      have HS := Lib.hid hS
      clear hS hB
      by_cases hin : findI (dist (ns.take k)) s < 0
      · have hds : dist (ns.take (k + 1)) = dist (ns.take k) ++ [s] := by rw [HTK.out, dist_snoc, dstep, if_neg ((findI_neg _ _).1 hin)]
        have HDS := Lib.hid hds
        obtain ⟨z, hz⟩ : ∃ z, findI (dist (ns.take k)) s = z := ⟨_, rfl⟩
        have HZ := Lib.hid hz
        rw [hz] at hin
        clear hds hz
        go_wp2_with fail
        refine (FindS_is (dist (ns.take k)) A3 c3 s wr HS.out (by omega)).mono ?_
        rintro e w1 ⟨rfl, rfl⟩
        rw [HZ.out]
        go_wp2_with (at_builtin; refine stop_append _ _ _ rfl ?_)
        unfold StopA
        refine wpList_append_own _ rfl _ _ 22 rfl w.heap.size 9 j0 (.string ⟨#[]⟩) 1 16 Tryd.underlying22 hjnf hy0 hy1 hy2 rfl (by decide) _ _ _ rfl (HO.out.alloc _) ⟨wr.heap.size, 0, none⟩ 1 1 [.string s] rfl rfl (cells_new _ _ _) (by simp [Value.oneCell']) (by unfold maxLen; omega) (by omega) (by simp; omega) ?_
        intro r' w5 hown' hgrow _
        have HO5 := Lib.hid (show w5.ownsRow w.heap.size 9 1 r' (dist (ns.take (k + 1))).length ((dist (ns.take (k + 1))).map Value.string) from by
          rw [HDS.out]
          simpa using hown')
        have HK5 := Lib.hid ((HK.out.alloc (.cells #[.string s] 9)).grown hgrow (fun j e => .inr (HO.out.lt j e).1))
        clear hown' hgrow
        go_wp2_with fail
        go_round
        case measure => (simp [intOf] <;> omega)
        exact ⟨k + 1, by omega, by go_num, HO5.out, HK5.out⟩
      · have hds : dist (ns.take (k + 1)) = dist (ns.take k) := by
          rw [HTK.out, dist_snoc, dstep, if_pos]
          exact Decidable.not_not.1 fun h => hin ((findI_neg _ _).2 h)
        have HDS := Lib.hid hds
        obtain ⟨z, hz⟩ : ∃ z, findI (dist (ns.take k)) s = z := ⟨_, rfl⟩
        have HZ := Lib.hid hz
        rw [hz] at hin
        have hin2 : 0 ≤ z := by omega
        clear hds hz hin
        go_wp2_with fail
        refine (FindS_is (dist (ns.take k)) A3 c3 s wr HS.out (by omega)).mono ?_
        rintro e w1 ⟨rfl, rfl⟩
        rw [HZ.out]
        go_wp2_with fail
        go_round
        case measure => (simp [intOf] <;> omega)
        exact ⟨k + 1, by omega, by go_num, by rw [HDS.out]; exact HO.out, HK.out⟩
    · obtain rfl : k = ns.length := by omega
      rw [List.take_length] at HO
      go_wp2_with fail
      go_ret
      exact ⟨_, rfl, HO.out, HK.out⟩
end Go.Proofs.YtmamegpkpkkkaaaDoor.Mo
