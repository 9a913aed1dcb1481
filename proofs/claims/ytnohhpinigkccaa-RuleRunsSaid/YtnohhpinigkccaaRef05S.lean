/- The walks of the reference's Find, Distinct and Same (layer 5). -/
import Derived.Test.YtnohhpinigkccaaBasics
import Derived.Test.YtnohhpinigkccaaSeenS
namespace Go.Proofs.Ytnohhpinigkccaa.Mo
open Go Go.RowKit Go.Proofs.Ytnohhpinigkccaa.Lb
set_option linter.unusedVariables false
set_option linter.unusedSimpArgs false

/-- The first place of a string. -/
def findS (ns : List ByteArray) (s : ByteArray) : Option Nat := ns.findIdx? (fun t => t.toList == s.toList)
def findI (ns : List ByteArray) (s : ByteArray) : Int := match findS ns s with | some k => (k : Int) | none => -1
theorem findS_some {ns : List ByteArray} {s t : ByteArray} {k : Nat} (h : ∀ (j : Nat) (t : ByteArray), j < k → ns[j]? = some t → t.toList ≠ s.toList) (hk : ns[k]? = some t) (e : t.toList = s.toList) : findS ns s = some k := by
  unfold findS
  rw [List.findIdx?_eq_some_iff_getElem]
  have hkl := (List.getElem?_eq_some_iff.1 hk)
  refine ⟨hkl.1, by rw [hkl.2]; simp [e], fun j hj => ?_⟩
  have := h j (ns[j]'(Nat.lt_trans hj hkl.1)) hj (List.getElem?_eq_getElem _)
  simpa using this
theorem findS_none {ns : List ByteArray} {s : ByteArray} (h : ∀ (j : Nat) (t : ByteArray), j < ns.length → ns[j]? = some t → t.toList ≠ s.toList) : findS ns s = none := by
  unfold findS
  rw [List.findIdx?_eq_none_iff]
  intro t ht
  obtain ⟨j, hj⟩ := List.mem_iff_getElem?.1 ht
  simpa using h j t (List.getElem?_eq_some_iff.1 hj).1 hj
theorem findI_some {ns : List ByteArray} {s t : ByteArray} {k : Nat} (h : ∀ (j : Nat) (t : ByteArray), j < k → ns[j]? = some t → t.toList ≠ s.toList) (hk : ns[k]? = some t) (e : t.toList = s.toList) : findI ns s = k := by
  unfold findI; rw [findS_some h hk e]
theorem findI_none {ns : List ByteArray} {s : ByteArray} (h : ∀ (j : Nat) (t : ByteArray), j < ns.length → ns[j]? = some t → t.toList ≠ s.toList) : findI ns s = -1 := by
  unfold findI; rw [findS_none h]
theorem findI_cases (ns : List ByteArray) (s : ByteArray) : (findI ns s = -1 ∧ ∀ t ∈ ns, t.toList ≠ s.toList) ∨
    ∃ (k : Nat) (t : ByteArray), findI ns s = k ∧ ns[k]? = some t ∧ t.toList = s.toList ∧ ∀ (j : Nat) (t : ByteArray), j < k → ns[j]? = some t → t.toList ≠ s.toList := by
  unfold findI
  cases h : findS ns s with
  | none =>
    refine .inl ⟨rfl, fun t ht => ?_⟩
    have := (List.findIdx?_eq_none_iff.1 h) t ht
    simpa using this
  | some k =>
    obtain ⟨h1, h2, h3⟩ := List.findIdx?_eq_some_iff_getElem.1 h
    refine .inr ⟨k, ns[k], rfl, List.getElem?_eq_getElem h1, by simpa using h2, fun j t hj ht => ?_⟩
    obtain ⟨hjl, rfl⟩ := List.getElem?_eq_some_iff.1 ht
    simpa using h3 j hj
theorem ky_list (s : ByteArray) : s.toList = ky s := by unfold ky; exact ByteArray.toList_eq s
theorem findI_neg (ns : List ByteArray) (s : ByteArray) : findI ns s < 0 ↔ ky s ∉ ns.map ky := by
  rcases findI_cases ns s with ⟨h1, h2⟩ | ⟨k, t, h1, h2, h3, h4⟩
  · rw [h1]
    refine ⟨fun _ hm => ?_, fun _ => by omega⟩
    obtain ⟨t, ht, e⟩ := List.mem_map.1 hm
    exact h2 t ht (by rw [ky_list, ky_list]; exact e)
  · rw [h1]
    refine ⟨fun h => by omega, fun hm => absurd (List.mem_map.2 ⟨t, List.mem_of_getElem? h2, ?_⟩) hm⟩
    rw [← ky_list, ← ky_list]; exact h3
set_option maxHeartbeats 1000000 in
theorem FindS_is (ns : List ByteArray) (A : Option Addr) (cap : Nat) (s : ByteArray) (w : World) (hr : RStrs w A ns) (hm : ns.length ≤ 9223372036854775807) :
    Calls Try.prog 18 #[.slice A ns.length cap, .string s] w fun e w' => e = .returned (.int .i64 (findI ns s)) ∧ w = w' := by
  have HR := Lib.hid hr
  clear hr
  go_enter Try.func18, Try.ntmps18
  go_wp2_with fail
  go_loop [5] (fun i => ∃ k : Nat, k ≤ ns.length ∧ i = .int .i64 k ∧ (∀ (j : Nat) (t : ByteArray), j < k → ns[j]? = some t → t.toList ≠ s.toList)) (fun i => ns.length - (intOf i).toNat)
  case atStart => exact ⟨0, Nat.zero_le _, rfl, fun j v h => by omega⟩
  case round =>
    obtain ⟨k, hk, rfl, hne⟩ := hrel
    have HNE := Lib.hid hne
    clear hne
    by_cases hlt : k < ns.length
    · obtain ⟨t, et⟩ : ∃ v, ns[k]? = some v := ⟨_, List.getElem?_eq_getElem hlt⟩
      obtain ⟨b, off, rfl, c0⟩ := HR.out.at et
      have HEV := Lib.hid et
      clear et
      by_cases hn : t.toList = s.toList
      · have hb : (t.toList == s.toList) = true := by simp [hn]
        have HV := Lib.hid (findI_some HNE.out HEV.out hn)
        clear hn
        go_wp2_with fail
        go_ret
        exact ⟨by rw [HV.out]; rfl, rfl⟩
      · have hb : (t.toList == s.toList) = false := by simp [hn]
        have HN := Lib.hid hn
        clear hn
        go_wp2_with fail
        go_round
        case measure => (simp [intOf] <;> omega)
        refine ⟨k + 1, by omega, by go_num, fun j u hj hu => ?_⟩
        by_cases e : j = k
        · subst e
          rw [HEV.out] at hu; cases hu
          exact HN.out
        · exact HNE.out j u (by omega) hu
    · obtain rfl : k = ns.length := by omega
      have HV := Lib.hid (findI_none HNE.out)
      go_wp2_with fail
      go_ret
      exact ⟨by rw [HV.out]; rfl, rfl⟩
theorem dist_take_len (ns : List ByteArray) (k : Nat) : (dist (ns.take k)).length ≤ k := Nat.le_trans (dist_len _) (List.length_take_le _ _)
set_option maxHeartbeats 2000000 in
theorem DistinctR_is (ns : List ByteArray) (A : Option Addr) (cap : Nat) (w : World) (hr : RStrs w A ns) (hm : ns.length ≤ 100000) :
    Calls Try.prog 27 #[.slice A ns.length cap] w fun e w' => ∃ v, e = .returned v ∧ w'.ownsRow w.heap.size 9 1 v (dist ns).length ((dist ns).map Value.string) ∧ Kept Nil w w' := by
  obtain ⟨j0, hjnf, hy0, hy1, hy2⟩ := info_parts infoStr
  have HR := Lib.hid hr
  clear hr
  go_enter Try.func27, Try.ntmps27
  go_wp2_with fail
  go_loopw [3, 4] (fun r i wr => ∃ k : Nat, k ≤ ns.length ∧ i = .int .i64 k ∧ wr.ownsRow w.heap.size 9 1 r (dist (ns.take k)).length ((dist (ns.take k)).map Value.string) ∧ Kept Nil w wr) (fun _ i _ => ns.length - (intOf i).toNat)
  case atStart => exact ⟨0, Nat.zero_le _, rfl, World.ownsRow_lit w #[] 0 (Nat.le_refl _) (by decide) rfl, (Kept.refl Nil w).alloc _⟩
  case round =>
    obtain ⟨k, hk, rfl, hO, hK⟩ := hrel
    have HO := Lib.hid hO
    have HK := Lib.hid hK
    have hzz := hK.size
    clear hO hK
    by_cases hlt : k < ns.length
    · obtain ⟨s, es⟩ : ∃ v, ns[k]? = some v := ⟨_, List.getElem?_eq_getElem hlt⟩
      obtain ⟨b, off, e1, c0⟩ := (HR.out.kept HK.out (fun _ _ _ _ h => h)).at es
      subst e1
      have hbs : b < wr.heap.size := World.block_lt_of_cell? _ _ c0
      have hdl := dist_take_len ns k
      have htk : ns.take (k + 1) = ns.take k ++ [s] := by rw [List.take_add_one, es, Option.toList_some]
      have HTK := Lib.hid htk
      clear es htk
      obtain ⟨_, A3, c3, rfl, hS, hB⟩ := strs_of_own HO.out
      have HS := Lib.hid hS
      clear hS hB
      by_cases hin : findI (dist (ns.take k)) s < 0
      · have hds : dist (ns.take (k + 1)) = dist (ns.take k) ++ [s] := by rw [HTK.out, dist_snoc, dstep, if_neg ((findI_neg _ _).1 hin)]
        have HDS := Lib.hid hds
        obtain ⟨z, hz⟩ : ∃ z, findI (dist (ns.take k)) s = z := ⟨_, rfl⟩
        have HZ := Lib.hid hz
        rw [hz] at hin
        clear hds hz
        go_wp2_with fail
        refine (FindS_is (dist (ns.take k)) A3 c3 s wr HS.out (by omega)).mono ?_
        rintro e w1 ⟨rfl, rfl⟩
        rw [HZ.out]
        go_wp2_with (at_builtin; refine stop_append _ _ _ rfl ?_)
        unfold StopA
        refine wpList_append_own _ rfl _ _ 36 rfl w.heap.size 9 j0 (.string ⟨#[]⟩) 1 16 Try.underlying36 hjnf hy0 hy1 hy2 rfl (by decide) _ _ _ rfl (HO.out.alloc _) ⟨wr.heap.size, 0, none⟩ 1 1 [.string s] rfl rfl (cells_new _ _ _) (by simp [Value.oneCell']) (by unfold maxLen; omega) (by omega) (by simp; omega) ?_
        intro r' w5 hown' hgrow _
        have HO5 := Lib.hid (show w5.ownsRow w.heap.size 9 1 r' (dist (ns.take (k + 1))).length ((dist (ns.take (k + 1))).map Value.string) from by
          rw [HDS.out]
          simpa using hown')
        have HK5 := Lib.hid ((HK.out.alloc (.cells #[.string s] 9)).grown hgrow (fun j e => .inr (HO.out.lt j e).1))
        clear hown' hgrow
        go_wp2_with fail
        go_round
        case measure => (simp [intOf] <;> omega)
        exact ⟨k + 1, by omega, by go_num, HO5.out, HK5.out⟩
      · have hds : dist (ns.take (k + 1)) = dist (ns.take k) := by
          rw [HTK.out, dist_snoc, dstep, if_pos]
          exact Decidable.not_not.1 fun h => hin ((findI_neg _ _).2 h)
        have HDS := Lib.hid hds
        obtain ⟨z, hz⟩ : ∃ z, findI (dist (ns.take k)) s = z := ⟨_, rfl⟩
        have HZ := Lib.hid hz
        rw [hz] at hin
        have hin2 : 0 ≤ z := by omega
        clear hds hz hin
        go_wp2_with fail
        refine (FindS_is (dist (ns.take k)) A3 c3 s wr HS.out (by omega)).mono ?_
        rintro e w1 ⟨rfl, rfl⟩
        rw [HZ.out]
        go_wp2_with fail
        go_round
        case measure => (simp [intOf] <;> omega)
        exact ⟨k + 1, by omega, by go_num, by rw [HDS.out]; exact HO.out, HK.out⟩
    · obtain rfl : k = ns.length := by omega
      rw [List.take_length] at HO
      go_wp2_with fail
      go_ret
      exact ⟨_, rfl, HO.out, HK.out⟩
set_option maxHeartbeats 2000000 in
theorem Same_is (xs : List ByteArray) (A B : Option Addr) (capA capB : Nat) (w : World) (hr : RStrs w A xs) (hr2 : RStrs w B xs) (hn : xs.length ≤ 4294967296) :
    Calls Try.prog 16 #[.slice A xs.length capA, .slice B xs.length capB] w fun e w' => e = .returned (.bool true) ∧ Kept Nil w w' := by
  have HR := Lib.hid hr
  have HR2 := Lib.hid hr2
  clear hr hr2
  go_enter Try.func16, Try.ntmps16
  go_wp2
  go_loopw [5] (fun i wr => ∃ k : Nat, k ≤ xs.length ∧ i = .int .i64 k ∧ Kept Nil w wr) (fun i _ => xs.length - (intOf i).toNat)
  case atStart => exact ⟨0, Nat.zero_le _, rfl, Kept.refl _ _⟩
  case round =>
    obtain ⟨k, hk, rfl, hK⟩ := hrel
    have HK := Lib.hid hK
    clear hK
    by_cases hlt : k < xs.length
    · obtain ⟨z, ez⟩ : ∃ x, xs[k]? = some x := ⟨_, List.getElem?_eq_getElem hlt⟩
      obtain ⟨b, off, rfl, c0⟩ := (HR.out.kept HK.out (fun _ _ _ _ h => h)).at ez
      obtain ⟨b2, off2, rfl, d0⟩ := (HR2.out.kept HK.out (fun _ _ _ _ h => h)).at ez
      clear ez
      go_wp2_with fail
      go_big_quiet (fail)
      go_wp2_with fail
      go_round
      case rel => exact ⟨k + 1, by omega, by go_num, HK.out.drewN _⟩
      case measure => (simp [intOf] <;> omega)
    · obtain rfl : k = xs.length := by omega
      go_wp2
      go_ret
      exact ⟨rfl, HK.out⟩
end Go.Proofs.Ytnohhpinigkccaa.Mo
