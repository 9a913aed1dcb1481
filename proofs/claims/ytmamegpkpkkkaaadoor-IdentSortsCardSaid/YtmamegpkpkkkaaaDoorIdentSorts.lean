/- The walk of the statement IdentSorts. -/
import Derived.Test.YtmamegpkpkkkaaaDoorIdentAlive
import Derived.Test.YtmamegpkpkkkaaaDoorSortsP
import Derived.Test.YtmamegpkpkkkaaaDoorRowOf
import Derived.Laws.Runes
import Derived.Deep.Cut
import Derived.Deep.CutRange
namespace Go.Proofs.YtmamegpkpkkkaaaDoor.Mo
open Go Go.RowKit Go.Proofs.YtmamegpkpkkkaaaDoor.Lb
set_option linter.unusedVariables false
set_option linter.unusedSimpArgs false
theorem strs_nil {w w' : World} {A : Option Addr} {ns : List ByteArray} (hk : Kept Nil w w') (h : RStrs w A ns) : RStrs w' A ns := h.kept hk (fun _ _ _ _ h => h)
theorem reads_nil {w w' : World} {A : Option Addr} {K : IntKind} {zs : List Int} (h : Sc.Reads w K A zs) (hk : Kept Nil w w') : Sc.Reads w' K A zs := by
  rcases h with h | ⟨b, off, h, hc⟩
  · exact .inl h
  · exact .inr ⟨b, off, h, fun j hj => hk.cell (hc j hj) (fun h => h)⟩
theorem reads_get {w : World} {A : Option Addr} {K : IntKind} {zs : List Int} (h : Sc.Reads w K A zs) {k : Nat} {z : Int} (hz : zs[k]? = some z) : ∃ b off, A = some ⟨b, off, none⟩ ∧ w.cell? ⟨b, off + k, none⟩ = some (.int K z) := by
  rcases h with rfl | ⟨b, off, h, hc⟩
  · simp at hz
  · refine ⟨b, off, h, ?_⟩
    rw [hc k (List.getElem?_eq_some_iff.1 hz).1, hz]; rfl
theorem enc_low (z : Int) : Utf8.encode (97 + ((z % 26).toNat : Int)) = ⟨#[low z]⟩ := by
  have h : ∀ m : Fin 26, Utf8.encode (97 + (m.1 : Int)) = ⟨#[UInt8.ofNat (97 + m.1)]⟩ := by decide +kernel
  exact h ⟨(z % 26).toNat, by omega⟩
theorem Sorted_atn (ns : List ByteArray) (n : Nat) (r : Bool) (A : Option Addr) (cap : Nat) (hn : ns.length = n) (hs : sortB ns = r) (w : World) (hr : RStrs w A ns) (hm : n ≤ 1000000) :
    Calls Tryd.prog 14 #[.slice A n cap] w fun e w' => e = .returned (.bool r) ∧ Kept Nil w w' := by
  subst hn hs
  exact Sorted_is ns A cap w hr hm
theorem Find_atn (ns : List ByteArray) (n : Nat) (f : Int) (A : Option Addr) (cap : Nat) (s : ByteArray) (hn : ns.length = n) (hf : findI ns s = f) (w : World) (hr : RStrs w A ns) (hm : n ≤ 9223372036854775807) :
    Calls Tryd.prog 16 #[.slice A n cap, .string s] w fun e w' => e = .returned (.int .i64 f) ∧ w = w' := by
  subst hn hf
  exact FindI_is ns A cap s w hr hm
theorem distinct_atn (ns ds : List ByteArray) (n : Nat) (A : Option Addr) (cap : Nat) (hn : ns.length = n) (hd : dist ns = ds) (hdl : ds.length ≤ 1000) (w : World) (hr : RStrs w A ns) (hl : n ≤ 100000) (hs : ∀ s ∈ ns, s.size ≤ maxLen) :
    Calls Tryd.prog 19 #[.slice A n cap, .int .i64 1000] w fun e w' => ∃ B c, e = .returned (.slice B ds.length c) ∧ Kept Nil w w' := by
  subst hn hd
  refine (distinct_is ns A cap 1000 w hr hl hs (by decide)).mono ?_
  rintro e w' ⟨v, rfl, ho, hk⟩
  rw [show (dist ns).take (1000 : Int).toNat = dist ns from List.take_of_length_le (by simp only [Int.reduceToNat]; omega)] at ho
  obtain ⟨B, c, rfl⟩ := own_slice ho
  exact ⟨B, c, rfl, hk⟩
theorem strs_srcn {w : World} {A : Option Addr} {ns : List ByteArray} {n cap : Nat} (hn' : ns.length = n) (h : RStrs w A ns) (hn : A = none → cap = 0) : SrcRow w 1 (.slice A n cap) n (ns.map Value.string) := by
  subst hn'
  have h9 : RowOf w A 1 (fun s : ByteArray => [Value.string s]) ns := by
    rcases h with h | ⟨b, off, e, hc⟩
    · exact .inl h
    · refine .inr ⟨b, off, e, fun j o hj c hcc => ?_⟩
      obtain rfl : c = 0 := by omega
      rw [Nat.mul_one]
      exact hc j o hj
  have := h9.src (fun _ => rfl) (by decide) hn
  have hf : ∀ l : List ByteArray, l.flatMap (fun s : ByteArray => [Value.string s]) = l.map Value.string := by
    intro l
    induction l with
    | nil => rfl
    | cons x xs ih => rw [List.flatMap_cons, ih]; rfl
  rw [hf] at this
  exact this
set_option maxRecDepth 4000 in
set_option maxHeartbeats 16000000 in
theorem IdentSorts_calls (s : ByteArray) (zs : List Int) (A : Option Addr) (cap : Nat) (w : World) (hs : s.size ≤ maxLen) (hm : zs.length ≤ maxLen) (hr : Sc.Reads w .u8 A zs) (hz : ∀ z ∈ zs, 0 ≤ z ∧ z ≤ 255) :
    Calls Tryd.prog 5 #[.string s, .slice A zs.length cap] w fun e w' => e = .returned (.bool true) ∧ Kept Nil w w' := by
  have HR := Lib.hid hr
  have HZ := Lib.hid hz
  unfold maxLen at hm
  clear hr hz
  go_enter Tryd.func5, Tryd.ntmps5
  go_wp2_with fail
  refine (alive_is w).mono ?_
  rintro e w1 ⟨rfl, hk1⟩
  by_cases h1 : 100 < s.size
  · have f1 : decide (100 < (s.size : Int)) = true := decide_eq_true (by omega)
    have f1b : decide (100 < s.size) = true := decide_eq_true (by omega)
    clear h1
    go_wp2_with fail
    go_ret
    exact ⟨rfl, hk1⟩
  · have f1 : decide (100 < (s.size : Int)) = false := decide_eq_false (by omega)
    have f1b : decide (100 < s.size) = false := decide_eq_false (by omega)
    by_cases h2 : 20 < zs.length
    · have f2 : decide (20 < (zs.length : Int)) = true := decide_eq_true (by omega)
      have f2b : decide (20 < zs.length) = true := decide_eq_true (by omega)
      clear h1 h2
      go_wp2_with fail
      go_ret
      exact ⟨rfl, hk1⟩
    · have f2 : decide (20 < (zs.length : Int)) = false := decide_eq_false (by omega)
      have f2b : decide (20 < zs.length) = false := decide_eq_false (by omega)
      have hl20 : zs.length ≤ 20 := by omega
      have hs100 : s.size ≤ 100 := by omega
      clear h1 h2
      cases hrs : rightName s with
      | false =>
        have hn : nameC s = 40 := by unfold nameC; rw [if_neg (by rw [hrs]; simp)]
        clear hrs
        go_wp2_with (go_at_call 12; (with_reducible refine (Check_is s _ hs).mono ?_); rintro e w3 ⟨rfl, rfl⟩)
        go_ret
        exact ⟨rfl, hk1⟩
      | true =>
        have hn : nameC s = 0 := by unfold nameC; rw [if_pos hrs]
        have HRS := Lib.hid hrs
        have HR1 := Lib.hid (reads_nil HR.out hk1)
        have HK1 := Lib.hid hk1
        clear hrs hk1
        obtain ⟨j0, hjnf, hy0, hy1, hy2⟩ := info_parts infoStr
        go_wp2_with (go_at_call 12; (with_reducible refine (Check_is s _ hs).mono ?_); rintro e w3 ⟨rfl, rfl⟩)
        clear hn f1 f1b f2 f2b
        go_loopw [5, 30] (fun l i wr => ∃ k : Nat, k ≤ zs.length ∧ i = .int .i64 k ∧ wr.ownsRow w1.heap.size 9 1 l (k + 1) ((chain s zs k).map Value.string) ∧ Kept Nil w1 wr) (fun _ i _ => zs.length - (intOf i).toNat)
        case atStart =>
          refine ⟨0, Nat.zero_le _, rfl, ?_, (Kept.refl Nil w1).alloc _⟩
          have h9 := World.ownsRow_lit (base := w1.heap.size) (e := 9) (size := 1) w1 #[.string s] 1 (Nat.le_refl _) (by decide) rfl
          rw [chain_zero]
          exact h9
        case round =>
          obtain ⟨k, hk, rfl, hO, hK⟩ := hrel
          obtain ⟨A5, c5, rfl⟩ := own_slice hO
          have HO := Lib.hid hO
          have HK := Lib.hid hK
          have hzz := hK.size
          clear hO hK
          by_cases hlt : k < zs.length
          · obtain ⟨z, ez⟩ : ∃ v, zs[k]? = some v := ⟨_, List.getElem?_eq_getElem hlt⟩
            have hzb := HZ.out z (List.mem_of_getElem? ez)
            obtain ⟨b, off, e9, c0⟩ := reads_get (reads_nil HR1.out HK.out) ez
            have hO9 := HO.out
            obtain ⟨-, A6, c6, e6, hA6, -⟩ := strs_of_own (l := chain s zs k) hO9
            rw [chain_len] at e6
            cases e6
            obtain ⟨b2, off2, e8, c1⟩ := hA6.at (chain_get s zs (Nat.le_refl k))
            obtain ⟨m, hm26⟩ : ∃ m : Nat, (z % 26).toNat = m := ⟨_, rfl⟩
            have hm2 : m < 26 := by omega
            have ht : Int.tmod z 26 = (m : Int) := by rw [Int.tmod_eq_emod_of_nonneg hzb.1]; omega
            have w1' : IntKind.u8.wrap (97 + (m : Int)) = 97 + (m : Int) := by rw [IntKind.wrap_u8]; omega
            have w2' : IntKind.i32.wrap (97 + (m : Int)) = 97 + (m : Int) := by rw [IntKind.wrap_i32]; omega
            have enc : Utf8.encode (97 + (m : Int)) = ⟨#[low z]⟩ := by rw [← hm26]; exact enc_low z
            have w3' : IntKind.i64.wrap ((k : Int) + 1 - 1) = (k : Int) := by rw [IntKind.wrap_i64]; omega
            have w4' : IntKind.i64.wrap ((k : Int) + 1) = (k : Int) + 1 := by rw [IntKind.wrap_i64]; omega
            have w5' : IntKind.i64.wrap (k : Int) = (k : Int) := by rw [IntKind.wrap_i64]; omega
            have hnx := preS_next s zs ez
            obtain ⟨cur, hcur⟩ : ∃ x, preS s zs k = x := ⟨_, rfl⟩
            obtain ⟨nxt, hnxt⟩ : ∃ x, preS s zs (k + 1) = x := ⟨_, rfl⟩
            rw [hcur] at c1 hnx
            rw [hnxt] at hnx
            have hcsz : cur.size ≤ 200 := by rw [← hcur, preS_size s zs hk]; omega
            have hnsz : nxt.size = s.size + (k + 1) := by rw [← hnxt, preS_size s zs (by omega)]
            have hnm : nxt.size ≤ maxLen := by unfold maxLen; omega
            have HNXT := Lib.hid hnxt
            have EZ := Lib.hid ez
            have hrn := preS_right HRS.out (k := k + 1) (zs := zs) (by omega)
            rw [hnxt] at hrn
            have hkl : (k : Int) < (k : Int) + 1 := by omega
            clear ez hm26 hcur hnxt hzb hA6 hO9
            subst e9
            cases e8
            have hO5' : ∀ (w5 : World) (v' : Value), w5.ownsRow w1.heap.size 9 1 v' (k + 1 + 1) ((chain s zs k).map Value.string ++ [.string nxt]) → w5.ownsRow w1.heap.size 9 1 v' (k + 1 + 1) ((chain s zs (k + 1)).map Value.string) := fun w5 v' h => by rw [chain_next, List.map_append, HNXT.out]; exact h
            have HO5 := Lib.hid hO5'
            clear hO5'
            go_upto_region 10 with fail
            clear hcsz hnx enc w1' w2' w3' w5' ht c0 c1 hkl
            by_cases h64 : s.size + (k + 1) ≤ 64
            · skip
              have hn : nameC nxt = 0 := by unfold nameC; rw [if_pos (by rw [hrn]; exact decide_eq_true h64)]
              have d1 : decide ((nxt.size : Int) ≤ 64) = true := decide_eq_true (by omega)
              have d2 : decide (nxt.size ≤ 64) = true := decide_eq_true (by omega)
              clear h64 hrn hnsz
              go_wp2_with (first | (go_at_call 12; (with_reducible refine (Check_is nxt _ hnm).mono ?_); rintro e w4 ⟨rfl, rfl⟩) | (at_builtin; refine stop_append _ _ _ rfl ?_))
              unfold StopA
              refine wpList_append_own _ rfl _ _ 22 rfl w1.heap.size 9 j0 (.string ⟨#[]⟩) 1 16 Tryd.underlying22 hjnf hy0 hy1 hy2 rfl (by decide) _ (k + 1) _ rfl (HO.out.alloc _) ⟨wr.heap.size, 0, none⟩ 1 1 [.string nxt] rfl rfl (cells_new wr [.string nxt] 9) (by simp [Value.oneCell']) (by unfold maxLen; omega) (by omega) (by simp; omega) ?_
              intro v' w5 hown' hgrow _
              have hnew := HO5.out w5 v' hown'
              have hk5 := (HK.out.alloc (.cells #[.string nxt] 9)).grown hgrow (fun j e => .inr (HO.out.lt j e).1)
              have HNEW := Lib.hid hnew
              have HK5 := Lib.hid hk5
              clear hown' hgrow hnew hk5
              go_wp2_with fail
              go_round
              case measure => (simp [intOf] <;> omega)
              exact ⟨k + 1, by omega, by go_num, HNEW.out, HK5.out⟩
            · skip
              have hn : nameC nxt = 40 := by unfold nameC; rw [if_neg (by rw [hrn, decide_eq_false h64]; simp)]
              have d1 : decide ((nxt.size : Int) ≤ 64) = false := decide_eq_false (by omega)
              have d2 : decide (nxt.size ≤ 64) = false := decide_eq_false (by omega)
              clear h64 hrn hnsz
              go_wp2_with (first | (go_at_call 12; (with_reducible refine (Check_is nxt _ hnm).mono ?_); rintro e w4 ⟨rfl, rfl⟩) | (at_builtin; refine stop_append _ _ _ rfl ?_))
              unfold StopA
              refine wpList_append_own _ rfl _ _ 22 rfl w1.heap.size 9 j0 (.string ⟨#[]⟩) 1 16 Tryd.underlying22 hjnf hy0 hy1 hy2 rfl (by decide) _ (k + 1) _ rfl (HO.out.alloc _) ⟨wr.heap.size, 0, none⟩ 1 1 [.string nxt] rfl rfl (cells_new wr [.string nxt] 9) (by simp [Value.oneCell']) (by unfold maxLen; omega) (by omega) (by simp; omega) ?_
              intro v' w5 hown' hgrow _
              have hnew := HO5.out w5 v' hown'
              have hk5 := (HK.out.alloc (.cells #[.string nxt] 9)).grown hgrow (fun j e => .inr (HO.out.lt j e).1)
              have HNEW := Lib.hid hnew
              have HK5 := Lib.hid hk5
              clear hown' hgrow hnew hk5
              go_wp2_with fail
              go_round
              case measure => (simp [intOf] <;> omega)
              exact ⟨k + 1, by omega, by go_num, HNEW.out, HK5.out⟩
          · obtain rfl : k = zs.length := by omega
            obtain ⟨n, hnz⟩ : ∃ n, zs.length = n := ⟨_, rfl⟩
            obtain ⟨L, hL⟩ : ∃ L, chain s zs zs.length = L := ⟨_, rfl⟩
            have hLl : L.length = n + 1 := by rw [← hL, chain_len, hnz]
            have hO9 := HO.out
            rw [hL] at hO9
            obtain ⟨-, A6, c6, e6, hA6, -⟩ := strs_of_own hO9
            rw [hLl] at e6
            rw [hnz] at e6 hO9 hl20
            have hLs := chain_sorted s zs
            have hLb := chain_back s zs
            have hLd := chain_dist s zs
            have hLf := chain_find s zs zs.length
            rw [hL] at hLs hLb hLd hLf
            rw [hnz] at hLb
            have HLS := Lib.hid hLs
            have HLS2 := Lib.hid (show ∀ x ∈ L, x.size ≤ maxLen by
              intro x hx
              rw [← hL] at hx
              obtain ⟨q, hq, rfl⟩ := List.mem_map.1 hx
              have hq' := List.mem_range.1 hq
              rw [preS_size s zs (by omega)]
              unfold maxLen
              omega)
            have HLB := Lib.hid hLb
            have HLD := Lib.hid hLd
            have HLF := Lib.hid hLf
            have HLL := Lib.hid hLl
            have HA6 := Lib.hid hA6
            have hcap6 : n + 1 ≤ c6 := by
              rcases own_form hO9 with ⟨h1, h2, _⟩ | ⟨g, cap, h1, _, _, h4, _⟩
              · omega
              · cases h1; cases e6; exact h4
            have hc6n : A6 = none → c6 = 0 := by
              rcases own_form hO9 with ⟨h1, h2, _⟩ | ⟨g, cap, h1, _, _, h4, _⟩
              · omega
              · cases h1; cases e6; exact fun h => by cases h
            cases e6
            have HC6 := Lib.hid hc6n
            have w3' : IntKind.i64.wrap ((n : Int) + 1 - 1) = (n : Int) := by rw [IntKind.wrap_i64]; omega
            have w5' : IntKind.i64.wrap (n : Int) = (n : Int) := by rw [IntKind.wrap_i64]; omega
            have hnlt : decide ((n : Int) < (n : Int)) = false := by simp
            clear hO9 hLs hLb hLd hLf hLl hA6 hc6n hL
            rw [hnz]
            clear hnz
            go_wp2_with fail
            have HAR := Lib.hid (show RStrs wr A5 L from HA6.out)
            obtain ⟨WB, hWB⟩ : ∃ W, wr.alloc (.cells #[] 9) = W := ⟨_, rfl⟩
            have hOB : WB.ownsRow wr.heap.size 9 1 (.slice (some ⟨wr.heap.size, 0, none⟩) 0 0) 0 [] := by
              rw [← hWB]; exact World.ownsRow_lit (base := wr.heap.size) (e := 9) (size := 1) wr #[] 0 (Nat.le_refl _) (by decide) rfl
            have hKB : Kept Nil wr WB := by rw [← hWB]; exact (Kept.refl Nil wr).alloc _
            have HOB := Lib.hid hOB
            have HKB := Lib.hid hKB
            rw [hWB]
            clear hWB hOB hKB
            obtain ⟨wa, hwa⟩ : ∃ x, x = wr := ⟨_, rfl⟩
            subst hwa
            go_loopw [9, 10] (fun bk i wx => ∃ q : Nat, q ≤ n + 1 ∧ i = .int .i64 ((q : Int) - 1) ∧ wx.ownsRow wa.heap.size 9 1 bk (n + 1 - q) ((L.reverse.take (n + 1 - q)).map Value.string) ∧ Kept Nil wa wx) (fun _ i _ => (intOf i + 1).toNat)
            case atStart =>
              exact ⟨n + 1, Nat.le_refl _, congrArg (Value.int .i64) (by omega), by rw [Nat.sub_self]; exact HOB.out, HKB.out⟩
            case round =>
              obtain ⟨q, hq, rfl, hO, hK⟩ := hrel
              obtain ⟨A7, c7, rfl⟩ := own_slice hO
              have HOQ := Lib.hid hO
              have HKQ := Lib.hid hK
              have hzq := hK.size
              clear hO hK
              cases q with
              | succ p =>
                have hpl : p < n + 1 := by omega
                obtain ⟨t, et⟩ : ∃ t, L[p]? = some t := ⟨_, List.getElem?_eq_getElem (by rw [HLL.out]; exact hpl)⟩
                obtain ⟨b2, off2, e8, c1⟩ := (strs_nil HKQ.out HAR.out).at et
                have e1 : ((p + 1 : Nat) : Int) - 1 = (p : Int) := by omega
                rw [e1]
                have b1 : decide ((0 : Int) ≤ (p : Int)) = true := decide_eq_true (by omega)
                have w6' : IntKind.i64.wrap ((p : Int) - 1) = (p : Int) - 1 := by rw [IntKind.wrap_i64]; omega
                have hp1 : (p : Int) < (n : Int) + 1 := by omega
                have ET := Lib.hid et
                have HREV := Lib.hid (show L.reverse[n + 1 - (p + 1)]? = some t by
                  rw [List.getElem?_reverse (by rw [HLL.out]; omega), HLL.out, show n + 1 - 1 - (n + 1 - (p + 1)) = p by omega]; exact et)
                clear et e1
                subst e8
                go_wp2_with (at_builtin; refine stop_append _ _ _ rfl ?_)
                unfold StopA
                refine wpList_append_own _ rfl _ _ 22 rfl wa.heap.size 9 j0 (.string ⟨#[]⟩) 1 16 Tryd.underlying22 hjnf hy0 hy1 hy2 rfl (by decide) _ (n + 1 - (p + 1)) _ rfl (HOQ.out.alloc _) ⟨wr.heap.size, 0, none⟩ 1 1 [.string t] rfl rfl (cells_new wr [.string t] 9) (by simp [Value.oneCell']) (by unfold maxLen; omega) (by omega) (by simp; omega) ?_
                intro v' w5 hown' hgrow _
                have hnew : w5.ownsRow wa.heap.size 9 1 v' (n + 1 - p) ((L.reverse.take (n + 1 - p)).map Value.string) := by
                  rw [show n + 1 - p = n + 1 - (p + 1) + 1 by omega, List.take_add_one, HREV.out, Option.toList_some, List.map_append]
                  exact hown'
                have hk5 := (HKQ.out.alloc (.cells #[.string t] 9)).grown hgrow (fun j e => .inr (HOQ.out.lt j e).1)
                have HNEW := Lib.hid hnew
                have HK5 := Lib.hid hk5
                clear hown' hgrow hnew hk5
                go_wp2_with fail
                go_round
                case measure => (simp [intOf] <;> omega)
                exact ⟨p, by omega, rfl, HNEW.out, HK5.out⟩
              | zero =>
                have e1 : ((0 : Nat) : Int) - 1 = -1 := by omega
                rw [e1]
                clear e1
                obtain ⟨R, hR⟩ : ∃ R, L.reverse = R := ⟨_, rfl⟩
                have hRl : R.length = n + 1 := by rw [← hR, List.length_reverse, HLL.out]
                have hOR := HOQ.out
                rw [show n + 1 - 0 = n + 1 from rfl, hR, List.take_of_length_le (by omega)] at hOR
                have hlb := HLB.out
                have hld := HLD.out
                rw [hR] at hlb hld
                obtain ⟨-, A8, c8, e8, hA8, -⟩ := strs_of_own hOR
                rw [hRl] at e8
                have hc8 : A8 = none → c8 = 0 := by
                  rcases own_form hOR with ⟨h1, h2, _⟩ | ⟨g, cap, h1, _, _, h4, _⟩
                  · omega
                  · rw [e8] at h1; cases h1; exact fun h => by cases h
                cases e8
                obtain ⟨r, hrr⟩ : ∃ r, decide (n + 1 < 2) = r := ⟨_, rfl⟩
                rw [hrr] at hlb
                have d1 : decide ((n : Int) + 1 < 2) = r := by rw [← hrr]; exact decide_eq_decide.2 (by omega)
                have d2 : (r == r) = true := beq_self_eq_true _
                have HLBr := Lib.hid hlb
                have HLDr := Lib.hid hld
                have HRL := Lib.hid hRl
                have HAR2 := Lib.hid (strs_nil HKQ.out HAR.out)
                have HA8 := Lib.hid hA8
                have HC8 := Lib.hid hc8
                have HSZ := Lib.hid (show ∀ x ∈ L ++ R, x.size ≤ maxLen by
                  intro x hx
                  have hx' : x ∈ L := by
                    rcases List.mem_append.1 hx with h | h
                    · exact h
                    · rw [← hR] at h; exact List.mem_reverse.1 h
                  exact HLS2.out x hx')
                have hnA : nameC (s ++ ⟨#[65]⟩) = 40 := by unfold nameC; rw [if_neg (by rw [bad_A]; simp)]
                have hsA : (s ++ (⟨#[65]⟩ : ByteArray)).size ≤ maxLen := by
                  rw [← size_list, ByteArray.data_append, Array.toList_append, List.length_append, size_list]
                  unfold maxLen
                  simp
                  omega
                have hLN : ((L.length : Int) == (n : Int) + 1) = true := by rw [HLL.out]; simp
                have hn1000 : n + 1 ≤ 1000 := by omega
                clear hrr hlb hld hA8 hc8 hOR hR hRl
                go_wp2_with (first | (go_at_call 14; (with_reducible refine (Sorted_atn L (n + 1) true A5 c5 HLL.out HLS.out _ ?_ ?_).mono ?_); exact strs_nil (by repeat (first | exact Kept.refl _ _ | assumption | refine Kept.drew ?_ | refine Kept.drewN ?_ _ | refine Kept.alloc ?_ _ | refine Kept.step ?_ (by assumption))) HAR2.out; omega; rintro e w74 ⟨rfl, hk74⟩) | (go_at_call 14; (with_reducible refine (Sorted_atn R (n + 1) r A7 c7 HRL.out HLBr.out _ ?_ ?_).mono ?_); exact strs_nil (by repeat (first | exact Kept.refl _ _ | assumption | refine Kept.drew ?_ | refine Kept.drewN ?_ _ | refine Kept.alloc ?_ _ | refine Kept.step ?_ (by assumption))) HA8.out; omega; rintro e w77 ⟨rfl, hk77⟩) | (at_builtin; refine stop_append _ _ _ rfl ?_))
                unfold StopA
                refine wpList_strip rfl ?_
                refine wpList_append_src rfl _ _ 22 rfl w77.heap.size 9 j0 (.string ⟨#[]⟩) 1 16 Tryd.underlying22 hjnf hy0 hy1 hy2 rfl (by decide) (.slice (some ⟨w77.heap.size, 0, none⟩) 0 0) 0 [] rfl (World.ownsRow_lit w77 #[] 0 (Nat.le_refl _) (by decide) rfl) (.slice A5 (n + 1) c5) (n + 1) (L.map Value.string) rfl (strs_srcn HLL.out (strs_nil (by repeat (first | exact Kept.refl _ _ | assumption | refine Kept.alloc ?_ _ | refine Kept.step ?_ (by assumption))) HAR2.out) HC6.out) (fun u hu => by obtain ⟨q, _, rfl⟩ := List.mem_map.1 hu; rfl) (by unfold maxLen; omega) (by omega) (by simp) ?_
                intro v5 w5 hown5 hgrow5
                rw [Nat.zero_add, List.nil_append] at hown5
                obtain ⟨A9, c9, rfl⟩ := own_slice hown5
                have hk5 : Kept Nil w77 w5 := ((Kept.refl Nil w77).alloc (.cells #[] 9)).grown hgrow5 (fun j e => .inr (by have h9 : w77.heap.size = j := (by simpa [Value.ownBlock] using e); omega))
                have HOW5 := Lib.hid hown5
                have HK5 := Lib.hid hk5
                have hz5 := hk5.size
                clear hown5 hgrow5
                go_wp2_with (at_builtin; refine stop_append _ _ _ rfl ?_)
                unfold StopA
                refine wpList_strip rfl ?_
                refine wpList_append_src rfl _ _ 22 rfl w77.heap.size 9 j0 (.string ⟨#[]⟩) 1 16 Tryd.underlying22 hjnf hy0 hy1 hy2 rfl (by decide) (.slice A9 (n + 1) c9) (n + 1) (L.map Value.string) rfl HOW5.out (.slice A7 (n + 1) c7) (n + 1) (R.map Value.string) rfl (strs_srcn HRL.out (strs_nil (by repeat (first | exact Kept.refl _ _ | assumption | refine Kept.drew ?_ | refine Kept.drewN ?_ _ | refine Kept.alloc ?_ _ | refine Kept.step ?_ (by assumption))) HA8.out) HC8.out) (fun u hu => by obtain ⟨q, _, rfl⟩ := List.mem_map.1 hu; rfl) (by unfold maxLen; omega) (by omega) (by omega) ?_
                intro v6 w6 hown6 hgrow6
                rw [← List.map_append] at hown6
                obtain ⟨-, A10, c10, e10, hA10, -⟩ := strs_of_own hown6
                rw [List.length_append, HLL.out, HRL.out] at e10
                subst e10
                have hk6 : Kept Nil w77 w6 := HK5.out.grown hgrow6 (fun j e => .inr (HOW5.out.lt j e).1)
                have HA10 := Lib.hid hA10
                clear hk5 hown6 hgrow6 hA10
                go_wp2_with (first | (go_at_call 19; (with_reducible refine (distinct_atn (L ++ R) L (n + 1 + (n + 1)) A10 c10 ?_ HLDr.out ?_ _ ?_ ?_ HSZ.out).mono ?_); (rw [List.length_append, HLL.out, HRL.out]); (rw [HLL.out]; omega); exact HA10.out; omega; rintro e w89 ⟨B89, c89, rfl, hk89⟩) | (go_at_call 12; (with_reducible refine (Check_is (s ++ ⟨#[65]⟩) _ hsA).mono ?_); rintro e w98 ⟨rfl, rfl⟩) | (go_at_call 16; (with_reducible refine (Find_atn L (n + 1) 0 A5 c5 s HLL.out HLF.out _ ?_ ?_).mono ?_); exact strs_nil (by repeat (first | exact Kept.refl _ _ | assumption | refine Kept.drew ?_ | refine Kept.drewN ?_ _ | refine Kept.alloc ?_ _ | refine Kept.step ?_ (by assumption))) HAR2.out; omega; rintro e w104 ⟨rfl, rfl⟩))
                go_ret
                exact ⟨rfl, HK1.out.step (HK.out.step (HKQ.out.step (by repeat (first | exact Kept.refl _ _ | assumption | refine Kept.drew ?_ | refine Kept.drewN ?_ _ | refine Kept.alloc ?_ _ | refine Kept.step ?_ (by assumption)))))⟩
end Go.Proofs.YtmamegpkpkkkaaaDoor.Mo
