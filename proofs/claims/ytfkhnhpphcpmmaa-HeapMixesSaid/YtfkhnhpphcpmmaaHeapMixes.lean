/- The walk of the statement HeapMixes. -/
import Derived.Test.YtfkhnhpphcpmmaaHpMixP
import Derived.Test.YtfkhnhpphcpmmaaCnt
import Derived.Test.YtfkhnhpphcpmmaaAppendR
import Derived.Maps.RangeWalk
import Derived.BigQuiet
namespace Go.Proofs.Ytfkhnhpphcpmmaa.HpItem
open Go Go.RowKit Go.Shelf Go.Maps Go.Proofs.Ytfkhnhpphcpmmaa.Lb Go.Proofs.Ytfkhnhpphcpmmaa.HpPure Go.Proofs.Ytfkhnhpphcpmmaa.Ref06
set_option linter.unusedVariables false
set_option linter.unusedSimpArgs false

def Stop (p : Prop) : Prop := p
theorem stop_append {P : Program} {w : World} {ops : Array Oper} {rest : List Oper} {o : Oper} {a : Act} {Q : Exit → Act → World → Prop} (s x : Operand) (t : TypeId)
    (ho : o.op = .call { callee := .builtin .append, args := #[s, x], argTypes := #[t, t] }) (h : Stop (wpList P ops Q (o :: rest) a w)) : wpList P ops Q (o :: rest) a w := h
theorem infoInt : (Try.prog.info? 3).map (fun i => (i.zero, i.size, i.bytes)) = some (some (.int .i64 0), 1, 8) := by kernel_rfl
theorem ints_len (l : List Int) : (l.map (Value.int .i64)).length = l.length := List.length_map ..
/-- A row of numbers that a call owns. -/
theorem ints_of_own {w : World} {base n : Nat} {v : Value} {l : List Int} (h : w.ownsRow base 3 1 v n (l.map (Value.int .i64))) : n = l.length ∧ ∃ A cap, v = .slice A l.length cap ∧ Sc.Reads w .i64 A l ∧ (∀ b off, A = some ⟨b, off, none⟩ → base ≤ b ∧ b < w.heap.size ∧ v.ownBlock = some b) := by
  have hl := h.1
  rw [List.length_map, Nat.mul_one] at hl
  subst hl
  refine ⟨rfl, ?_⟩
  rcases own_form h with ⟨h1, h2, h3⟩ | ⟨g, cap, h1, h2, h3, h4, h5⟩
  · exact ⟨none, 0, by rw [h1, h2], .inl (List.eq_nil_of_length_eq_zero h2), fun _ _ e => by cases e⟩
  · subst h1
    refine ⟨some ⟨g, 0, none⟩, cap, rfl, .inr ⟨g, 0, rfl, fun j hj => ?_⟩, fun b off e => by cases e; exact ⟨h2, h3, rfl⟩⟩
    rw [Nat.zero_add, List.getElem?_eq_getElem hj]
    exact own_cell h (by rw [List.getElem?_map, List.getElem?_eq_getElem hj]; rfl)
theorem reads_at {w : World} {A : Option Addr} {zs : List Int} (h : Sc.Reads w .i64 A zs) {k : Nat} {z : Int} (hz : zs[k]? = some z) : ∃ b off, A = some ⟨b, off, none⟩ ∧ w.cell? ⟨b, off + k, none⟩ = some (.int .i64 z) := by
  rcases h with rfl | ⟨b, off, h, hc⟩
  · simp at hz
  · refine ⟨b, off, h, ?_⟩
    rw [hc k (List.getElem?_eq_some_iff.1 hz).1, hz]; rfl
theorem reads_kept {w w' : World} {S : Nat → Prop} {A : Option Addr} {zs : List Int} (h : Sc.Reads w .i64 A zs) (hk : Kept S w w') (hS : ∀ b off, A = some ⟨b, off, none⟩ → ¬ S b) : Sc.Reads w' .i64 A zs := by
  rcases h with h | ⟨b, off, h, hc⟩
  · exact .inl h
  · exact .inr ⟨b, off, h, fun j hj => hk.cell (hc j hj) (hS b off h)⟩

theorem IsHeap.own_lt {w : World} {base h lf : Nat} {lcap : Array Value} {v : Value} {xs : List (It × Int)} {seq : Int} (H : IsHeap w base h lf lcap v xs seq) {i : Nat} (hi : Own h v i) : i < w.heap.size := by
  rcases hi with rfl | hi
  · exact H.cells.2.2.2.2
  · exact (H.own.lt i hi).2

set_option maxRecDepth 4000 in
set_option maxHeartbeats 8000000 in
theorem HeapMixes_calls (la : List Int) (A : Option Addr) (capA : Nat) (lb : List Int) (B : Option Addr) (capB : Nat) (w : World) (hmA : la.length ≤ maxLen) (hwA : ∀ z ∈ la, Sc.I64 z) (hrA : Sc.Reads w .i64 A la) (hcA : A = none → capA = 0)
    (hmB : lb.length ≤ maxLen) (hwB : ∀ z ∈ lb, Sc.I64 z) (hrB : Sc.Reads w .i64 B lb) (hcB : B = none → capB = 0) :
    Calls Try.prog 6 #[.slice A la.length capA, .slice B lb.length capB] w fun e w' => e = .returned (.bool true) ∧ Below w.heap.size w w' := by
  obtain ⟨i0, hinf, hz0, hz1, hz2⟩ := info_parts info2
  obtain ⟨j0, hjnf, hy0, hy1, hy2⟩ := info_parts infoInt
  have HA := Lib.hid hrA
  have HB := Lib.hid hrB
  have HCA := Lib.hid hcA
  have HCB := Lib.hid hcB
  have HWA := Lib.hid hwA
  have HWB := Lib.hid hwB
  clear hrA hrB hcA hcB hwA hwB
  unfold maxLen at hmA hmB
  by_cases h100 : 100 < la.length ∨ 100 < lb.length
  · go_enter Try.func6, Try.ntmps6
    go_wp2_with fail
    refine (alive_is w).mono ?_
    rintro e w1 ⟨rfl, hk1⟩
    have HK := Lib.hid hk1
    clear hk1
    rcases h100 with h | h
    · go_wp2_with fail
      go_ret
      exact ⟨rfl, HK.out.toBelow⟩
    · by_cases h' : 100 < la.length
      · go_wp2_with fail
        go_ret
        exact ⟨rfl, HK.out.toBelow⟩
      · go_wp2_with fail
        go_ret
        exact ⟨rfl, HK.out.toBelow⟩
  · have h1a : la.length ≤ 100 := by omega
    have h1b : lb.length ≤ 100 := by omega
    clear h100
    go_enter Try.func6, Try.ntmps6
    go_wp2_with fail
    refine (alive_is w).mono ?_
    rintro e w1 ⟨rfl, hk1⟩
    have HK := Lib.hid hk1
    have hw1 := hk1.size
    clear hk1
    have hmm := @run_makeMap Try.prog
    go_wp2_with (at_builtin; refine stop_append _ _ _ rfl ?_)
    unfold Stop
    refine wpList_append_reads rfl _ _ 42 rfl (w1.heap.size + 2) 3 j0 (.int .i64 0) 8 Try.underlying42 hjnf hy0 hy1 hy2 rfl (.slice (some ⟨w1.heap.size + 1 + 1, 0, none⟩) 0 0) 0 [] rfl (by have h9 := World.ownsRow_lit (base := w1.heap.size + 2) (e := 3) (size := 1) ((w1.alloc (.map #[] 0)).alloc (.cells #[] 27)) #[] 0 (by simp) (by decide) rfl; simpa only [World.size_alloc] using h9) .i64 A capA la rfl (reads_kept HA.out (((HK.out.alloc _).alloc _).alloc _) (fun _ _ _ h => h)) HCA.out (by unfold maxLen; omega) (by omega) (by simp <;> omega) ?_; intro v3 w3 hO3 hg3
    have HO3 := Lib.hid hO3
    have hkb := Kept.grown (S := Nil) (a := (w1.alloc (.map #[] 0)).alloc (.cells #[] 27)) ((Kept.refl _ _).alloc (.cells #[] 3)) hg3 (fun k e => .inr (by simp [Value.ownBlock] at e; simp <;> omega))
    have HKb := Lib.hid hkb
    have HKa := Lib.hid (((HK.out.alloc _).alloc _).step hkb)
    clear hO3 hg3 hkb
    go_wp2_with (at_builtin; refine stop_append _ _ _ rfl ?_)
    unfold Stop
    refine wpList_append_reads rfl _ _ 42 rfl (w1.heap.size + 2) 3 j0 (.int .i64 0) 8 Try.underlying42 hjnf hy0 hy1 hy2 rfl v3 la.length (la.map (Value.int .i64)) rfl (by simpa using HO3.out) .i64 B capB lb rfl (reads_kept HB.out HKa.out (fun _ _ _ h => h)) HCB.out (by unfold maxLen; omega) (by omega) (by have := HKb.out.size; simp at this; omega) ?_; intro v4 w4 hO4 hg4
    have hO4' : w4.ownsRow (w1.heap.size + 2) 3 1 v4 (la ++ lb).length ((la ++ lb).map (Value.int .i64)) := by simpa using hO4
    have hlz : (la ++ lb).length = la.length + lb.length := List.length_append
    have hwz : ∀ z ∈ la ++ lb, Sc.I64 z := fun z hz => (List.mem_append.1 hz).elim (HWA.out z) (HWB.out z)
    obtain ⟨zs, hzs⟩ : ∃ zs, la ++ lb = zs := ⟨_, rfl⟩
    rw [hzs] at hO4' hlz hwz
    have hl2 : zs.length ≤ 200 := by omega
    rw [← hlz] at hO4
    clear hO4 hzs
    obtain ⟨_, A4, c4, rfl, R4, B4⟩ := ints_of_own hO4'
    have hKc : Kept Nil w w4 := HKa.out.grown hg4 (fun k e => .inr (by have := (HO3.out.lt k e).1; omega))
    have hKb : Kept Nil ((w1.alloc (.map #[] 0)).alloc (.cells #[] 27)) w4 := HKb.out.grown hg4 (fun k e => .inr (by have := (HO3.out.lt k e).1; simp; omega))
    have hC4 : Cnt Try.prog 3 3 w1.heap.size 0 (fun _ => 0) w4 := ((Cnt.made w1 Try.prog 3 3).kept ((Kept.refl Nil _).alloc _) (fun h => h)).kept hKb (fun h => h)
    have hr4 : w4.ownsRow w.heap.size 27 2 (.slice (some ⟨w1.heap.size + 1, 0, none⟩) 0 0) 0 [] := by
      have h9 := World.ownsRow_lit (base := w.heap.size) (e := 27) (size := 2) (w1.alloc (.map #[] 0)) #[] 0 (by simp; omega) (by decide) rfl
      simp only [World.size_alloc] at h9
      exact hKb.own h9 (fun _ _ h => h)
    have hs4 : w1.heap.size + 2 ≤ w4.heap.size := by have := hKb.size; simp at this; omega
    have HWZ := Lib.hid hwz
    have HR4 := Lib.hid R4
    have HB4 := Lib.hid B4
    have HKc := Lib.hid hKc
    have HC4 := Lib.hid hC4
    have Hr4 := Lib.hid hr4
    have HLZ := Lib.hid hlz
    clear hO4' hwz R4 B4 hKc hKb hC4 hr4 hg4 hmm hlz
    go_wp2_with fail
    go_loopw [6, 40] (fun r i wr => ∃ k : Nat, k ≤ zs.length ∧ i = .int .i64 k ∧ wr.ownsRow w.heap.size 27 2 r (itemsOf (zs.take k)).length ((itemsOf (zs.take k)).flatMap It.cells) ∧ (∀ j, r.ownBlock = some j → j = w1.heap.size + 1 ∨ w4.heap.size ≤ j) ∧
        Cnt Try.prog 3 3 w1.heap.size k (fun t => ((zs.take k).count t : Int)) wr ∧ Kept (fun i => i = w1.heap.size ∨ i = w1.heap.size + 1) w4 wr) (fun _ i _ => zs.length - (intOf i).toNat)
    case atStart => exact ⟨0, Nat.zero_le _, rfl, Hr4.out, fun j e => .inl (by simp [Value.ownBlock] at e; omega), HC4.out, Kept.refl _ _⟩
    case round =>
      obtain ⟨k, hk, rfl, hO, hB, hC, hK⟩ := hrel
      have HO := Lib.hid hO
      have HBr := Lib.hid hB
      have HC := Lib.hid hC
      have HKr := Lib.hid hK
      have hzz := hK.size
      clear hO hB hC hK
      by_cases hlt : k < zs.length
      · obtain ⟨z, hz⟩ : ∃ z, zs[k]? = some z := ⟨_, List.getElem?_eq_getElem hlt⟩
        have hwf : (Lit.int .i64 z).wf = true := by have h9 := HWZ.out z (List.mem_of_getElem? hz); exact WalkArith.wf_i64 h9
        obtain ⟨b, off, rfl, hcz⟩ := reads_at HR4.out hz
        have hbb := (HB4.out b off rfl).1
        have hc := HKr.out.cell hcz (fun h => by simp at h; omega)
        have hmk := itemsOf_take zs hz
        have hl : (itemsOf (zs.take k)).length = k := by rw [itemsOf_len, List.length_take, Nat.min_eq_left (Nat.le_of_lt hlt)]
        have HMK := Lib.hid hmk
        have HL := Lib.hid hl
        obtain ⟨c, hcc⟩ : ∃ c : Nat, (zs.take k).count z = c := ⟨_, rfl⟩
        have hc200 : c ≤ 200 := by have := List.count_le_length (a := z) (l := zs.take k); rw [List.length_take] at this; omega
        have HCC := Lib.hid hcc
        have HZ := Lib.hid hz
        have HWF := Lib.hid hwf
        have hwc : (Lit.int .i64 ((c : Int) + 1)).wf = true := WalkArith.wf_i64 (by omega)
        have HWC := Lib.hid hwc
        clear hmk hz hl hcz hcc hwf hwc
        go_wp2_with (at_builtin; refine stop_append _ _ _ rfl ?_)
        unfold Stop
        refine wpList_append_own_at _ rfl _ _ 29 rfl w.heap.size 27 i0 (.agg #[.int .i64 0, .int .i64 0]) 2 16 Try.underlying29 hinf hz0 hz1 hz2 rfl (by decide) _ _ _ rfl (HO.out.alloc _) ⟨wr.heap.size, 0, none⟩ 1 1 [.int .i64 z, .int .i64 k] rfl rfl (cells_new _ _ _) (by simp [Value.oneCell']) (by rw [HL.out]; unfold maxLen; omega) (by rw [HL.out]; omega) (by have := HKc.out.size; simp; omega) ?_
        intro r' w5 hown' hgrow _ hat
        have hrb : ∀ j, _ = some j → ¬ j = w1.heap.size := fun j e h => by rcases HBr.out j e with h1 | h1 <;> omega
        have hk5 : Kept (fun i => _ = some i) wr w5 := Kept.grown ((Kept.refl _ wr).alloc _) hgrow (fun j e => .inl e)
        have hC5 := HC.out.kept hk5 (fun e => hrb _ e rfl)
        have hlook := hC5.look (T := 46) Try.underlying3 Try.underlying3 Try.underlying46 (fun w => by kernel_rfl) z HWF.out
        rw [HCC.out] at hlook
        obtain ⟨D5, hD5, hE5⟩ := hC5.own
        have HD5 := Lib.hid hD5
        have HE5 := Lib.hid hE5
        have HOW := Lib.hid hown'
        have HG := Lib.hid hgrow
        have HAT := Lib.hid hat
        have HK5 := Lib.hid hk5
        clear hown' hgrow hat hrb hk5 hC5 hD5 hE5
        go_wp2_with (at_mapUpdate; refine wpList_mapUpdate_own _ rfl _ _ _ 46 rfl 3 3 (int_keyed Try.underlying3) Try.underlying46 _ w1.heap.size k D5 rfl HD5.out (by unfold maxLen; omega) _ _ _ rfl rfl (keyOf_int_mk Try.underlying3 HWF.out) _ [] (plainElem_int Try.underlying3 HWC.out) ?_; intro w6 hown6 hgrow6)
        clear hlook
        have hk6 : Kept (fun i => i = w1.heap.size) w5 w6 := Kept.grown (Kept.refl _ w5) hgrow6 (fun j e => .inl (by cases e; rfl))
        have hB' : ∀ j, r'.ownBlock = some j → j = w1.heap.size + 1 ∨ w4.heap.size ≤ j := fun j e => by
          rcases HAT.out with h | h
          · exact HBr.out j (h ▸ e)
          · rw [h] at e; simp at e; omega
        go_round
        case measure => (simp [intOf] <;> omega)
        refine ⟨k + 1, by omega, by go_num, ?_, hB', ?_, ?_⟩
        · rw [HMK.out]
          have := hk6.own HOW.out (fun j e h => by rcases hB' j e with h1 | h1 <;> omega)
          simpa [It.cells] using this
        · refine (Cnt.put HD5.out.isMap HE5.out z ((c : Int) + 1) hown6).congr (fun t => ?_)
          have := count_snoc zs HZ.out t
          rw [HCC.out] at this
          exact this
        · exact (HKr.out.trans HK5.out (fun j e => by rcases HBr.out j e with h1 | h1; exact .inl (.inr h1); exact .inr h1)).trans hk6 (fun j e => .inl (.inl e))
      · obtain rfl : k = zs.length := by omega
        rw [List.take_length] at HO HC
        obtain ⟨A1, c1, e1, R1, B1⟩ := (row_of_own HO.out).2
        subst e1
        have HR1 := Lib.hid R1
        have hil := itemsOf_len zs
        have hil2 : (itemsOf zs).length ≤ 200 := by omega
        have HIL := Lib.hid hil
        clear R1 B1 hil hlt hk
        go_wp2_with fail
        refine (Sort_is less_is trivial (Nat.zero_le _) A1 c1 (itemsOf zs) HR1.out (by omega)).mono ?_
        rintro e w5 ⟨v5, rfl, O5, k5⟩
        have hlen5 : (sortedBy ltK (itemsOf zs)).length = (itemsOf zs).length := sortedBy_length _ _
        have hsk := sorted_keys zs
        obtain ⟨s, hs⟩ : ∃ s, sortedBy ltK (itemsOf zs) = s := ⟨_, rfl⟩
        rw [hs] at O5 hlen5 hsk
        obtain ⟨hn5, A5, c5, rfl, R5, B5⟩ := row_of_own O5
        have hsl : s.length ≤ 200 := by omega
        have HLS := Lib.hid (hlen5.trans HIL.out)
        have HSK := Lib.hid hsk
        have HR5 := Lib.hid R5
        have HB5 := Lib.hid B5
        have HC5 := Lib.hid (HC.out.kept k5 (fun h => h))
        have HK5 := Lib.hid (HKr.out.step k5)
        have hz5 := k5.size
        clear O5 hn5 R5 B5 k5 hlen5 hsk hs
        go_wp2_with fail
        obtain ⟨wa, hwa⟩ : ∃ x, x = wr := ⟨_, rfl⟩
        subst hwa
        go_loopw [59] (fun i wr => ∃ k : Nat, k ≤ s.length ∧ i = .int .i64 k ∧ Cnt Try.prog 3 3 w1.heap.size (zs.length + k) (fun t => (zs.count t : Int) - (((s.map It.f0).take k).count t : Int)) wr ∧ Kept (fun i => i = w1.heap.size) w5 wr) (fun i _ => s.length - (intOf i).toNat)
        case atStart => exact ⟨0, Nat.zero_le _, rfl, HC5.out.congr (fun t => by simp), Kept.refl _ _⟩
        case round =>
          obtain ⟨k, hk, rfl, hC, hK⟩ := hrel
          have HC := Lib.hid hC
          have HKr := Lib.hid hK
          have hzz := hK.size
          clear hC hK
          by_cases hlt : k < s.length
          · obtain ⟨⟨x0, x1⟩, ex⟩ : ∃ x, s[k]? = some x := ⟨_, List.getElem?_eq_getElem hlt⟩
            have R5c := HR5.out.kept HKr.out (fun b ⟨off, e⟩ h => by have := (HB5.out b off e).1; have := HKc.out.size; omega)
            obtain ⟨b5, o5, rfl, p0, p1⟩ := Row.at R5c ex
            have hb5 : b5 < wr.heap.size := World.block_lt_of_cell? _ _ p0
            have hxk : (s.map It.f0)[k]? = some x0 := by rw [List.getElem?_map, ex]; rfl
            have hmem : x0 ∈ zs := by
              have h9 : x0 ∈ s.map It.f0 := List.mem_of_getElem? hxk
              have h8 := HSK.out x0
              have h7 := List.count_pos_iff.2 h9
              exact List.count_pos_iff.1 (by omega)
            have hwf : (Lit.int .i64 x0).wf = true := WalkArith.wf_i64 (HWZ.out x0 hmem)
            obtain ⟨c, hcc⟩ : ∃ c : Int, (zs.count x0 : Int) - (((s.map It.f0).take k).count x0 : Int) = c := ⟨_, rfl⟩
            have hc1 : -200 ≤ c ∧ c ≤ 200 := by
              have h9 := List.count_le_length (a := x0) (l := zs)
              have h8 := List.count_le_length (a := x0) (l := (s.map It.f0).take k)
              rw [List.length_take, List.length_map] at h8
              omega
            have hwc : (Lit.int .i64 (c - 1)).wf = true := WalkArith.wf_i64 (by omega)
            have hk7 : Kept Nil wr (wr.alloc (.cells #[.int .i64 x0, .int .i64 x1] 27)) := (Kept.refl Nil wr).alloc _
            have hC7 := HC.out.kept hk7 (fun h => h)
            have hlook := hC7.look (T := 46) Try.underlying3 Try.underlying3 Try.underlying46 (fun w => by kernel_rfl) x0 hwf
            rw [hcc] at hlook
            obtain ⟨D7, hD7, hE7⟩ := hC7.own
            have HD7 := Lib.hid hD7
            have HE7 := Lib.hid hE7
            have HCC := Lib.hid hcc
            have HXK := Lib.hid hxk
            have HWF := Lib.hid hwf
            have HWC := Lib.hid hwc
            have hc2 := hc1.1
            have hc3 := hc1.2
            clear ex R5c hxk hmem hwf hcc hwc hk7 hC7 hD7 hE7 hc1
            go_wp2_with (at_mapUpdate; refine wpList_mapUpdate_own _ rfl _ _ _ 46 rfl 3 3 (int_keyed Try.underlying3) Try.underlying46 _ w1.heap.size (zs.length + k) D7 rfl HD7.out (by unfold maxLen; omega) _ _ _ rfl rfl (keyOf_int_mk Try.underlying3 HWF.out) _ [] (plainElem_int Try.underlying3 HWC.out) ?_; intro w8 hown8 hgrow8)
            clear hlook
            go_round
            case measure => (simp [intOf] <;> omega)
            refine ⟨k + 1, by omega, by go_num, ?_, ?_⟩
            · refine (Cnt.put HD7.out.isMap HE7.out x0 (c - 1) hown8).congr (fun t => ?_)
              have h9 := count_snoc (s.map It.f0) HXK.out t
              have h8 := HCC.out
              by_cases e : t = x0
              · subst e; rw [if_pos rfl] at h9 ⊢; omega
              · rw [if_neg e] at h9 ⊢; omega
            · exact (HKr.out.alloc _).grown hgrow8 (fun j e => .inl (by cases e; rfl))
          · obtain rfl : k = s.length := by omega
            have hC6 := HC.out.congr (g := fun _ => 0) (fun t => by
              have h9 := HSK.out t
              rw [List.take_of_length_le (by rw [List.length_map]; exact Nat.le_refl _)]
              omega)
            obtain ⟨D6, hD6, hE6⟩ := hC6.own
            have HD6 := Lib.hid hD6
            have HE6 := Lib.hid hE6
            have h6c := HKc.out.size
            have hK6 : Kept Nil w wr := (HKc.out.trans HK5.out (fun j e => .inr (by rcases e with h | h <;> omega))).trans HKr.out (fun j e => .inr (by omega))
            have HK6 := Lib.hid hK6
            have hz6 := hK6.size
            obtain ⟨wb, hwb⟩ : ∃ x, x = wr := ⟨_, rfl⟩
            subst hwb
            clear hC6 hD6 hE6 hK6 hlt hk
            go_wp2_with (first | (at_range; refine wpList_range_own _ rfl _ 46 rfl 3 3 (int_keyed Try.underlying3) Try.underlying46 _ w1.heap.size (zs.length + s.length) D6 rfl HD6.out ?_; intro w7 hrg0 hg0 hs0) | go_in)
            go_frame
            have HRG0 := Lib.hid hrg0
            have HK7 := Lib.hid (HK6.out.grown hg0 (fun j e => by cases e))
            clear hrg0 hg0
            go_loopw [12] (fun _ wr => ∃ left cnt, wr.ranges Try.prog 3 (plainElem Try.prog 3) w1.heap.size wb.heap.size (zs.length + s.length) D6 left cnt ∧ Kept Nil w wr) (fun _ wr => wr.rangeLeft w1.heap.size wb.heap.size)
            case atStart => exact ⟨_, _, HRG0.out, HK7.out⟩
            case round =>
              obtain ⟨left, cnt, hrg, hK⟩ := hrel
              have HRG := Lib.hid hrg
              have HKr := Lib.hid hK
              have hzz := hK.size
              clear hrg hK
              go_wp2_with (at_next; refine wpList_next_ranges_ii _ rfl _ rfl 3 3 .i64 .i64 (int_keyed Try.underlying3) Try.underlying3 Try.underlying3 w1.heap.size wb.heap.size (zs.length + s.length) _ _ _ rfl HRG.out ?_ ?_)
              case refine_2 =>
                intro x c w8 cnt1 hwx hwc hlx hat hrg1 hlt hg1 hs1 hen
                have hc0 : c = 0 := by have h9 := (HE6.out x).symm.trans (hat _); cases h9; rfl
                subst hc0
                have HRG1 := Lib.hid hrg1
                have HK8 := Lib.hid (HKr.out.grown hg1 (fun j e => .inr (by cases e; exact hz6)))
                clear hwx hwc hlx hat hrg1 hg1
                go_wp2_with fail
                go_round
                case measure => rw [HRG1.out.left_eq, HRG.out.left_eq]; exact hlt
                exact ⟨_, _, HRG1.out, HK8.out⟩
              case refine_1 =>
                intro _ _
                have HKw := HKr
                obtain ⟨wc, hwc⟩ : ∃ x, x = wr := ⟨_, rfl⟩
                subst hwc
                go_wp2_with fail
                refine (New_is _ #[] wc).mono ?_
                rintro e w9 ⟨rfl, H9, hk9⟩
                have L := less_is.up (Nat.zero_le wc.heap.size)
                have LL := Lib.hid L
                have HH9 := Lib.hid H9
                have HK9 := Lib.hid hk9
                clear H9 hk9 L
                go_wp2_with fail
                go_loopw [80] (fun i wr => ∃ (k : Nat) (v : Value) (xs : List (It × Int)), k ≤ la.length ∧ i = .int .i64 k ∧ IsHeap wr wc.heap.size wc.heap.size 10 #[] v xs k ∧ Mix k k xs ∧ Kept Nil wc wr) (fun i _ => la.length - (intOf i).toNat)
                case atStart => exact ⟨0, _, [], Nat.zero_le _, rfl, HH9.out, Mix.nil, HK9.out⟩
                case round =>
                  obtain ⟨k, v, xs, hk, rfl, hH, hM, hK⟩ := hrel
                  have HH := Lib.hid hH
                  have HM := Lib.hid hM
                  have HKr := Lib.hid hK
                  have hxl := hM.len
                  have HXL := Lib.hid hxl
                  have hx200 : xs.length ≤ 200 := by omega
                  clear hH hM hK hxl
                  by_cases hlt : k < la.length
                  · obtain ⟨z, hz⟩ : ∃ z, la[k]? = some z := ⟨_, List.getElem?_eq_getElem hlt⟩
                    obtain ⟨b, off, rfl, hcz⟩ := reads_at HA.out hz
                    have hc := HKr.out.cell (HKw.out.cell hcz (fun h => h)) (fun h => h)
                    clear hz hcz
                    go_wp2_with fail
                    refine (Push_is LL.out HH.out trivial z (k : Int) (by omega) (by omega) (by omega)).mono ?_
                    rintro e w10 ⟨v', rfl, H10, hk10, hv10⟩
                    have HH10 := Lib.hid H10
                    have HM10 := Lib.hid (HM.out.push ⟨z, k⟩)
                    have HK10 := Lib.hid (HKr.out.trans hk10 (fun i hi => .inr (HH.out.own_base i hi)))
                    clear H10 hk10 hv10
                    go_wp2_with fail
                    go_round
                    case measure => (simp [intOf] <;> omega)
                    exact ⟨k + 1, v', _, by omega, by go_num, by have := HH10.out; simpa using this, by have := HM10.out; simpa using this, HK10.out⟩
                  · obtain rfl : k = la.length := by omega
                    clear hlt hk
                    obtain ⟨wd, hwd⟩ : ∃ x, x = wr := ⟨_, rfl⟩
                    subst hwd
                    go_wp2_with fail
                    go_loopw [93] (fun i wr => ∃ (k : Nat) (v : Value) (xs : List (It × Int)), k ≤ lb.length ∧ i = .int .i64 k ∧ IsHeap wr wc.heap.size wc.heap.size 10 #[] v xs ((la.length : Int) + k) ∧ Mix la.length ((la.length : Int) + k) xs ∧ Kept Nil wc wr) (fun i _ => lb.length - (intOf i).toNat)
                    case atStart => exact ⟨0, v, xs, Nat.zero_le _, rfl, by have := HH.out; simpa using this, by have := HM.out; simpa using this, HKr.out⟩
                    case round =>
                      obtain ⟨k, v, xs, hk, rfl, hH, hM, hK⟩ := hrel
                      have HH := Lib.hid hH
                      have HM := Lib.hid hM
                      have HKr := Lib.hid hK
                      have hxl := hM.len
                      have HXL := Lib.hid hxl
                      have hx200 : xs.length ≤ 200 := by omega
                      clear hH hM hK hxl
                      by_cases hlt : k < lb.length
                      · obtain ⟨z, hz⟩ : ∃ z, lb[k]? = some z := ⟨_, List.getElem?_eq_getElem hlt⟩
                        obtain ⟨b, off, rfl, hcz⟩ := reads_at HB.out hz
                        have hc := HKr.out.cell (HKw.out.cell hcz (fun h => h)) (fun h => h)
                        obtain ⟨⟨⟨q0, q1⟩, q2⟩, hq, hqe, hqs⟩ := mix_step HM.out z ((la.length : Int) + k)
                        have HQ := Lib.hid hq
                        have HQE := Lib.hid hqe
                        have HQS := Lib.hid hqs
                        clear hz hcz hq hqe hqs

                        cases hp0 : xs[0]? with
                        | none =>
                          have hxe : xs = [] := by
                            cases xs with
                            | nil => rfl
                            | cons x xs => simp at hp0
                          have HXE := Lib.hid hxe
                          have hqz : z = q0 := (HQE.out hxe).symm
                          subst hqz
                          clear hxe hp0
                          go_wp2_with fail
                          refine (Peek_none HH.out HXE.out).mono ?_
                          rintro e w11 ⟨rfl, hk11⟩
                          have HH11 := Lib.hid (HH.out.nil (hk11.alloc (.cells #[.int .i64 0, .int .i64 0] 27)))
                          have HOW := Lib.hid (fun i hi => (HH.out.nil hk11).own_lt (i := i) hi)
                          have HK11 := Lib.hid (HKr.out.step hk11)
                          clear hk11
                          go_wp2_with fail
                          refine (Push_is LL.out HH11.out trivial z ((la.length : Int) + k) (by omega) (by omega) (by omega)).mono ?_
                          rintro e w12 ⟨v12, rfl, H12, hk12, hv12⟩
                          have hx0 := hk12.cell (p := ⟨w11.heap.size, 0, none⟩) (v := .int .i64 0) (by simp) (fun hi => by have h9 := HOW.out _ hi; simp at h9)
                          have hx1 := hk12.cell (p := ⟨w11.heap.size, 1, none⟩) (v := .int .i64 0) (by simp) (fun hi => by have h9 := HOW.out _ hi; simp at h9)
                          have hs12 := hk12.size
                          rw [World.size_alloc] at hs12
                          have hnot : ¬ Own wc.heap.size v12 w11.heap.size := fun hi => by
                            rcases hi with h | h
                            · have h9 := HOW.out _ (.inl rfl); omega
                            · rcases hv12 with h' | ⟨j, h', hj⟩
                              · have h9 := HOW.out _ (.inr (h' ▸ h)); omega
                              · rw [h'] at h; cases h; rw [World.size_alloc] at hj; omega
                          have HN := Lib.hid hnot
                          have HX0 := Lib.hid hx0
                          have HX1 := Lib.hid hx1
                          have HH12 := Lib.hid H12
                          have HK12 := Lib.hid ((HK11.out.alloc (.cells #[.int .i64 0, .int .i64 0] 27)).trans hk12 (fun i hi => .inr (HH11.out.own_base i hi)))
                          clear hx0 hx1 hnot H12 hk12 hv12
                          go_wp2_with fail
                          refine (Pop_some LL.out HH12.out trivial HQ.out).mono ?_
                          rintro e w13 ⟨v13, rfl, H13, hk13, hv13⟩
                          have hx0 := hk13.cell HX0.out HN.out
                          have hx1 := hk13.cell HX1.out HN.out
                          have hltx : w11.heap.size < w13.heap.size := by have := hk13.size; omega
                          have HH13 := Lib.hid H13
                          have HK13 := Lib.hid (HK12.out.trans hk13 (fun i hi => .inr (HH12.out.own_base i hi)))
                          have HM13 := Lib.hid ((HM.out.push ⟨z, (la.length : Int) + k⟩).pop HQ.out)
                          clear H13 hk13 hv13
                          go_wp2_with fail
                          go_round
                          case measure => (simp [intOf] <;> omega)
                          refine ⟨k + 1, v13, pop ltK (push ltK xs ⟨z, (la.length : Int) + k⟩ ((la.length : Int) + k)), by omega, by go_num, ?_, ?_, HK13.out.alloc _⟩
                          · have e1 : ((la.length : Int) + ((k + 1 : Nat) : Int)) = (la.length : Int) + k + 1 := by omega
                            rw [e1]
                            exact HH13.out.nil ((Kept.refl Nil _).alloc _)
                          · have e1 : ((la.length : Int) + ((k + 1 : Nat) : Int)) = (la.length : Int) + k + 1 := by omega
                            rw [e1]
                            exact HM13.out
                        | some p =>
                          obtain ⟨⟨x0, x1⟩, x2⟩ := p
                          have HP0 := Lib.hid hp0
                          have hqs := HQS.out _ hp0
                          have HQS1 := Lib.hid hqs
                          clear hp0 hqs
                          go_wp2_with fail
                          refine (Peek_some HH.out HP0.out).mono ?_
                          rintro e w11 ⟨rfl, hk11⟩
                          have HH11 := Lib.hid (HH.out.nil (hk11.alloc (.cells #[.int .i64 x0, .int .i64 x1] 27)))
                          have HOW := Lib.hid (fun i hi => (HH.out.nil hk11).own_lt (i := i) hi)
                          have HK11 := Lib.hid (HKr.out.step hk11)
                          clear hk11
                          go_wp2_with fail
                          refine (Push_is LL.out HH11.out trivial z ((la.length : Int) + k) (by omega) (by omega) (by omega)).mono ?_
                          rintro e w12 ⟨v12, rfl, H12, hk12, hv12⟩
                          have hx0 := hk12.cell (p := ⟨w11.heap.size, 0, none⟩) (v := .int .i64 x0) (by simp) (fun hi => by have h9 := HOW.out _ hi; simp at h9)
                          have hx1 := hk12.cell (p := ⟨w11.heap.size, 1, none⟩) (v := .int .i64 x1) (by simp) (fun hi => by have h9 := HOW.out _ hi; simp at h9)
                          have hs12 := hk12.size
                          rw [World.size_alloc] at hs12
                          have hnot : ¬ Own wc.heap.size v12 w11.heap.size := fun hi => by
                            rcases hi with h | h
                            · have h9 := HOW.out _ (.inl rfl); omega
                            · rcases hv12 with h' | ⟨j, h', hj⟩
                              · have h9 := HOW.out _ (.inr (h' ▸ h)); omega
                              · rw [h'] at h; cases h; rw [World.size_alloc] at hj; omega
                          have HN := Lib.hid hnot
                          have HX0 := Lib.hid hx0
                          have HX1 := Lib.hid hx1
                          have HH12 := Lib.hid H12
                          have HK12 := Lib.hid ((HK11.out.alloc (.cells #[.int .i64 x0, .int .i64 x1] 27)).trans hk12 (fun i hi => .inr (HH11.out.own_base i hi)))
                          clear hx0 hx1 hnot H12 hk12 hv12
                          go_wp2_with fail
                          refine (Pop_some LL.out HH12.out trivial HQ.out).mono ?_
                          rintro e w13 ⟨v13, rfl, H13, hk13, hv13⟩
                          have hx0 := hk13.cell HX0.out HN.out
                          have hx1 := hk13.cell HX1.out HN.out
                          have hltx : w11.heap.size < w13.heap.size := by have := hk13.size; omega
                          have HH13 := Lib.hid H13
                          have HK13 := Lib.hid (HK12.out.trans hk13 (fun i hi => .inr (HH12.out.own_base i hi)))
                          have HM13 := Lib.hid ((HM.out.push ⟨z, (la.length : Int) + k⟩).pop HQ.out)
                          clear H13 hk13 hv13
                          by_cases hzx : z < x0
                          · have hqz : z = q0 := (HQS1.out.1 hzx).symm
                            subst hqz
                            go_wp2_with fail
                            go_round
                            case measure => (simp [intOf] <;> omega)
                            refine ⟨k + 1, v13, pop ltK (push ltK xs ⟨z, (la.length : Int) + k⟩ ((la.length : Int) + k)), by omega, by go_num, ?_, ?_, HK13.out.alloc _⟩
                            · have e1 : ((la.length : Int) + ((k + 1 : Nat) : Int)) = (la.length : Int) + k + 1 := by omega
                              rw [e1]
                              exact HH13.out.nil ((Kept.refl Nil _).alloc _)
                            · have e1 : ((la.length : Int) + ((k + 1 : Nat) : Int)) = (la.length : Int) + k + 1 := by omega
                              rw [e1]
                              exact HM13.out
                          · have hqz : (⟨q0, q1⟩ : It) = ⟨x0, x1⟩ := HQS1.out.2 (by omega)
                            injection hqz with hq0 hq1
                            subst hq0 hq1
                            go_wp2_with fail
                            go_round
                            case measure => (simp [intOf] <;> omega)
                            refine ⟨k + 1, v13, pop ltK (push ltK xs ⟨z, (la.length : Int) + k⟩ ((la.length : Int) + k)), by omega, by go_num, ?_, ?_, HK13.out.alloc _⟩
                            · have e1 : ((la.length : Int) + ((k + 1 : Nat) : Int)) = (la.length : Int) + k + 1 := by omega
                              rw [e1]
                              exact HH13.out.nil ((Kept.refl Nil _).alloc _)
                            · have e1 : ((la.length : Int) + ((k + 1 : Nat) : Int)) = (la.length : Int) + k + 1 := by omega
                              rw [e1]
                              exact HM13.out
                      · obtain rfl : k = lb.length := by omega
                        go_wp2_with fail
                        refine (Len_is HH.out).mono ?_
                        rintro e w11 ⟨rfl, rfl⟩
                        have hxl := HXL.out
                        have hxe : ((xs.length : Int) == (la.length : Int)) = true := by simp [hxl]
                        clear hxl
                        go_wp2_with fail
                        go_ret
                        exact ⟨rfl, (HKw.out.step HKr.out).toBelow⟩
end Go.Proofs.Ytfkhnhpphcpmmaa.HpItem
