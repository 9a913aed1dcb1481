/- The walk of the statement HeapCounts. -/
import Derived.Test.YtfkhnhpphcpmmaaHpAlive
import Derived.Test.YtfkhnhpphcpmmaaRef06
import Derived.Test.YtfkhnhpphcpmmaaAppend
import Derived.Test.YtfkhnhpphcpmmaaMask
import Derived.Test.YtfkhnhpphcpmmaaReads
namespace Go.Proofs.Ytfkhnhpphcpmmaa.HpItem
open Go Go.RowKit Go.Shelf Go.Proofs.Ytfkhnhpphcpmmaa.Lb Go.Proofs.Ytfkhnhpphcpmmaa.HpPure Go.Proofs.Ytfkhnhpphcpmmaa.Ref06
set_option linter.unusedVariables false
set_option linter.unusedSimpArgs false

theorem IsHeap.lower {w : World} {base base' h lf : Nat} {lcap : Array Value} {v : Value} {xs : List (It × Int)} {seq : Int} (H : IsHeap w base h lf lcap v xs seq) (hb : base' ≤ base) : IsHeap w base' h lf lcap v xs seq :=
  ⟨Nat.le_trans hb H.hb, H.hd, own_lower H.own (fun k hk => Nat.le_trans hb (H.own.lt k hk).1), H.ne, H.few⟩
theorem IsHeap.own_lt {w : World} {base h lf : Nat} {lcap : Array Value} {v : Value} {xs : List (It × Int)} {seq : Int} (H : IsHeap w base h lf lcap v xs seq) {i : Nat} (hi : Own h v i) : i < w.heap.size := by
  rcases hi with rfl | hi
  · exact H.cells.2.2.2.2
  · exact (H.own.lt i hi).2
/-- The items of a list of keys, from the k-th on. -/
def itemsC (zs : List Int) : List (It × Int) := (numbered 0 zs).map (fun p => (⟨p.1, p.2⟩, p.2))
theorem itemsC_take (zs : List Int) {k : Nat} {z : Int} (h : zs[k]? = some z) : itemsC (zs.take (k + 1)) = itemsC (zs.take k) ++ [(⟨z, k⟩, (k : Int))] := by
  have hk := (List.getElem?_eq_some_iff.1 h).1
  unfold itemsC
  rw [List.take_add_one, h, numbered_append, List.map_append]
  simp [numbered, Nat.min_eq_left (Nat.le_of_lt hk)]
theorem itemsC_len (zs : List Int) : (itemsC zs).length = zs.length := by unfold itemsC; rw [List.length_map, numbered_length]
/-- Two heaps that hold the same. -/
structure Twin (B h1 h2 : Nat) (v1 v2 : Value) (ps qs : List (It × Int)) (k : Int) (W : World) : Prop where
  a : IsHeap W B h1 10 #[] v1 ps k
  b : IsHeap W B h2 10 #[] v2 qs k
  ap : ∀ i, Own h1 v1 i → ¬ Own h2 v2 i
theorem Twin.turnA {B h1 h2 : Nat} {v1 v2 v1' : Value} {ps qs ps' : List (It × Int)} {k k' : Int} {W W' : World} (T : Twin B h1 h2 v1 v2 ps qs k W) (H : IsHeap W' B h1 10 #[] v1' ps' k') (hk : Kept (Own h1 v1) W W')
    (hv : v1'.ownBlock = v1.ownBlock ∨ ∃ j, v1'.ownBlock = some j ∧ W.heap.size ≤ j) : IsHeap W' B h1 10 #[] v1' ps' k' ∧ IsHeap W' B h2 10 #[] v2 qs k ∧ ∀ i, Own h1 v1' i → ¬ Own h2 v2 i := by
  refine ⟨H, T.b.kept hk (fun h => T.ap _ h (.inl rfl)) (fun j hj h => T.ap _ h (.inr hj)), fun i hi hj => ?_⟩
  rcases hi with rfl | hi
  · exact T.ap _ (.inl rfl) hj
  · rcases hv with e | ⟨j, e, hlt⟩
    · exact T.ap _ (.inr (e ▸ hi)) hj
    · rw [e] at hi; cases hi
      have := T.b.own_lt hj; omega
theorem Twin.turnB {B h1 h2 : Nat} {v1 v2 v2' : Value} {ps qs' : List (It × Int)} {k' : Int} {W W' : World} (Ta : IsHeap W B h1 10 #[] v1 ps k') (ap : ∀ i, Own h1 v1 i → ¬ Own h2 v2 i) (H : IsHeap W' B h2 10 #[] v2' qs' k') (hk : Kept (Own h2 v2) W W')
    (hv : v2'.ownBlock = v2.ownBlock ∨ ∃ j, v2'.ownBlock = some j ∧ W.heap.size ≤ j) : Twin B h1 h2 v1 v2' ps qs' k' W' := by
  refine ⟨Ta.kept hk (fun h => ap _ (.inl rfl) h) (fun j hj h => ap _ (.inr hj) h), H, fun i hi hj => ?_⟩
  rcases hj with rfl | hj
  · exact ap _ hi (.inl rfl)
  · rcases hv with e | ⟨j, e, hlt⟩
    · exact ap _ hi (.inr (e ▸ hj))
    · rw [e] at hj; cases hj
      have := Ta.own_lt hi; omega

set_option maxRecDepth 4000 in
set_option maxHeartbeats 8000000 in
theorem HeapCounts_calls (zs : List Int) (A : Option Addr) (cap : Nat) (n : Int) (w : World) (hm : zs.length ≤ maxLen) (hw : ∀ z ∈ zs, Sc.I64 z) (hr : Sc.Reads w .i64 A zs) (hn : Sc.I64 n) :
    Calls Try.prog 7 #[.slice A zs.length cap, .int .i64 n] w fun e w' => e = .returned (.bool true) ∧ Below w.heap.size w w' := by
  obtain ⟨i0, hinf, hz0, hz1, hz2⟩ := info_parts info2
  have HR := Lib.hid hr
  have HN := Lib.hid hn
  clear hr hw hn
  unfold maxLen at hm
  by_cases h200 : 200 < zs.length
  · go_enter Try.func7, Try.ntmps7
    go_wp2_with fail
    refine (alive_is w).mono ?_
    rintro e w1 ⟨rfl, hk1⟩
    have HK := Lib.hid hk1
    clear hk1
    go_wp2
    go_ret
    exact ⟨rfl, HK.out.toBelow⟩
  · go_enter Try.func7, Try.ntmps7
    go_wp2_with fail
    refine (alive_is w).mono ?_
    rintro e w1 ⟨rfl, hk1⟩
    have HK := Lib.hid hk1
    have hw1 := hk1.size
    clear hk1
    go_wp2_with fail
    refine (New_is _ #[] w1).mono ?_
    rintro e w2 ⟨rfl, H2, hk2⟩
    have HH2 := Lib.hid H2
    have HK2 := Lib.hid hk2
    have hw2 := hk2.size
    clear H2 hk2
    go_wp2_with fail
    refine (New_is _ #[] w2).mono ?_
    rintro e w3 ⟨rfl, H3, hk3⟩
    have hlt2 := (HH2.out.cells).2.2.2.2
    have T0 : Twin w.heap.size w1.heap.size w2.heap.size (.slice none 0 0) (.slice none 0 0) [] [] 0 w3 := ⟨(HH2.out.nil hk3).lower hw1, H3.lower (by omega), fun i h1 h2 => by
      simp [Own, Value.ownBlock] at h1 h2; omega⟩
    have HT0 := Lib.hid T0
    have HK3 := Lib.hid ((HK.out.step HK2.out).step hk3)
    clear H3 hk3 T0
    go_wp2_with fail
    go_loopw [27] (fun i wr => ∃ (k : Nat) (v1 v2 : Value), k ≤ zs.length ∧ i = .int .i64 k ∧ Twin w.heap.size w1.heap.size w2.heap.size v1 v2 (pushes ltK [] (itemsC (zs.take k))) (pushes ltK [] (itemsC (zs.take k))) k wr ∧ Kept Nil w wr) (fun i _ => zs.length - (intOf i).toNat)
    case atStart => exact ⟨0, _, _, Nat.zero_le _, rfl, HT0.out, HK3.out⟩
    case round =>
      obtain ⟨k, v1, v2, hk, rfl, hT, hK⟩ := hrel
      have HKr := Lib.hid hK
      have HT := Lib.hid hT
      have hzz := hK.size
      have hrd : zs.length ≤ k ∨ ∃ b off z, A = some ⟨b, off, none⟩ ∧ zs[k]? = some z ∧ wr.cell? ⟨b, off + k, none⟩ = some (.int .i64 z) := by
        by_cases hlt : k < zs.length
        · rcases HR.out with rfl | ⟨b, off, h, hc⟩
          · simp at hlt
          · have := hc k hlt
            rw [List.getElem?_eq_getElem hlt] at this
            exact .inr ⟨b, off, _, h, List.getElem?_eq_getElem hlt, hK.cell this (fun h => h)⟩
        · exact .inl (by omega)
      clear hT hK
      have L := less_is.up (Nat.zero_le w.heap.size)
      have LL := Lib.hid L
      clear L
      rcases hrd with hge | ⟨b, off, z, rfl, hz, hc⟩
      · obtain rfl : k = zs.length := by omega
        rw [List.take_length] at HT
        obtain ⟨m, hmm, hml⟩ := cut_of (bits .and .i64 n 255) zs.length 0 (by rw [i64_and255]; omega)
        have HM := Lib.hid hmm
        have hXl : (pushes ltK [] (itemsC zs)).length = zs.length := by rw [pushes_length, itemsC_len]; simp
        have hXh : HeapP ltK (pushes ltK [] (itemsC zs)) := pushes_heap swoK (heap_nil ltK) _
        generalize hX : pushes ltK [] (itemsC zs) = X at *
        obtain ⟨wa, hwa⟩ : ∃ x, x = wr := ⟨_, rfl⟩
        subst hwa
        have HXL := Lib.hid hXl
        clear hmm hX hXl
        go_wp2_with fail
        rw [HM.out]
        refine (take_is LL.out HT.out.a trivial (m : Int)).mono ?_
        rintro e w4 ⟨u1, va1, tk1, ys1, rfl, H4, hd1, hl1, hr1, hk1, hv1⟩
        obtain ⟨Ha1, Hb1, ap1⟩ := HT.out.turnA H4 hk1 (.inl hv1)
        have hl1' : tk1.length = m := by rw [hl1, HXL.out]; omega
        have hy1 : ys1.length + m = zs.length := by
          have := congrArg List.length hd1.1
          rw [(drain_perm ltK _).length_eq, List.length_append, (drain_perm ltK _).length_eq, hl1', HXL.out] at this
          omega
        have HD1 := Lib.hid hd1
        have HA1 := Lib.hid Ha1
        have T1 := Lib.hid (show Twin w.heap.size w1.heap.size w2.heap.size va1 v2 ys1 X zs.length w4 from ⟨Ha1, Hb1, ap1⟩)
        have HR1 := Lib.hid hr1
        have HKa := Lib.hid (HKr.out.trans hk1 (fun i hi => .inr (HT.out.a.own_base i hi)))
        have hw4 := hk1.size
        have HO1 := Lib.hid (fun i (hi : Own w1.heap.size va1 i) => (HT.out.a.own_lt (show Own w1.heap.size v1 i from by unfold Own at hi ⊢; rwa [hv1] at hi)))
        have HL1 := Lib.hid hl1'
        have HY1 := Lib.hid hy1
        clear H4 hd1 hl1 hr1 hk1 hv1 Ha1 Hb1 ap1 hl1' hy1
        go_wp2_with fail
        refine (take_is LL.out T1.out.a trivial 1000).mono ?_
        rintro e w5 ⟨u2, va2, tk2, ys2, rfl, H5, hd2, hl2, hr2, hk2, hv2⟩
        obtain ⟨Ha2, Hb2, ap2⟩ := T1.out.turnA H5 hk2 (.inl hv2)
        have hl2' : tk2.length = ys1.length := by have := HY1.out; rw [hl2]; simp; omega
        have hy2 : ys2 = [] := by
          have := congrArg List.length hd2.1
          rw [(drain_perm ltK _).length_eq, List.length_append, (drain_perm ltK _).length_eq, hl2'] at this
          exact List.eq_nil_of_length_eq_zero (by omega)
        subst hy2
        have hall : HpPure.drain ltK X = tk1 ++ tk2 := by rw [HD1.out.1, hd2.1, drain_nil, List.append_nil]
        have HALL := Lib.hid hall
        have T2 := Lib.hid (show Twin w.heap.size w1.heap.size w2.heap.size va2 v2 [] X zs.length w5 from ⟨Ha2, Hb2, ap2⟩)
        have HR2 := Lib.hid hr2
        have HR1b := Lib.hid (hk2.own HR1.out (fun i h1 h2 => by have h3 := (HR1.out.lt i h1).1; have := HO1.out i h2; omega))
        have HKb := Lib.hid (HKa.out.trans hk2 (fun i hi => .inr (T1.out.a.own_base i hi)))
        have hw5 := hk2.size
        have HL2 := Lib.hid hl2'
        clear H5 hd2 hl2 hr2 hk2 hv2 Ha2 Hb2 ap2 hl2' hall
        go_wp2_with fail
        go_loopw [57, 11] (fun i o wr2 => ∃ (k : Nat) (vb : Value) (pre qs : List (It × Int)), k ≤ zs.length ∧ i = .int .i64 k ∧ IsHeap wr2 w.heap.size w2.heap.size 10 #[] vb qs zs.length ∧ vb.ownBlock = v2.ownBlock ∧ HpPure.drain ltK X = pre ++ HpPure.drain ltK qs ∧ pre.length = k ∧
          wr2.ownsRow w5.heap.size 27 2 o pre.length ((pre.map Prod.fst).flatMap It.cells) ∧ Kept (Own w2.heap.size v2) w5 wr2) (fun i _ _ => zs.length - (intOf i).toNat)
        case atStart =>
          exact ⟨0, v2, [], X, Nat.zero_le _, rfl, T2.out.b.nil ((Kept.refl Nil w5).alloc _), rfl, rfl, rfl, World.ownsRow_lit w5 #[] 0 (Nat.le_refl _) (by decide) rfl, (Kept.refl _ w5).alloc _⟩
        case round =>
          obtain ⟨k, vb, pre, qs, hk, rfl, hH, hvb, hdr, hpl, hO, hK⟩ := hrel
          have hlen : pre.length + qs.length = zs.length := by
            have := congrArg List.length hdr
            rw [(drain_perm ltK _).length_eq, List.length_append, (drain_perm ltK _).length_eq, HXL.out] at this
            omega
          have HH := Lib.hid hH
          have HVB := Lib.hid hvb
          have HDR := Lib.hid hdr
          have HO := Lib.hid hO
          have HKc := Lib.hid hK
          have HPL := Lib.hid hpl
          have hzc := hK.size
          cases hq : qs[0]? with
          | some p =>
            obtain ⟨⟨a0, a1⟩, a2⟩ := p
            have hlt : k < zs.length := by
              have := (List.getElem?_eq_some_iff.1 hq).1
              omega
            have HQ := Lib.hid hq
            have hlp : pre.length ≤ 200 := by omega
            clear hH hvb hdr hpl hO hK hlen hq
            go_wp2_with fail
            refine (Pop_some LL.out HH.out trivial HQ.out).mono ?_
            rintro e w7 ⟨vb', rfl, H7, hk7, hv7⟩
            have hO7 := hk7.own HO.out (fun i h1 h2 => by
              have h3 := (HO.out.lt i h1).1
              have h4 := T2.out.b.own_lt (i := i) (by unfold Own at h2 ⊢; rwa [HVB.out] at h2)
              omega)
            have HO7 := Lib.hid hO7
            have HH7 := Lib.hid H7
            have HV7 := Lib.hid (hv7.trans HVB.out)
            have HK7 := Lib.hid (HKc.out.trans hk7 (fun i hi => .inl (by unfold Own at hi ⊢; rwa [HVB.out] at hi)))
            have hz7 := hk7.size
            clear H7 hk7 hv7 hO7
            go_wp2_with (at_builtin; refine wpList_append_own _ rfl _ _ 29 rfl w5.heap.size 27 i0 (.agg #[.int .i64 0, .int .i64 0]) 2 16 Try.underlying29 hinf hz0 hz1 hz2 rfl (by decide) _ _ _ rfl ((HO7.out.alloc _).alloc _) ⟨w7.heap.size + 1, 0, none⟩ 1 1 [.int .i64 a0, .int .i64 a1] rfl rfl (by have := cells_new (w7.alloc (.cells #[.int .i64 a0, .int .i64 a1] 27)) [.int .i64 a0, .int .i64 a1] 27; rwa [World.size_alloc] at this) (by simp [Value.oneCell']) (by unfold maxLen; omega) (by omega) (by simp; omega) ?_; intro vo' w8 hown' hgrow _)
            refine ⟨⟨k + 1, vb', pre ++ [(⟨a0, a1⟩, a2)], HpPure.pop ltK qs, by omega, by go_num, ?_, HV7.out, ?_, ?_, ?_, ?_⟩, by simp [intOf] <;> omega⟩
            · refine (HH7.out.nil (((Kept.refl Nil w7).alloc _).alloc _)).kept (Kept.of_grown (S := fun i => _ = some i) hgrow (fun j e => e)) ?_ ?_
              · intro h2
                have h3 := (HO7.out.lt _ h2).1
                have := T2.out.b.own_lt (i := w2.heap.size) (.inl rfl)
                omega
              · intro i h1 h2
                have h3 := (HO7.out.lt i h2).1
                have h4 := T2.out.b.own_lt (i := i) (.inr (HV7.out ▸ h1))
                omega
            · rw [HDR.out, drain_cons ltK HQ.out, List.append_assoc]; rfl
            · rw [List.length_append, HPL.out]; rfl
            · simpa [It.cells] using hown'
            · exact ((HK7.out.alloc _).alloc _).grown hgrow (fun j e => .inr (HO7.out.lt j e).1)
          | none =>
            have hnil : qs = [] := by simpa using hq
            subst hnil
            have hke : k = zs.length := by simp at hlen; omega
            subst hke
            clear hH hvb hdr hpl hO hK hlen hq
            have Ha6 := T2.out.a.kept HKc.out (fun h => T2.out.ap _ (.inl rfl) h) (fun j hj h => T2.out.ap _ (.inr hj) h)
            have hb6 : ∀ i, Own w2.heap.size v2 i → i < wa.heap.size := fun i hi => HT.out.b.own_lt hi
            have HR1c := Lib.hid (HKc.out.own HR1b.out (fun i h1 h2 => by have h3 := (HR1b.out.lt i h1).1; have := hb6 i h2; omega))
            have HR2c := Lib.hid (HKc.out.own HR2.out (fun i h1 h2 => by have h3 := (HR2.out.lt i h1).1; have := hb6 i h2; omega))
            have HA6 := Lib.hid Ha6
            have hsum : tk1.length + tk2.length = zs.length := by
              have h1 := congrArg List.length HALL.out
              rw [(drain_perm ltK _).length_eq, List.length_append, HXL.out] at h1
              omega
            have HSUM := Lib.hid hsum
            have ht1 : tk1.length ≤ 200 := by omega
            have ht2 : tk2.length ≤ 200 := by omega
            have hpre : pre = tk1 ++ tk2 := by
              have := HDR.out
              rw [drain_nil, List.append_nil] at this
              rw [← this, HALL.out]
            have HPRE := Lib.hid hpre
            clear Ha6 hb6 hsum hpre
            go_wp2_with fail
            refine (Len_is HA6.out).mono ?_
            rintro e w6 ⟨rfl, rfl⟩
            go_wp2_with fail
            refine (Len_is HH.out).mono ?_
            rintro e w6 ⟨rfl, rfl⟩
            have HW1 := Lib.hid (show ∀ u ∈ (tk1.map Prod.fst).flatMap It.cells, u.oneCell' = true by
              intro u hu
              obtain ⟨x, _, hx⟩ := List.mem_flatMap.1 hu
              simp only [It.cells, List.mem_cons, List.not_mem_nil, or_false] at hx
              rcases hx with rfl | rfl <;> rfl)
            have HW2 := Lib.hid (show ∀ u ∈ (tk2.map Prod.fst).flatMap It.cells, u.oneCell' = true by
              intro u hu
              obtain ⟨x, _, hx⟩ := List.mem_flatMap.1 hu
              simp only [It.cells, List.mem_cons, List.not_mem_nil, or_false] at hx
              rcases hx with rfl | rfl <;> rfl)
            go_wp2_with (at_builtin; first
              | (refine wpList_strip rfl ?_; refine wpList_append_rows rfl _ _ 29 rfl wr.heap.size 27 i0 (.agg #[.int .i64 0, .int .i64 0]) 2 16 Try.underlying29 hinf hz0 hz1 hz2 rfl (by decide) _ _ _ rfl HO8.out w4.heap.size u2 tk2.length _ rfl HR2d.out HW2.out (by unfold maxLen; omega) (by omega) (by omega) ?_; intro s9 w9 hown9 hgrow9)
              | (refine wpList_strip rfl ?_; refine wpList_append_rows rfl _ _ 29 rfl wr.heap.size 27 i0 (.agg #[.int .i64 0, .int .i64 0]) 2 16 Try.underlying29 hinf hz0 hz1 hz2 rfl (by decide) _ 0 [] rfl (World.ownsRow_lit wr #[] 0 (Nat.le_refl _) (by decide) rfl) wa.heap.size u1 tk1.length _ rfl (HR1c.out.alloc _) HW1.out (by unfold maxLen; omega) (by omega) (by simp) ?_; intro s8 w8 hown8 hgrow8
                 have HO8 := Lib.hid hown8
                 have hk8 : Kept Nil wr w8 := ((Kept.refl Nil wr).alloc _).grown hgrow8 (fun j e => .inr (by have e' : some wr.heap.size = some j := e; cases e'; exact Nat.le_refl _))
                 have HK8 := Lib.hid hk8
                 have hw8 := hk8.size
                 have HR2d := Lib.hid (hk8.own HR2c.out (fun _ _ h => h))
                 have HB8 := Lib.hid (fun j e => (hown8.lt j e).1)
                 clear hown8 hgrow8 hk8))
            have hk9 : Kept Nil wr w9 := HK8.out.trans (Kept.of_grown (S := fun i => wr.heap.size ≤ i) hgrow9 (fun j e => HB8.out j e)) (fun i hi => .inr hi)
            have hown9' : w9.ownsRow wr.heap.size 27 2 s9 (0 + tk1.length + tk2.length) ((pre.map Prod.fst).flatMap It.cells) := by
              have := hown9
              rw [HPRE.out]
              simpa using this
            obtain ⟨-, A9, c9, rfl, R9, -⟩ := row_of_own hown9'
            obtain ⟨-, A8, c8, rfl, R8, -⟩ := row_of_own (hk9.own HO.out (fun _ _ h => h))
            have hpn : (pre.map Prod.fst).length ≤ 200 := by have := HPL.out; simp; omega
            have HK9 := Lib.hid hk9
            have hR9 := Lib.hid R9
            have hR8 := Lib.hid R8
            clear hown9 hown9' hgrow9 hk9 R9 R8
            refine (Same_is (pre.map Prod.fst) A9 A8 c9 c8 w9 hR9.out hR8.out (by omega)).mono ?_
            rintro e w10 ⟨rfl, hk10⟩
            have HA10 := Lib.hid (HA6.out.nil (HK9.out.step hk10))
            have HK10 := Lib.hid (((HKb.out.trans HKc.out (fun i hi => .inr (T2.out.b.own_base i hi))).step HK9.out).step hk10)
            clear hk10
            go_wp2_with fail
            refine (Push_is LL.out HA10.out trivial 5 1 (by simp) (by omega) (by omega)).mono ?_
            rintro e w11 ⟨va3, rfl, H11, hk11, hv11⟩
            have hp1 : push ltK [] (⟨5, 1⟩ : It) (zs.length : Int) = [(⟨5, 1⟩, (zs.length : Int))] := List.perm_singleton.1 (push_perm ltK [] ⟨5, 1⟩ zs.length)
            rw [hp1] at H11
            have HH11 := Lib.hid H11
            have HK11 := Lib.hid (HK10.out.trans hk11 (fun i hi => .inr (HA10.out.own_base i hi)))
            clear H11 hk11 hv11 hp1
            go_wp2_with fail
            refine (Pop_some LL.out HH11.out trivial (a0 := 5) (a1 := 1) (a2 := zs.length) rfl).mono ?_
            rintro e w12 ⟨va4, rfl, H12, hk12, hv12⟩
            have hp2 : HpPure.pop ltK [((⟨5, 1⟩ : It), (zs.length : Int))] = [] := List.eq_nil_of_length_eq_zero (by rw [pop_length]; rfl)
            rw [hp2] at H12
            have HH12 := Lib.hid H12
            have HK12 := Lib.hid (HK11.out.trans hk12 (fun i hi => .inr (HH11.out.own_base i hi)))
            clear H12 hk12 hv12 hp2
            go_wp2_with fail
            refine (Peek_none (HH12.out.nil ((Kept.refl Nil w12).alloc _)) rfl).mono ?_
            rintro e w13 ⟨rfl, hk13⟩
            have x0 : w13.cell? ⟨w12.heap.size, 0, none⟩ = some (.int .i64 5) := hk13.cell (by simp) (fun h => h)
            have x1 : w13.cell? ⟨w12.heap.size, 1, none⟩ = some (.int .i64 1) := hk13.cell (by simp) (fun h => h)
            have lx := World.block_lt_of_cell? _ _ x0
            simp only at lx
            have HK13 := Lib.hid (((HK12.out.alloc _).step hk13).alloc (.cells #[.int .i64 0, .int .i64 0] 27))
            clear hk13
            obtain ⟨A1', c1', rfl⟩ := own_slice HR1.out
            have hl1 := HL1.out
            clear HL1
            subst hl1
            go_wp2
            go_ret
            exact ⟨rfl, HK13.out.toBelow⟩
      · have hlt : k < zs.length := (List.getElem?_eq_some_iff.1 hz).1
        have hmk := itemsC_take zs hz
        have hl : (pushes ltK [] (itemsC (zs.take k))).length = k := by rw [pushes_length, itemsC_len, List.length_take, Nat.min_eq_left (Nat.le_of_lt hlt)]; simp
        have HMK := Lib.hid hmk
        have HL := Lib.hid hl
        clear hmk hz hl
        go_wp2_with fail
        refine (Push_is LL.out HT.out.a trivial z k (by rw [HL.out]; omega) (by omega) (by omega)).mono ?_
        rintro e w4 ⟨v1', rfl, Ha, hk4, hv4⟩
        obtain ⟨Ha, Hb, ap⟩ := HT.out.turnA Ha hk4 hv4
        have HKa := Lib.hid (HKr.out.trans hk4 (fun i hi => .inr (HT.out.a.own_base i hi)))
        have HHa := Lib.hid Ha
        have HHb := Lib.hid Hb
        have HAP := Lib.hid ap
        clear Ha Hb ap hk4 hv4
        go_wp2_with fail
        refine (Push_is LL.out HHb.out trivial z k (by rw [HL.out]; omega) (by omega) (by omega)).mono ?_
        rintro e w5 ⟨v2', rfl, Hb, hk5, hv5⟩
        have HT5 := Lib.hid (Twin.turnB HHa.out HAP.out Hb hk5 hv5)
        have HKb := Lib.hid (HKa.out.trans hk5 (fun i hi => .inr (HHb.out.own_base i hi)))
        clear Hb hk5 hv5
        go_wp2_with fail
        go_roundw
        case rel =>
          refine ⟨k + 1, v1', v2', by omega, by go_num, ?_, HKb.out⟩
          rw [HMK.out, pushes_snoc]
          exact_mod_cast HT5.out
        case measure => (simp [intOf] <;> omega)
end Go.Proofs.Ytfkhnhpphcpmmaa.HpItem
