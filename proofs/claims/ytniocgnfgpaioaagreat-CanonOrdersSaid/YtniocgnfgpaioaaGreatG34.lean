/- The walk of law16's alive. -/
import Derived.Test.YtniocgnfgpaioaaGreatG33
set_option linter.unusedVariables false
set_option linter.unusedSimpArgs false
namespace Go.Proofs.YtniocgnfgpaioaaGreat.Mo
open Go Go.RowKit Go.Proofs.YtniocgnfgpaioaaGreat.Lb Go.Proofs.YtniocgnfgpaioaaGreat.HpPure Go.Proofs.YtniocgnfgpaioaaGreat.Gr
set_option maxRecDepth 8000
/-- The sample laid down, in memory. -/
structure CanS (b : Nat) (w : World) (g o gv ov vc pc : Nat) (la : Option Addr) (lc ge oe ec : Nat) (ps : List Pr) (ls : List Lk) (es : List Ev) : Prop where
 h : HeldM w ⟨3, some ⟨g, o, none⟩, ps, pc, la, ls, lc, some ⟨ge, oe, none⟩, es, ec⟩
 p : ps.length = 2
 l : ls.length = 1
 e : es.length = 2
 s : SameM (canM (smp b)) ⟨3, some ⟨g, o, none⟩, ps, pc, la, ls, lc, some ⟨ge, oe, none⟩, es, ec⟩
 c0 : w.cell? ⟨g, o, none⟩ = some (.string ⟨#[97]⟩)
 c2 : w.cell? ⟨g, o + 2, none⟩ = some (.slice (some ⟨gv, ov, none⟩) 2 vc)
 v0 : w.cell? ⟨gv, ov, none⟩ = some (.string ⟨#[120]⟩)
 e0 : w.cell? ⟨ge, oe, none⟩ = some (.string ⟨#[97]⟩)
theorem CanS.nil {b : Nat} {w w' : World} {g o gv ov vc pc : Nat} {la : Option Addr} {lc ge oe ec : Nat} {ps : List Pr} {ls : List Lk} {es : List Ev} (h : CanS b w g o gv ov vc pc la lc ge oe ec ps ls es) (hk : Kept Nil w w') : CanS b w' g o gv ov vc pc la lc ge oe ec ps ls es :=
 ⟨h.h.nil hk, h.p, h.l, h.e, h.s, hk.cell h.c0 (fun h => h), hk.cell h.c2 (fun h => h), hk.cell h.v0 (fun h => h), hk.cell h.e0 (fun h => h)⟩
theorem Canon_s (b : Nat) (w : World) (hm : HeldM w (smp b)) : Calls Tryz.prog 12 #[.agg #[.int .i64 3, .slice (some ⟨b + 1 + 1, 0, none⟩) 2 2, .slice (some ⟨b + 1 + 1 + 1, 0, none⟩) 1 1, .slice (some ⟨b + 1 + 1 + 1 + 1, 0, none⟩) 2 2]] w fun e w' => ∃ g o gv ov vc pc la lc ge oe ec ps ls es, e = .returned (.agg #[.int .i64 3, .slice (some ⟨g, o, none⟩) 2 pc, .slice la 1 lc, .slice (some ⟨ge, oe, none⟩) 2 ec]) ∧ CanS b w' g o gv ov vc pc la lc ge oe ec ps ls es ∧ Kept Nil w w' := by
 refine (Canon_is 3 (smp b).ps (smp b).ls (smp b).es (smp b).pa (smp b).la (smp b).ea 2 1 2 w hm).mono ?_
 rintro e w' ⟨hk, ⟨v, pa, ps, pc, la, ls, lc, ea, es, ec⟩, rfl, hh, hs, _, _⟩
 have hv : (3 : Int) = v := hs.v
 subst hv
 have hps := hs.p
 have hls : sortedBy llt (smp b).ls = ls := hs.l
 have hes : [⟨⟨#[97]⟩, 1, 0⟩, ⟨⟨#[98]⟩, 1, 0⟩] = es := (smp_es b).symm.trans hs.e
 have hpe := smp_ps b
 have hs0 : SamePs [⟨⟨#[97]⟩, 1, some ⟨b + 1, 0, none⟩, [⟨⟨#[120]⟩, 0⟩, ⟨⟨#[121]⟩, 0⟩], 2, none, [], 0⟩, smpP0] ps := by rw [← hpe]; exact hps
 have hpl : ps.length = 2 := hs0.l.symm
 have hll : ls.length = 1 := by rw [← hls, sortedBy_length]; rfl
 have hel : es.length = 2 := by rw [← hes]; rfl
 obtain ⟨p0, e0⟩ : ∃ p, ps[0]? = some p := ⟨_, List.getElem?_eq_getElem (by omega)⟩
 have hp0 := hs0.p 0 _ p0 rfl e0
 obtain ⟨g, o, hga, c0, _, c2, _⟩ := hh.r.p.at e0
 simp only at hga
 have hpp := hh.r.pp p0 (List.mem_of_getElem? e0)
 have hvs : [⟨⟨#[120]⟩, 0⟩, ⟨⟨#[121]⟩, 0⟩] = p0.vs := hp0.v
 obtain ⟨gv, ov, hva, v0, _⟩ := hpp.v.at (k := 0) (v := ⟨⟨#[120]⟩, 0⟩) (by rw [← hvs]; rfl)
 obtain ⟨ge, oe, hea, x0, _⟩ := hh.r.e.at9 (k := 0) (e := ⟨⟨#[97]⟩, 1, 0⟩) (by simp only [← hes]; rfl)
 simp only at hea
 subst hga hea
 have hpn : p0.name = ⟨#[97]⟩ := hp0.n.symm
 rw [hpn] at c0
 rw [hva, ← hvs] at c2
 rw [hpl, hll, hel]
 refine ⟨g, o, gv, ov, p0.vc, pc, la, lc, ge, oe, ec, ps, ls, es, rfl, ⟨hh, hpl, hll, hel, hs, ?_, ?_, ?_, ?_⟩, hk⟩
 ·simpa using c0
 ·simpa using c2
 ·simpa using v0
 ·simpa using x0
theorem Is_s (b : Nat) (w : World) (hm : HeldM w (smp b)) : Calls Tryz.prog 15 #[.agg #[.int .i64 3, .slice (some ⟨b + 1 + 1, 0, none⟩) 2 2, .slice (some ⟨b + 1 + 1 + 1, 0, none⟩) 1 1, .slice (some ⟨b + 1 + 1 + 1 + 1, 0, none⟩) 2 2]] w fun e w' => e = .returned (.bool false) ∧ Kept Nil w w' := by
 have h := cIs_is 3 (smp b).ps (smp b).ls (smp b).es (smp b).pa (smp b).la (smp b).ea 2 1 2 w hm
 have e9 : eqM (smp b) (canM (smp b)) = false := smp_not b (SameM.rfl' _)
 refine h.mono ?_
 rintro e w' ⟨rfl, hk⟩
 exact ⟨congrArg (fun x => Ending.returned (.bool x)) e9, hk⟩
theorem Same_s (a b : Nat) (w : World) (h1 : HeldM w (smp a)) (h2 : HeldM w (smp b)) : Calls Tryz.prog 16 #[.agg #[.int .i64 3, .slice (some ⟨a + 1 + 1, 0, none⟩) 2 2, .slice (some ⟨a + 1 + 1 + 1, 0, none⟩) 1 1, .slice (some ⟨a + 1 + 1 + 1 + 1, 0, none⟩) 2 2], .agg #[.int .i64 3, .slice (some ⟨b + 1 + 1, 0, none⟩) 2 2, .slice (some ⟨b + 1 + 1 + 1, 0, none⟩) 1 1, .slice (some ⟨b + 1 + 1 + 1 + 1, 0, none⟩) 2 2]] w fun e w' => e = .returned (.bool true) ∧ Kept Nil w w' := by
 have h := cSame_is 3 3 (smp a).ps (smp b).ps (smp a).ls (smp b).ls (smp a).es (smp b).es (smp a).pa (smp b).pa (smp a).la (smp b).la (smp a).ea (smp b).ea 2 2 1 1 2 2 w h1 h2
 have e9 : eqM (smp a) (smp b) = true := eqM_iff.2 (smp_same a b)
 refine h.mono ?_
 rintro e w' ⟨rfl, hk⟩
 exact ⟨congrArg (fun x => Ending.returned (.bool x)) e9, hk⟩
section
variable {b : Nat} {w : World} {g o gv ov vc pc : Nat} {la : Option Addr} {lc ge oe ec : Nat} {ps : List Pr} {ls : List Lk} {es : List Ev}
theorem Is_c (h : CanS b w g o gv ov vc pc la lc ge oe ec ps ls es) : Calls Tryz.prog 15 #[.agg #[.int .i64 3, .slice (some ⟨g, o, none⟩) 2 pc, .slice la 1 lc, .slice (some ⟨ge, oe, none⟩) 2 ec]] w fun e w' => e = .returned (.bool true) ∧ Kept Nil w w' := by
 have h9 := cIs_is 3 ps ls es (some ⟨g, o, none⟩) la (some ⟨ge, oe, none⟩) pc lc ec w h.h
 have e9 : eqM ⟨3, some ⟨g, o, none⟩, ps, pc, la, ls, lc, some ⟨ge, oe, none⟩, es, ec⟩ (canM ⟨3, some ⟨g, o, none⟩, ps, pc, la, ls, lc, some ⟨ge, oe, none⟩, es, ec⟩) = true := eqM_iff.2 (h.s.symm.trans (by have h8 := canM_same h.s; rw [canM_twice] at h8; exact h8))
 rw [h.p, h.l, h.e, e9] at h9
 exact h9
theorem Same_c (h : CanS b w g o gv ov vc pc la lc ge oe ec ps ls es) (h1 : HeldM w (smp b)) : Calls Tryz.prog 16 #[.agg #[.int .i64 3, .slice (some ⟨b + 1 + 1, 0, none⟩) 2 2, .slice (some ⟨b + 1 + 1 + 1, 0, none⟩) 1 1, .slice (some ⟨b + 1 + 1 + 1 + 1, 0, none⟩) 2 2], .agg #[.int .i64 3, .slice (some ⟨g, o, none⟩) 2 pc, .slice la 1 lc, .slice (some ⟨ge, oe, none⟩) 2 ec]] w fun e w' => e = .returned (.bool false) ∧ Kept Nil w w' := by
 have h9 := cSame_is 3 3 (smp b).ps ps (smp b).ls ls (smp b).es es (smp b).pa (some ⟨g, o, none⟩) (smp b).la la (smp b).ea (some ⟨ge, oe, none⟩) 2 pc 1 lc 2 ec w h1 h.h
 rw [h.p, h.l, h.e] at h9
 have e9 : eqM (smp b) ⟨3, some ⟨g, o, none⟩, ps, pc, la, ls, lc, some ⟨ge, oe, none⟩, es, ec⟩ = false := smp_not b h.s
 refine h9.mono ?_
 rintro e w' ⟨rfl, hk⟩
 exact ⟨congrArg (fun x => Ending.returned (.bool x)) e9, hk⟩
end
structure GraphS (w : World) (e : Ending) (w' : World) : Prop where
 k : Kept Nil w w'
 ok : ∃ base gb A c B d ws ms, e = .returned (.tuple #[.pointer (some ⟨gb, 0, none⟩), .int .i64 0]) ∧ IsG w' base gb A c B d ws ms ∧ ms.map GMap.es = [[(1, 4)], [(0, 4)]]
theorem Graph_s (b : Nat) (w : World) (hm : HeldM w (smp b)) : Calls Tryz.prog 18 #[.agg #[.int .i64 3, .slice (some ⟨b + 1 + 1, 0, none⟩) 2 2, .slice (some ⟨b + 1 + 1 + 1, 0, none⟩) 1 1, .slice (some ⟨b + 1 + 1 + 1 + 1, 0, none⟩) 2 2]] w fun e w' => GraphS w e w' := by
 have h := Graph_is 3 (smp b).ps (smp b).ls (smp b).es (smp b).pa (smp b).la (smp b).ea 2 1 2 w hm (fun _ k l hl hne => by
  match k with
  | 0 =>
   have hl2 : l = ⟨⟨#[108]⟩, ⟨#[97]⟩, ⟨#[98]⟩, 5, 4⟩ := by
    have h9 : some _ = some l := hl
    exact (Option.some.inj h9).symm
   subst hl2
   have h0 : ((gst (smp b) 0)[nIx (smp b) ⟨#[97]⟩]?.getD []) = [] := by kernel_rfl
   have h1 : ((gst (smp b) 0)[nIx (smp b) ⟨#[98]⟩]?.getD []) = [] := by kernel_rfl
   exact ⟨.inr (by kernel_rfl), .inr (by kernel_rfl), Nat.lt_of_le_of_lt (Nat.le_of_eq (congrArg List.length h0)) (by decide), Nat.lt_of_le_of_lt (Nat.le_of_eq (congrArg List.length h1)) (by decide), by kernel_rfl⟩
  | k + 1 => simp [smp] at hl)
 refine h.mono ?_
 rintro e w' ⟨hk, _, hok⟩
 obtain ⟨base, gb, A, c, B, d, ms, rfl, _, hg, he⟩ := hok (smp_check b)
 exact ⟨hk, base, gb, A, c, B, d, _, ms, rfl, hg, he.trans (smp_gst b)⟩
theorem Graph_z (w : World) : Calls Tryz.prog 18 #[.agg #[.int .i64 0, .slice none 0 0, .slice none 0 0, .slice none 0 0]] w fun e w' => e = .returned (.tuple #[.pointer none, .int .i64 43]) ∧ Kept Nil w w' := by
 have hz : HeldM w ⟨0, none, [], 0, none, [], 0, none, [], 0⟩ := ⟨⟨.inl rfl, fun q hq => by simp at hq, .inl rfl, .inl rfl, by simp [maxLen], by simp [maxLen], by simp [maxLen]⟩, ⟨by simp [Sc.I64], by simp, by simp, by simp, by simp, by simp, by simp, by simp, by simp, by simp⟩, ⟨by simp, by simp, by simp, by simp⟩⟩
 have hc : (mdCheck ⟨0, none, [], 0, none, [], 0, none, [], 0⟩).1 = 43 := by kernel_rfl
 refine (Graph_is 0 [] [] [] none none none 0 0 0 w hz (fun h => by rw [hc] at h; cases h)).mono ?_
 rintro e w' ⟨hk, hbad, _⟩
 have h9 := hbad (by rw [hc]; decide)
 rw [hc] at h9
 exact ⟨h9, hk⟩
theorem IsG.two {w : World} {base gb c d : Nat} {A B : Option Addr} {ws : List Int} {ms : List GMap} (h : IsG w base gb A c B d ws ms) (he : ms.map GMap.es = [[(1, 4)], [(0, 4)]]) :
  (Calls Tryz.prog 20 #[.pointer (some ⟨gb, 0, none⟩)] w fun e w' => e = .returned (.int .i64 2) ∧ w' = w) ∧
  Calls Tryz.prog 23 #[.pointer (some ⟨gb, 0, none⟩), .int .i64 0, .int .i64 1] w fun e w' => e = .returned (.int .i64 4) ∧ Kept Nil w w' := by
 have hl : ms.length = 2 := by have := congrArg List.length he; simpa using this
 obtain ⟨m, em⟩ : ∃ m, ms[0]? = some m := ⟨_, List.getElem?_eq_getElem (by omega)⟩
 have hme : m.es = [(1, 4)] := by
  have h9 : (ms.map GMap.es)[0]? = some m.es := by rw [List.getElem?_map, em]; rfl
  rw [he] at h9
  exact (Option.some.inj h9).symm
 refine ⟨?_, ?_⟩
 ·have h9 := Len_is base gb c d A B ws ms w h
  rw [hl] at h9
  exact h9
 ·have h9 := Between_is base gb c d A B ws ms 0 1 m w h em
  rw [hme] at h9
  exact h9
set_option maxHeartbeats 8000000 in
theorem alive_is (w : World) : Calls Tryz.prog 9 #[] w fun e w' => e = .returned (.bool true) ∧ Kept Nil w w' := by
 go_enter Tryz.func9, Tryz.ntmps9
 go_wp2_with fail
 refine (sample_is w).mono ?_
 rintro e wa ⟨rfl, hS, hka⟩
 have HS := Lib.hid hS
 have HKA := Lib.hid hka
 clear hS hka
 obtain ⟨W1, hW⟩ : ∃ W, (wa.alloc (.cells #[.int .i64 3, .slice (some ⟨w.heap.size + 1 + 1, 0, none⟩) 2 2, .slice (some ⟨w.heap.size + 1 + 1 + 1, 0, none⟩) 1 1, .slice (some ⟨w.heap.size + 1 + 1 + 1 + 1, 0, none⟩) 2 2] 26)) = W := ⟨_, rfl⟩
 have hk : Kept Nil wa W1 := by rw [← hW]; exact ((Kept.refl Nil wa).alloc _)
 have hsz : W1.heap.size = wa.heap.size + 1 := by rw [← hW]; simp
 have hb : W1.heap[wa.heap.size]? = some (.cells #[.int .i64 3, .slice (some ⟨w.heap.size + 1 + 1, 0, none⟩) 2 2, .slice (some ⟨w.heap.size + 1 + 1 + 1, 0, none⟩) 1 1, .slice (some ⟨w.heap.size + 1 + 1 + 1 + 1, 0, none⟩) 2 2] 26 (0, 0)) := by
  rw [← hW]
  have h9 := heap_new wa (.cells #[.int .i64 3, .slice (some ⟨w.heap.size + 1 + 1, 0, none⟩) 2 2, .slice (some ⟨w.heap.size + 1 + 1 + 1, 0, none⟩) 1 1, .slice (some ⟨w.heap.size + 1 + 1 + 1 + 1, 0, none⟩) 2 2] 26)
  exact h9
 have A0 := Lib.hid (show W1.cell? ⟨wa.heap.size, 0, none⟩ = some (.int .i64 3) by rw [cell_of hb]; rfl)
 have A1 := Lib.hid (show W1.cell? ⟨wa.heap.size, 1, none⟩ = some (.slice (some ⟨w.heap.size + 1 + 1, 0, none⟩) 2 2) by rw [cell_of hb]; rfl)
 have A2 := Lib.hid (show W1.cell? ⟨wa.heap.size, 2, none⟩ = some (.slice (some ⟨w.heap.size + 1 + 1 + 1, 0, none⟩) 1 1) by rw [cell_of hb]; rfl)
 have A3 := Lib.hid (show W1.cell? ⟨wa.heap.size, 3, none⟩ = some (.slice (some ⟨w.heap.size + 1 + 1 + 1 + 1, 0, none⟩) 2 2) by rw [cell_of hb]; rfl)
 have AB := Lib.hid hb
 have hza : wa.heap.size < W1.heap.size := by omega
 clear hb
 have HW1 := Lib.hid hW
 have HK1 := Lib.hid hk
 have HSZ1 := Lib.hid hsz
 clear hW hk hsz
 go_upto_region 2 with fail
 rw [HW1.out]
 have a0 := A0.out
 have a1 := A1.out
 have a2 := A2.out
 have a3 := A3.out
 go_wp2_with fail
 refine (Canon_s w.heap.size W1 (HS.out.nil HK1.out)).mono ?_
 rintro e wb ⟨g, o, gv, ov, vc, pc, la, lc, ge, oe, ec, ps, ls, es, rfl, hc, hkb⟩
 have HC := Lib.hid hc
 have HKB := Lib.hid hkb
 clear hc hkb a0 a1 a2 a3
 obtain ⟨W2, hW⟩ : ∃ W, (wb.alloc (.cells #[.int .i64 3, .slice (some ⟨g, o, none⟩) 2 pc, .slice la 1 lc, .slice (some ⟨ge, oe, none⟩) 2 ec] 26)) = W := ⟨_, rfl⟩
 have hk : Kept Nil wb W2 := by rw [← hW]; exact ((Kept.refl Nil wb).alloc _)
 have hsz : W2.heap.size = wb.heap.size + 1 := by rw [← hW]; simp
 have hb : W2.heap[wb.heap.size]? = some (.cells #[.int .i64 3, .slice (some ⟨g, o, none⟩) 2 pc, .slice la 1 lc, .slice (some ⟨ge, oe, none⟩) 2 ec] 26 (0, 0)) := by
  rw [← hW]
  have h9 := heap_new wb (.cells #[.int .i64 3, .slice (some ⟨g, o, none⟩) 2 pc, .slice la 1 lc, .slice (some ⟨ge, oe, none⟩) 2 ec] 26)
  exact h9
 have C0 := Lib.hid (show W2.cell? ⟨wb.heap.size, 0, none⟩ = some (.int .i64 3) by rw [cell_of hb]; rfl)
 have C1 := Lib.hid (show W2.cell? ⟨wb.heap.size, 1, none⟩ = some (.slice (some ⟨g, o, none⟩) 2 pc) by rw [cell_of hb]; rfl)
 have C2 := Lib.hid (show W2.cell? ⟨wb.heap.size, 2, none⟩ = some (.slice la 1 lc) by rw [cell_of hb]; rfl)
 have C3 := Lib.hid (show W2.cell? ⟨wb.heap.size, 3, none⟩ = some (.slice (some ⟨ge, oe, none⟩) 2 ec) by rw [cell_of hb]; rfl)
 have CB := Lib.hid hb
 have hzc : wb.heap.size < W2.heap.size := by omega
 clear hb
 have HW2 := Lib.hid hW
 have HK2 := Lib.hid hk
 have HSZ2 := Lib.hid hsz
 clear hW hk hsz
 go_upto_region 3 with fail
 rw [HW2.out]
 have hk12 : Kept Nil W1 W2 := HKB.out.step HK2.out
 have HK12 := Lib.hid hk12
 have hz12 := hk12.size
 clear hk12
 have HCW := Lib.hid (HC.out.nil HK2.out)
 have HSW := Lib.hid (HS.out.nil (HK1.out.step HK12.out))
 have Fa0 := Lib.hid (HK12.out.cell A0.out (fun h => h))
 have a0 := Fa0.out
 have Fa1 := Lib.hid (HK12.out.cell A1.out (fun h => h))
 have a1 := Fa1.out
 have Fa2 := Lib.hid (HK12.out.cell A2.out (fun h => h))
 have a2 := Fa2.out
 have Fa3 := Lib.hid (HK12.out.cell A3.out (fun h => h))
 have a3 := Fa3.out
 have Fc0 := Lib.hid (C0.out)
 have c0 := Fc0.out
 have Fc1 := Lib.hid (C1.out)
 have c1 := Fc1.out
 have Fc2 := Lib.hid (C2.out)
 have c2 := Fc2.out
 have Fc3 := Lib.hid (C3.out)
 have c3 := Fc3.out
 have Fx0 := Lib.hid (HCW.out.c0)
 have x0 := Fx0.out
 have Fx2 := Lib.hid (HCW.out.c2)
 have x2 := Fx2.out
 have Fxv := Lib.hid (HCW.out.v0)
 have xv := Fxv.out
 have Fxe := Lib.hid (HCW.out.e0)
 have xe := Fxe.out
 have z2_a0 := World.block_lt_of_cell? _ _ a0
 have z2_c0 := World.block_lt_of_cell? _ _ c0
 have z2_x0 := World.block_lt_of_cell? _ _ x0
 have z2_xv := World.block_lt_of_cell? _ _ xv
 have z2_xe := World.block_lt_of_cell? _ _ xe
 go_upto_region 9 with (first | (go_at_call 18; with_reducible refine (Graph_s w.heap.size _ (HSW.out.nil (by repeat (first | exact kzr _ _ | assumption | refine kzd ?_ | refine kzn ?_ _ | refine kza ?_ _ | refine kzs ?_ (by assumption))))).mono ?_; rintro e w5 ⟨hk5, base, gb, GA, gc, GB, gd, ws, ms, rfl, hg, hge⟩; have HG := Lib.hid hg; have HGE := Lib.hid hge; clear hg hge; clear a0 a1 a2 a3 c0 c1 c2 c3 x0 x2 xv xe; have a0 := (show Kept Nil W2 w5 from (by repeat (first | exact kzr _ _ | assumption | refine kzd ?_ | refine kzn ?_ _ | refine kza ?_ _ | refine kzs ?_ (by assumption)))).cell Fa0.out (fun h => h); have a1 := (show Kept Nil W2 w5 from (by repeat (first | exact kzr _ _ | assumption | refine kzd ?_ | refine kzn ?_ _ | refine kza ?_ _ | refine kzs ?_ (by assumption)))).cell Fa1.out (fun h => h); have a2 := (show Kept Nil W2 w5 from (by repeat (first | exact kzr _ _ | assumption | refine kzd ?_ | refine kzn ?_ _ | refine kza ?_ _ | refine kzs ?_ (by assumption)))).cell Fa2.out (fun h => h); have a3 := (show Kept Nil W2 w5 from (by repeat (first | exact kzr _ _ | assumption | refine kzd ?_ | refine kzn ?_ _ | refine kza ?_ _ | refine kzs ?_ (by assumption)))).cell Fa3.out (fun h => h); have c0 := (show Kept Nil W2 w5 from (by repeat (first | exact kzr _ _ | assumption | refine kzd ?_ | refine kzn ?_ _ | refine kza ?_ _ | refine kzs ?_ (by assumption)))).cell Fc0.out (fun h => h); have c1 := (show Kept Nil W2 w5 from (by repeat (first | exact kzr _ _ | assumption | refine kzd ?_ | refine kzn ?_ _ | refine kza ?_ _ | refine kzs ?_ (by assumption)))).cell Fc1.out (fun h => h); have c2 := (show Kept Nil W2 w5 from (by repeat (first | exact kzr _ _ | assumption | refine kzd ?_ | refine kzn ?_ _ | refine kza ?_ _ | refine kzs ?_ (by assumption)))).cell Fc2.out (fun h => h); have c3 := (show Kept Nil W2 w5 from (by repeat (first | exact kzr _ _ | assumption | refine kzd ?_ | refine kzn ?_ _ | refine kza ?_ _ | refine kzs ?_ (by assumption)))).cell Fc3.out (fun h => h); have x0 := (show Kept Nil W2 w5 from (by repeat (first | exact kzr _ _ | assumption | refine kzd ?_ | refine kzn ?_ _ | refine kza ?_ _ | refine kzs ?_ (by assumption)))).cell Fx0.out (fun h => h); have x2 := (show Kept Nil W2 w5 from (by repeat (first | exact kzr _ _ | assumption | refine kzd ?_ | refine kzn ?_ _ | refine kza ?_ _ | refine kzs ?_ (by assumption)))).cell Fx2.out (fun h => h); have xv := (show Kept Nil W2 w5 from (by repeat (first | exact kzr _ _ | assumption | refine kzd ?_ | refine kzn ?_ _ | refine kza ?_ _ | refine kzs ?_ (by assumption)))).cell Fxv.out (fun h => h); have xe := (show Kept Nil W2 w5 from (by repeat (first | exact kzr _ _ | assumption | refine kzd ?_ | refine kzn ?_ _ | refine kza ?_ _ | refine kzs ?_ (by assumption)))).cell Fxe.out (fun h => h); have z5_a0 := World.block_lt_of_cell? _ _ a0; have z5_c0 := World.block_lt_of_cell? _ _ c0; have z5_x0 := World.block_lt_of_cell? _ _ x0; have z5_xv := World.block_lt_of_cell? _ _ xv; have z5_xe := World.block_lt_of_cell? _ _ xe) | (go_at_call 18; with_reducible refine (Graph_z _).mono ?_; rintro e w6 ⟨rfl, hk6⟩; clear a0 a1 a2 a3 c0 c1 c2 c3 x0 x2 xv xe; have a0 := (show Kept Nil W2 w6 from (by repeat (first | exact kzr _ _ | assumption | refine kzd ?_ | refine kzn ?_ _ | refine kza ?_ _ | refine kzs ?_ (by assumption)))).cell Fa0.out (fun h => h); have a1 := (show Kept Nil W2 w6 from (by repeat (first | exact kzr _ _ | assumption | refine kzd ?_ | refine kzn ?_ _ | refine kza ?_ _ | refine kzs ?_ (by assumption)))).cell Fa1.out (fun h => h); have a2 := (show Kept Nil W2 w6 from (by repeat (first | exact kzr _ _ | assumption | refine kzd ?_ | refine kzn ?_ _ | refine kza ?_ _ | refine kzs ?_ (by assumption)))).cell Fa2.out (fun h => h); have a3 := (show Kept Nil W2 w6 from (by repeat (first | exact kzr _ _ | assumption | refine kzd ?_ | refine kzn ?_ _ | refine kza ?_ _ | refine kzs ?_ (by assumption)))).cell Fa3.out (fun h => h); have c0 := (show Kept Nil W2 w6 from (by repeat (first | exact kzr _ _ | assumption | refine kzd ?_ | refine kzn ?_ _ | refine kza ?_ _ | refine kzs ?_ (by assumption)))).cell Fc0.out (fun h => h); have c1 := (show Kept Nil W2 w6 from (by repeat (first | exact kzr _ _ | assumption | refine kzd ?_ | refine kzn ?_ _ | refine kza ?_ _ | refine kzs ?_ (by assumption)))).cell Fc1.out (fun h => h); have c2 := (show Kept Nil W2 w6 from (by repeat (first | exact kzr _ _ | assumption | refine kzd ?_ | refine kzn ?_ _ | refine kza ?_ _ | refine kzs ?_ (by assumption)))).cell Fc2.out (fun h => h); have c3 := (show Kept Nil W2 w6 from (by repeat (first | exact kzr _ _ | assumption | refine kzd ?_ | refine kzn ?_ _ | refine kza ?_ _ | refine kzs ?_ (by assumption)))).cell Fc3.out (fun h => h); have x0 := (show Kept Nil W2 w6 from (by repeat (first | exact kzr _ _ | assumption | refine kzd ?_ | refine kzn ?_ _ | refine kza ?_ _ | refine kzs ?_ (by assumption)))).cell Fx0.out (fun h => h); have x2 := (show Kept Nil W2 w6 from (by repeat (first | exact kzr _ _ | assumption | refine kzd ?_ | refine kzn ?_ _ | refine kza ?_ _ | refine kzs ?_ (by assumption)))).cell Fx2.out (fun h => h); have xv := (show Kept Nil W2 w6 from (by repeat (first | exact kzr _ _ | assumption | refine kzd ?_ | refine kzn ?_ _ | refine kza ?_ _ | refine kzs ?_ (by assumption)))).cell Fxv.out (fun h => h); have xe := (show Kept Nil W2 w6 from (by repeat (first | exact kzr _ _ | assumption | refine kzd ?_ | refine kzn ?_ _ | refine kza ?_ _ | refine kzs ?_ (by assumption)))).cell Fxe.out (fun h => h); have z6_a0 := World.block_lt_of_cell? _ _ a0; have z6_c0 := World.block_lt_of_cell? _ _ c0; have z6_x0 := World.block_lt_of_cell? _ _ x0; have z6_xv := World.block_lt_of_cell? _ _ xv; have z6_xe := World.block_lt_of_cell? _ _ xe))
 simp only [List.append_eq, List.cons_append, List.nil_append]
 have HK26 := Lib.hid (show Kept Nil W2 w6 from (by repeat (first | exact kzr _ _ | assumption | refine kzd ?_ | refine kzn ?_ _ | refine kza ?_ _ | refine kzs ?_ (by assumption))))
 have C9_0 := Lib.hid (show w6.cell? ⟨wa.heap.size, 0, none⟩ = some (.int .i64 3) from a0)
 have C9_1 := Lib.hid (show w6.cell? ⟨wa.heap.size, 1, none⟩ = some (.slice (some ⟨w.heap.size + 1 + 1, 0, none⟩) 2 2) from a1)
 have C9_2 := Lib.hid (show w6.cell? ⟨wa.heap.size, 2, none⟩ = some (.slice (some ⟨w.heap.size + 1 + 1 + 1, 0, none⟩) 1 1) from a2)
 have C9_3 := Lib.hid (show w6.cell? ⟨wa.heap.size, 3, none⟩ = some (.slice (some ⟨w.heap.size + 1 + 1 + 1 + 1, 0, none⟩) 2 2) from a3)
 have C9_4 := Lib.hid (show w6.cell? ⟨wb.heap.size, 0, none⟩ = some (.int .i64 3) from c0)
 have C9_5 := Lib.hid (show w6.cell? ⟨wb.heap.size, 1, none⟩ = some (.slice (some ⟨g, o, none⟩) 2 pc) from c1)
 have C9_6 := Lib.hid (show w6.cell? ⟨wb.heap.size, 2, none⟩ = some (.slice la 1 lc) from c2)
 have C9_7 := Lib.hid (show w6.cell? ⟨wb.heap.size, 3, none⟩ = some (.slice (some ⟨ge, oe, none⟩) 2 ec) from c3)
 have C9_8 := Lib.hid (show w6.cell? ⟨g, o, none⟩ = some (.string ⟨#[97]⟩) from x0)
 have C9_9 := Lib.hid (show w6.cell? ⟨g, o + 2, none⟩ = some (.slice (some ⟨gv, ov, none⟩) 2 vc) from x2)
 have C9_10 := Lib.hid (show w6.cell? ⟨gv, ov, none⟩ = some (.string ⟨#[120]⟩) from xv)
 have C9_11 := Lib.hid (show w6.cell? ⟨ge, oe, none⟩ = some (.string ⟨#[97]⟩) from xe)
 have c9_0 := C9_0.out
 have c9_1 := C9_1.out
 have c9_2 := C9_2.out
 have c9_3 := C9_3.out
 have c9_4 := C9_4.out
 have c9_5 := C9_5.out
 have c9_6 := C9_6.out
 have c9_7 := C9_7.out
 have c9_8 := C9_8.out
 have c9_9 := C9_9.out
 have c9_10 := C9_10.out
 have c9_11 := C9_11.out
 (go_region_held3 (fun w' => w'.cell? ⟨wa.heap.size, 0, none⟩ = some (.int .i64 3) ∧ w'.cell? ⟨wa.heap.size, 1, none⟩ = some (.slice (some ⟨w.heap.size + 1 + 1, 0, none⟩) 2 2) ∧ w'.cell? ⟨wa.heap.size, 2, none⟩ = some (.slice (some ⟨w.heap.size + 1 + 1 + 1, 0, none⟩) 1 1) ∧ w'.cell? ⟨wa.heap.size, 3, none⟩ = some (.slice (some ⟨w.heap.size + 1 + 1 + 1 + 1, 0, none⟩) 2 2) ∧ w'.cell? ⟨wb.heap.size, 0, none⟩ = some (.int .i64 3) ∧ w'.cell? ⟨wb.heap.size, 1, none⟩ = some (.slice (some ⟨g, o, none⟩) 2 pc) ∧ w'.cell? ⟨wb.heap.size, 2, none⟩ = some (.slice la 1 lc) ∧ w'.cell? ⟨wb.heap.size, 3, none⟩ = some (.slice (some ⟨ge, oe, none⟩) 2 ec) ∧ w'.cell? ⟨g, o, none⟩ = some (.string ⟨#[97]⟩) ∧ w'.cell? ⟨g, o + 2, none⟩ = some (.slice (some ⟨gv, ov, none⟩) 2 vc) ∧ w'.cell? ⟨gv, ov, none⟩ = some (.string ⟨#[120]⟩) ∧ w'.cell? ⟨ge, oe, none⟩ = some (.string ⟨#[97]⟩)) (go_keep) (first
  | (
    go_at_call 15
    with_reducible refine (Is_c (HCW.out.nil (by repeat (first | exact kzr _ _ | assumption | refine kzd ?_ | refine kzn ?_ _ | refine kza ?_ _ | refine kzs ?_ (by assumption))))).mono ?_
    rintro e w7 ⟨rfl, hk7⟩
    have hz : Kept Nil w6 w7 := (by repeat (first | exact kzr _ _ | assumption | refine kzd ?_ | refine kzn ?_ _ | refine kza ?_ _ | refine kzs ?_ (by assumption)))
    have w7_0 := hz.cell C9_0.out (fun h => h)
    have w7_1 := hz.cell C9_1.out (fun h => h)
    have w7_2 := hz.cell C9_2.out (fun h => h)
    have w7_3 := hz.cell C9_3.out (fun h => h)
    have w7_4 := hz.cell C9_4.out (fun h => h)
    have w7_5 := hz.cell C9_5.out (fun h => h)
    have w7_6 := hz.cell C9_6.out (fun h => h)
    have w7_7 := hz.cell C9_7.out (fun h => h)
    have w7_8 := hz.cell C9_8.out (fun h => h)
    have w7_9 := hz.cell C9_9.out (fun h => h)
    have w7_10 := hz.cell C9_10.out (fun h => h)
    have w7_11 := hz.cell C9_11.out (fun h => h)
    clear hz)
  | (
    go_at_call 15
    with_reducible refine (Is_s w.heap.size _ (HSW.out.nil (by repeat (first | exact kzr _ _ | assumption | refine kzd ?_ | refine kzn ?_ _ | refine kza ?_ _ | refine kzs ?_ (by assumption))))).mono ?_
    rintro e w8 ⟨rfl, hk8⟩
    have hz : Kept Nil w6 w8 := (by repeat (first | exact kzr _ _ | assumption | refine kzd ?_ | refine kzn ?_ _ | refine kza ?_ _ | refine kzs ?_ (by assumption)))
    have w8_0 := hz.cell C9_0.out (fun h => h)
    have w8_1 := hz.cell C9_1.out (fun h => h)
    have w8_2 := hz.cell C9_2.out (fun h => h)
    have w8_3 := hz.cell C9_3.out (fun h => h)
    have w8_4 := hz.cell C9_4.out (fun h => h)
    have w8_5 := hz.cell C9_5.out (fun h => h)
    have w8_6 := hz.cell C9_6.out (fun h => h)
    have w8_7 := hz.cell C9_7.out (fun h => h)
    have w8_8 := hz.cell C9_8.out (fun h => h)
    have w8_9 := hz.cell C9_9.out (fun h => h)
    have w8_10 := hz.cell C9_10.out (fun h => h)
    have w8_11 := hz.cell C9_11.out (fun h => h)
    clear hz)
  | (
    go_at_call 28
    with_reducible refine (sample_is _).mono ?_
    rintro e w9 ⟨rfl, hs9, hk9⟩
    have HS9 := Lib.hid hs9
    clear hs9
    have hz : Kept Nil w6 w9 := (by repeat (first | exact kzr _ _ | assumption | refine kzd ?_ | refine kzn ?_ _ | refine kza ?_ _ | refine kzs ?_ (by assumption)))
    have w9_0 := hz.cell C9_0.out (fun h => h)
    have w9_1 := hz.cell C9_1.out (fun h => h)
    have w9_2 := hz.cell C9_2.out (fun h => h)
    have w9_3 := hz.cell C9_3.out (fun h => h)
    have w9_4 := hz.cell C9_4.out (fun h => h)
    have w9_5 := hz.cell C9_5.out (fun h => h)
    have w9_6 := hz.cell C9_6.out (fun h => h)
    have w9_7 := hz.cell C9_7.out (fun h => h)
    have w9_8 := hz.cell C9_8.out (fun h => h)
    have w9_9 := hz.cell C9_9.out (fun h => h)
    have w9_10 := hz.cell C9_10.out (fun h => h)
    have w9_11 := hz.cell C9_11.out (fun h => h)
    clear hz)
  | (
    go_at_call 16
    with_reducible refine (Same_s w.heap.size _ _ (HSW.out.nil (by repeat (first | exact kzr _ _ | assumption | refine kzd ?_ | refine kzn ?_ _ | refine kza ?_ _ | refine kzs ?_ (by assumption)))) HS9.out).mono ?_
    rintro e w10 ⟨rfl, hk10⟩
    have hz : Kept Nil w6 w10 := (by repeat (first | exact kzr _ _ | assumption | refine kzd ?_ | refine kzn ?_ _ | refine kza ?_ _ | refine kzs ?_ (by assumption)))
    have w10_0 := hz.cell C9_0.out (fun h => h)
    have w10_1 := hz.cell C9_1.out (fun h => h)
    have w10_2 := hz.cell C9_2.out (fun h => h)
    have w10_3 := hz.cell C9_3.out (fun h => h)
    have w10_4 := hz.cell C9_4.out (fun h => h)
    have w10_5 := hz.cell C9_5.out (fun h => h)
    have w10_6 := hz.cell C9_6.out (fun h => h)
    have w10_7 := hz.cell C9_7.out (fun h => h)
    have w10_8 := hz.cell C9_8.out (fun h => h)
    have w10_9 := hz.cell C9_9.out (fun h => h)
    have w10_10 := hz.cell C9_10.out (fun h => h)
    have w10_11 := hz.cell C9_11.out (fun h => h)
    clear hz)
  | (
    go_at_call 16
    with_reducible refine (Same_c (HCW.out.nil (by repeat (first | exact kzr _ _ | assumption | refine kzd ?_ | refine kzn ?_ _ | refine kza ?_ _ | refine kzs ?_ (by assumption)))) (HSW.out.nil (by repeat (first | exact kzr _ _ | assumption | refine kzd ?_ | refine kzn ?_ _ | refine kza ?_ _ | refine kzs ?_ (by assumption))))).mono ?_
    rintro e w11 ⟨rfl, hk11⟩
    have hz : Kept Nil w6 w11 := (by repeat (first | exact kzr _ _ | assumption | refine kzd ?_ | refine kzn ?_ _ | refine kza ?_ _ | refine kzs ?_ (by assumption)))
    have w11_0 := hz.cell C9_0.out (fun h => h)
    have w11_1 := hz.cell C9_1.out (fun h => h)
    have w11_2 := hz.cell C9_2.out (fun h => h)
    have w11_3 := hz.cell C9_3.out (fun h => h)
    have w11_4 := hz.cell C9_4.out (fun h => h)
    have w11_5 := hz.cell C9_5.out (fun h => h)
    have w11_6 := hz.cell C9_6.out (fun h => h)
    have w11_7 := hz.cell C9_7.out (fun h => h)
    have w11_8 := hz.cell C9_8.out (fun h => h)
    have w11_9 := hz.cell C9_9.out (fun h => h)
    have w11_10 := hz.cell C9_10.out (fun h => h)
    have w11_11 := hz.cell C9_11.out (fun h => h)
    clear hz)
  | (
    go_at_call 20
    with_reducible refine ((IsG.two (HG.out.nil (by repeat (first | exact kzr _ _ | assumption | refine kzd ?_ | refine kzn ?_ _ | refine kza ?_ _ | refine kzs ?_ (by assumption)))) HGE.out).1).mono ?_
    rintro e w12 ⟨rfl, h12⟩
    have hk12 : Kept Nil w11 w12 := by rw [h12]; exact Kept.refl _ _
    clear h12
    have hz : Kept Nil w6 w12 := (by repeat (first | exact kzr _ _ | assumption | refine kzd ?_ | refine kzn ?_ _ | refine kza ?_ _ | refine kzs ?_ (by assumption)))
    have w12_0 := hz.cell C9_0.out (fun h => h)
    have w12_1 := hz.cell C9_1.out (fun h => h)
    have w12_2 := hz.cell C9_2.out (fun h => h)
    have w12_3 := hz.cell C9_3.out (fun h => h)
    have w12_4 := hz.cell C9_4.out (fun h => h)
    have w12_5 := hz.cell C9_5.out (fun h => h)
    have w12_6 := hz.cell C9_6.out (fun h => h)
    have w12_7 := hz.cell C9_7.out (fun h => h)
    have w12_8 := hz.cell C9_8.out (fun h => h)
    have w12_9 := hz.cell C9_9.out (fun h => h)
    have w12_10 := hz.cell C9_10.out (fun h => h)
    have w12_11 := hz.cell C9_11.out (fun h => h)
    clear hz)
  | (
    go_at_call 23
    with_reducible refine ((IsG.two (HG.out.nil (by repeat (first | exact kzr _ _ | assumption | refine kzd ?_ | refine kzn ?_ _ | refine kza ?_ _ | refine kzs ?_ (by assumption)))) HGE.out).2).mono ?_
    rintro e w13 ⟨rfl, hk13⟩
    have hz : Kept Nil w6 w13 := (by repeat (first | exact kzr _ _ | assumption | refine kzd ?_ | refine kzn ?_ _ | refine kza ?_ _ | refine kzs ?_ (by assumption)))
    have w13_0 := hz.cell C9_0.out (fun h => h)
    have w13_1 := hz.cell C9_1.out (fun h => h)
    have w13_2 := hz.cell C9_2.out (fun h => h)
    have w13_3 := hz.cell C9_3.out (fun h => h)
    have w13_4 := hz.cell C9_4.out (fun h => h)
    have w13_5 := hz.cell C9_5.out (fun h => h)
    have w13_6 := hz.cell C9_6.out (fun h => h)
    have w13_7 := hz.cell C9_7.out (fun h => h)
    have w13_8 := hz.cell C9_8.out (fun h => h)
    have w13_9 := hz.cell C9_9.out (fun h => h)
    have w13_10 := hz.cell C9_10.out (fun h => h)
    have w13_11 := hz.cell C9_11.out (fun h => h)
    clear hz)
  ))
 all_goals (try go_wp2_with fail)
 all_goals (go_ret; exact ⟨rfl, HKA.out.step (HK1.out.step (HK12.out.step (by repeat (first | exact kzr _ _ | assumption | refine kzd ?_ | refine kzn ?_ _ | refine kza ?_ _ | refine kzs ?_ (by assumption)))))⟩)
end Go.Proofs.YtniocgnfgpaioaaGreat.Mo
