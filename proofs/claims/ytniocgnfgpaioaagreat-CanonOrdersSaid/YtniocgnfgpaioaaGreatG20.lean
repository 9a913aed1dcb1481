/- The walk of canon.Canon. -/
import Derived.Test.YtniocgnfgpaioaaGreatG15
import Derived.Test.YtniocgnfgpaioaaGreatG19
import Derived.Test.YtniocgnfgpaioaaGreatG12
import Derived.Maps.AppendAt
import Derived.Deep.Cut
set_option linter.unusedVariables false
set_option linter.unusedSimpArgs false
namespace Go.Proofs.YtniocgnfgpaioaaGreat.Mo
open Go Go.RowKit Go.Maps Go.Proofs.YtniocgnfgpaioaaGreat.Lb
set_option maxRecDepth 8000
/-- A process's rows, new from block b on. -/
structure RowsN (b : Nat) (w : World) (q : Pr) : Prop where
 v : NewRow b w q.va 40 2 vrCells q.vs
 s : NewRow b w q.sa 38 5 stCells q.ss
theorem RowsN.kept {b : Nat} {K : Nat → Prop} {w w' : World} {q : Pr} (h : RowsN b w q) (hk : Kept K w w') (ho : OutP K q) : RowsN b w' q :=
 ⟨fun hn => by obtain ⟨g, h1, h2, h3⟩ := h.v hn; exact ⟨g, h1, h2, h3.kept hk (ho.v g 0 hn h2)⟩, fun hn => by obtain ⟨g, h1, h2, h3⟩ := h.s hn; exact ⟨g, h1, h2, h3.kept hk (ho.s g 0 hn h2)⟩⟩
structure CanEnd (m : Md) (w : World) (e : Ending) (w' : World) : Prop where
 k : Kept Nil w w'
 ok : ∃ m' : Md, e = .returned (.agg #[.int .i64 m'.version, .slice m'.pa m'.ps.length m'.pc, .slice m'.la m'.ls.length m'.lc, .slice m'.ea m'.es.length m'.ec]) ∧ HeldM w' m' ∧ SameM (canM m) m' ∧ FreshM w.heap.size m' ∧ NewM w.heap.size w' m' ∧ ∀ q ∈ m'.ps, RowsN w.heap.size w' q
open HpPure
theorem sortV_is (l us : List V) (hu : sortedBy vlt l = us) (A : Option Addr) (cap : Nat) (w : World) (hr : RVars w A l) (hn : l.length ≤ 100000) :
  Calls Tryz.prog 32 #[.slice A l.length cap, .func (.func 33) #[] #[]] w fun e w' => ∃ v, e = .returned v ∧ w'.ownsRow w.heap.size 40 2 v us.length (us.flatMap vrCells) ∧ Kept Nil w w' := by
 have h := HpVr.byName_is (l.map itV) A cap w (row_itV hr) (by rw [List.length_map]; exact hn)
 rw [List.length_map, sort_itV, hu] at h
 have hl : l.length = us.length := by rw [← hu, sortedBy_length]
 refine h.mono ?_
 rintro e w2 ⟨v, rfl, ho, hk⟩
 rw [← hl]
 exact ⟨v, rfl, own_lower ho (fun k hk => by have h9 := (ho.lt k hk).1; omega), hk⟩
theorem sortP_is (l us : List Pr) (hu : sortedBy plt l = us) (A : Option Addr) (cap : Nat) (w : World) (hr : RProcs w A l) (hn : l.length ≤ 100000) :
  Calls Tryz.prog 30 #[.slice A l.length cap, .func (.func 31) #[] #[]] w fun e w' => ∃ v, e = .returned v ∧ w'.ownsRow w.heap.size 34 4 v us.length (us.flatMap prCells) ∧ Kept Nil w w' := by
 have h := HpPc.byName_is (l.map itP) A cap w (row_itP hr) (by rw [List.length_map]; exact hn)
 rw [List.length_map, sort_itP, hu] at h
 have hl : l.length = us.length := by rw [← hu, sortedBy_length]
 refine h.mono ?_
 rintro e w2 ⟨v, rfl, ho, hk⟩
 rw [← hl]
 exact ⟨v, rfl, own_lower ho (fun k hk => by have h9 := (ho.lt k hk).1; omega), hk⟩
theorem sortL_is (l us : List Lk) (hu : sortedBy llt l = us) (A : Option Addr) (cap : Nat) (w : World) (hr : RLinks w A l) (hn : l.length ≤ 100000) :
  Calls Tryz.prog 35 #[.slice A l.length cap, .func (.func 36) #[] #[]] w fun e w' => ∃ v, e = .returned v ∧ w'.ownsRow w.heap.size 42 5 v us.length (us.flatMap lkCells) ∧ Kept Nil w w' := by
 have h := HpLi.byName_is (l.map itL) A cap w (row_itL hr) (by rw [List.length_map]; exact hn)
 rw [List.length_map, sort_itL, hu] at h
 have hl : l.length = us.length := by rw [← hu, sortedBy_length]
 refine h.mono ?_
 rintro e w2 ⟨v, rfl, ho, hk⟩
 rw [← hl]
 exact ⟨v, rfl, own_lower ho (fun k hk => by have h9 := (ho.lt k hk).1; omega), hk⟩
theorem sortE_is (l us : List Ev) (hu : sortedBy elt l = us) (A : Option Addr) (cap : Nat) (w : World) (hr : REvents w A l) (hn : l.length ≤ 100000) :
  Calls Tryz.prog 37 #[.slice A l.length cap, .func (.func 38) #[] #[]] w fun e w' => ∃ v, e = .returned v ∧ w'.ownsRow w.heap.size 48 3 v us.length (us.flatMap evCells) ∧ Kept Nil w w' := by
 have h := HpEv.evSort_is (l.map itE) A cap w (row_itE hr) (by rw [List.length_map]; exact hn)
 rw [List.length_map, sort_itE, hu] at h
 have hl : l.length = us.length := by rw [← hu, sortedBy_length]
 rw [← hl]
 exact h
set_option maxHeartbeats 16000000 in
theorem Canon_is (ver : Int) (ps : List Pr) (ls : List Lk) (es : List Ev) (pa la ea : Option Addr) (pc lc ec : Nat) (w : World) (hm : HeldM w ⟨ver, pa, ps, pc, la, ls, lc, ea, es, ec⟩) :
  Calls Tryz.prog 12 #[.agg #[.int .i64 ver, .slice pa ps.length pc, .slice la ls.length lc, .slice ea es.length ec]] w fun e w' => CanEnd ⟨ver, pa, ps, pc, la, ls, lc, ea, es, ec⟩ w e w' := by
 have HM := Lib.hid hm
 have hpl : ps.length ≤ 100000 := hm.s.p
 have hll : ls.length ≤ 100000 := hm.s.l
 have hel : es.length ≤ 100000 := hm.s.e
 clear hm
 obtain ⟨xs, hxs⟩ : ∃ xs, sortedBy plt ps = xs := ⟨_, rfl⟩
 obtain ⟨ys, hys⟩ : ∃ ys, sortedBy llt ls = ys := ⟨_, rfl⟩
 obtain ⟨zs, hzs⟩ : ∃ zs, sortedBy elt es = zs := ⟨_, rfl⟩
 have hxl : xs.length = ps.length := by rw [← hxs, sortedBy_length]
 have hyl : ys.length ≤ 100000 := by rw [← hys, sortedBy_length]; exact hll
 have hzl : zs.length ≤ 100000 := by rw [← hzs, sortedBy_length]; exact hel
 have hxmem : ∀ q, q ∈ xs → q ∈ ps := fun q hq => by rw [← hxs] at hq; exact (sortedBy_perm plt ps).mem_iff.1 hq
 have hxn : xs.length ≤ 100000 := by omega
 have HXS := Lib.hid hxs
 have HYS := Lib.hid hys
 have HZS := Lib.hid hzs
 have HXM := Lib.hid hxmem
 clear hxs hys hzs hxmem hxl
 obtain ⟨j0, hjnf, hy0, hy1, hy2⟩ := info_parts infoCP
 obtain ⟨jv, hvnf, hv0, hv1, hv2⟩ := info_parts infoCV
 obtain ⟨js, hsnf, hs0, hs1, hs2⟩ := info_parts infoCS
 obtain ⟨jl, hlnf, hl0, hl1, hl2⟩ := info_parts infoCL
 obtain ⟨je, henf, he0, he1, he2⟩ := info_parts infoCE
 obtain ⟨W1, hW⟩ : ∃ W, (((w.alloc (.cells #[.int .i64 ver, .slice pa ps.length pc, .slice la ls.length lc, .slice ea es.length ec] 26)).alloc (.cells #[.int .i64 0, .slice none 0 0, .slice none 0 0, .slice none 0 0] 26)).alloc (.cells #[.int .i64 ver, .slice none 0 0, .slice none 0 0, .slice none 0 0] 26)) = W := ⟨_, rfl⟩
 have hk : Kept Nil w W1 := by rw [← hW]; exact ((((Kept.refl Nil w).alloc _).alloc _).alloc _)
 have hsz : W1.heap.size = w.heap.size + 3 := by rw [← hW]; simp
 have hb : W1.heap[w.heap.size]? = some (.cells #[.int .i64 ver, .slice pa ps.length pc, .slice la ls.length lc, .slice ea es.length ec] 26 (0, 0)) := by
  rw [← hW]
  rw [heap_old _ _ (by simp only [World.size_alloc]; omega)]
  rw [heap_old _ _ (by simp only [World.size_alloc]; omega)]
  have h9 := heap_new w (.cells #[.int .i64 ver, .slice pa ps.length pc, .slice la ls.length lc, .slice ea es.length ec] 26)
  exact h9
 have G0 := Lib.hid (show W1.cell? ⟨w.heap.size, 0, none⟩ = some (.int .i64 ver) by rw [cell_of hb]; rfl)
 have G1 := Lib.hid (show W1.cell? ⟨w.heap.size, 1, none⟩ = some (.slice pa ps.length pc) by rw [cell_of hb]; rfl)
 have G2 := Lib.hid (show W1.cell? ⟨w.heap.size, 2, none⟩ = some (.slice la ls.length lc) by rw [cell_of hb]; rfl)
 have G3 := Lib.hid (show W1.cell? ⟨w.heap.size, 3, none⟩ = some (.slice ea es.length ec) by rw [cell_of hb]; rfl)
 have GB := Lib.hid hb
 have hzg : w.heap.size < W1.heap.size := by omega
 clear hb
 have hb : W1.heap[w.heap.size + 1]? = some (.cells #[.int .i64 0, .slice none 0 0, .slice none 0 0, .slice none 0 0] 26 (0, 0)) := by
  rw [← hW]
  rw [heap_old _ _ (by simp only [World.size_alloc]; omega)]
  have h9 := heap_new (w.alloc (.cells #[.int .i64 ver, .slice pa ps.length pc, .slice la ls.length lc, .slice ea es.length ec] 26)) (.cells #[.int .i64 0, .slice none 0 0, .slice none 0 0, .slice none 0 0] 26)
  simp only [World.size_alloc] at h9
  exact h9
 have Q0 := Lib.hid (show W1.cell? ⟨w.heap.size + 1, 0, none⟩ = some (.int .i64 0) by rw [cell_of hb]; rfl)
 have Q1 := Lib.hid (show W1.cell? ⟨w.heap.size + 1, 1, none⟩ = some (.slice none 0 0) by rw [cell_of hb]; rfl)
 have Q2 := Lib.hid (show W1.cell? ⟨w.heap.size + 1, 2, none⟩ = some (.slice none 0 0) by rw [cell_of hb]; rfl)
 have Q3 := Lib.hid (show W1.cell? ⟨w.heap.size + 1, 3, none⟩ = some (.slice none 0 0) by rw [cell_of hb]; rfl)
 have QB := Lib.hid hb
 have hzq : w.heap.size + 1 < W1.heap.size := by omega
 clear hb
 have hb : W1.heap[w.heap.size + 1 + 1]? = some (.cells #[.int .i64 ver, .slice none 0 0, .slice none 0 0, .slice none 0 0] 26 (0, 0)) := by
  rw [← hW]
  have h9 := heap_new ((w.alloc (.cells #[.int .i64 ver, .slice pa ps.length pc, .slice la ls.length lc, .slice ea es.length ec] 26)).alloc (.cells #[.int .i64 0, .slice none 0 0, .slice none 0 0, .slice none 0 0] 26)) (.cells #[.int .i64 ver, .slice none 0 0, .slice none 0 0, .slice none 0 0] 26)
  simp only [World.size_alloc] at h9
  exact h9
 have O0 := Lib.hid (show W1.cell? ⟨w.heap.size + 1 + 1, 0, none⟩ = some (.int .i64 ver) by rw [cell_of hb]; rfl)
 have O1 := Lib.hid (show W1.cell? ⟨w.heap.size + 1 + 1, 1, none⟩ = some (.slice none 0 0) by rw [cell_of hb]; rfl)
 have O2 := Lib.hid (show W1.cell? ⟨w.heap.size + 1 + 1, 2, none⟩ = some (.slice none 0 0) by rw [cell_of hb]; rfl)
 have O3 := Lib.hid (show W1.cell? ⟨w.heap.size + 1 + 1, 3, none⟩ = some (.slice none 0 0) by rw [cell_of hb]; rfl)
 have OB := Lib.hid hb
 have hzo : w.heap.size + 1 + 1 < W1.heap.size := by omega
 clear hb
 have HW := Lib.hid hW
 have HK := Lib.hid hk
 have HSZ := Lib.hid hsz
 clear hW hk hsz
 go_enter Tryz.func12, Tryz.ntmps12
 go_upto_region 2 with fail
 rw [HW.out]
 have hsz1 : w.heap.size + 1 + 1 < W1.heap.size := by have := HSZ.out; omega
 have g1 := G1.out
 have hr1 : RProcs W1 pa ps := (HM.out.nil HK.out).r.p
 have HR1 := Lib.hid hr1
 clear hr1
 go_upto_region 3 with (go_at_call 30; with_reducible refine (sortP_is ps xs HXS.out pa pc _ HR1.out hpl).mono ?_; rintro e W2 ⟨v2, rfl, ho2, hk2⟩; obtain ⟨A2, c2, rfl⟩ := own_slice ho2; have HO2 := Lib.hid ho2; have HK2 := Lib.hid hk2; have hz2 := hk2.size; clear ho2 hk2 g1)
 have hxr2 := (newRow_of_own HO2.out prCells_len (by decide))
 have HXR := Lib.hid hxr2
 clear hxr2
 have HGB := Lib.hid (HK2.out.heap GB.out (fun h => h))
 have HQB := Lib.hid (HK2.out.heap QB.out (fun h => h))
 have HOB0 := Lib.hid (HK2.out.heap OB.out (fun h => h))
 have HKW2 := Lib.hid (HK.out.step HK2.out)
 go_loopw [13] (fun i wr => ∃ (k : Nat) (A : Option Addr) (c : Nat) (qs : List Pr), k ≤ xs.length ∧ i = .int .i64 k ∧ qs.length = k ∧ wr.heap[w.heap.size + 1 + 1]? = some (.cells #[.int .i64 ver, .slice A k c, .slice none 0 0, .slice none 0 0] 26 (0, 0)) ∧ wr.ownsRow W2.heap.size 34 4 (.slice A k c) k (qs.flatMap prCells) ∧ CopyAt W2.heap.size (fun i => i = w.heap.size + 1 + 1 ∨ (Value.slice A k c).ownBlock = some i) wr k (xs.map canP) qs ∧ (∀ q ∈ qs, RowsN W2.heap.size wr q) ∧ Kept (fun i => i = w.heap.size + 1 + 1) W2 wr) (fun i _ => xs.length - (intOf i).toNat)
 case atStart => exact ⟨0, none, 0, [], Nat.zero_le _, rfl, rfl, HOB0.out, World.ownsRow_nil _ _ _ _, CopyAt.start, (fun q hq => by simp at hq), Kept.refl _ _⟩
 case round =>
  obtain ⟨k, A, c, qs, hk, rfl, hql, hob, hown, hcp, hrn, hK⟩ := hrel
  have HRN := Lib.hid hrn
  clear hrn
  have HQL := Lib.hid hql
  have HOB := Lib.hid hob
  have HOW := Lib.hid hown
  have HCP := Lib.hid hcp
  have HKR := Lib.hid hK
  have hzr := hK.size
  have hx1 : w.heap.size < wr.heap.size := by omega
  have hx2 : w.heap.size + 1 < wr.heap.size := by omega
  have hx3 : w.heap.size + 1 + 1 < wr.heap.size := by omega
  have g0 : wr.cell? ⟨w.heap.size, 0, none⟩ = some (.int .i64 ver) := by rw [cell_of (hK.heap HGB.out (by omega))]; rfl
  have g1 : wr.cell? ⟨w.heap.size, 1, none⟩ = some (.slice pa ps.length pc) := by rw [cell_of (hK.heap HGB.out (by omega))]; rfl
  have g2 : wr.cell? ⟨w.heap.size, 2, none⟩ = some (.slice la ls.length lc) := by rw [cell_of (hK.heap HGB.out (by omega))]; rfl
  have g3 : wr.cell? ⟨w.heap.size, 3, none⟩ = some (.slice ea es.length ec) := by rw [cell_of (hK.heap HGB.out (by omega))]; rfl
  have o1 : wr.cell? ⟨w.heap.size + 1 + 1, 1, none⟩ = some (.slice A k c) := by rw [cell_of hob]; rfl
  have of1 : wr.frozen? ⟨w.heap.size + 1 + 1, 1, none⟩ = false := frozen_of hob 1
  have hkw : Kept Nil w wr := HKW2.out.trans hK (fun i h => .inr (by omega))
  have HKW := Lib.hid hkw
  clear hql hob hown hcp hK hkw
  by_cases hlt : k < xs.length
  ·obtain ⟨p, ep⟩ : ∃ v, xs[k]? = some v := ⟨_, List.getElem?_eq_getElem hlt⟩
   have hh := HM.out.nil HKW.out
   have hxw : RProcs wr A2 xs := RProcs.ofRow (HXR.out.kept HKR.out (fun i hi h => by omega)).row
   obtain ⟨b, off, e1, c0, c1, c2, c3⟩ := hxw.at ep
   have hpm := HXM.out p (List.mem_of_getElem? ep)
   have hpp := hh.r.pp p hpm
   have hop := hh.o.p p hpm
   have hsv := hh.s.v p hpm
   subst e1
   have hbs : b < wr.heap.size := World.block_lt_of_cell? _ _ c0
   obtain ⟨pn, pw, va, vs, vc, sa, ss, sc⟩ := p
   have HPP := Lib.hid hpp
   have HOP := Lib.hid hop
   have hv1l : vs.length ≤ 100000 := hsv.1
   have hs1l : ss.length ≤ 100000 := hsv.2
   have HEP := Lib.hid ep
   obtain ⟨us, hus⟩ : ∃ us, sortedBy vlt vs = us := ⟨_, rfl⟩
   have hul : us.length ≤ 100000 := by rw [← hus, sortedBy_length]; exact hv1l
   have HUS := Lib.hid hus
   clear hh hpp hop hsv ep hxw hpm hus
   have hlt2 : (k : Int) < (xs.length : Int) := by omega
   have hw : IntKind.i64.wrap ((k : Int) + 1) = (k : Int) + 1 := by rw [IntKind.wrap_i64]; omega
   go_upto_region 5 with fail
   clear g0 g1 g2 g3 c0 c1 c2 c3
   obtain ⟨WP, hW⟩ : ∃ W, (wr.alloc (.cells #[.string pn, .int .i64 pw, .slice va vs.length vc, .slice sa ss.length sc] 34)) = W := ⟨_, rfl⟩
   have hk : Kept Nil wr WP := by rw [← hW]; exact ((Kept.refl Nil wr).alloc _)
   have hsz : WP.heap.size = wr.heap.size + 1 := by rw [← hW]; simp
   have hb : WP.heap[wr.heap.size]? = some (.cells #[.string pn, .int .i64 pw, .slice va vs.length vc, .slice sa ss.length sc] 34 (0, 0)) := by
    rw [← hW]
    have h9 := heap_new wr (.cells #[.string pn, .int .i64 pw, .slice va vs.length vc, .slice sa ss.length sc] 34)
    exact h9
   have B0 := Lib.hid (show WP.cell? ⟨wr.heap.size, 0, none⟩ = some (.string pn) by rw [cell_of hb]; rfl)
   have B1 := Lib.hid (show WP.cell? ⟨wr.heap.size, 1, none⟩ = some (.int .i64 pw) by rw [cell_of hb]; rfl)
   have B2 := Lib.hid (show WP.cell? ⟨wr.heap.size, 2, none⟩ = some (.slice va vs.length vc) by rw [cell_of hb]; rfl)
   have B3 := Lib.hid (show WP.cell? ⟨wr.heap.size, 3, none⟩ = some (.slice sa ss.length sc) by rw [cell_of hb]; rfl)
   have BB := Lib.hid hb
   have hzb : wr.heap.size < WP.heap.size := by omega
   clear hb
   have HWP := Lib.hid hW
   have HKP := Lib.hid hk
   have HSZP := Lib.hid hsz
   clear hW hk hsz
   rw [HWP.out]
   have b2 := B2.out
   have hzp : wr.heap.size < WP.heap.size := by have := HSZP.out; omega
   have HVP := Lib.hid (HPP.out.v.kept HKP.out (fun _ _ _ _ h => h))
   go_upto_region 6 with (go_at_call 32; with_reducible refine (sortV_is vs us HUS.out va vc _ HVP.out hv1l).mono ?_; rintro e w5 ⟨v5, rfl, hown5, hk5⟩; obtain ⟨A5, c5, rfl⟩ := own_slice hown5; have HO5 := Lib.hid hown5; have HK5 := Lib.hid hk5; have hz5 := hk5.size; have HB5 := Lib.hid (hk5.heap BB.out (fun h => h)); clear hown5 hk5 b2; have b2 : w5.cell? ⟨wr.heap.size, 2, none⟩ = some (.slice va vs.length vc) := ((cell_of HB5.out 2).trans rfl); have bf2 : w5.frozen? ⟨wr.heap.size, 2, none⟩ = false := frozen_of HB5.out 2; have hz5b : wr.heap.size < w5.heap.size := (by omega))
   obtain ⟨W6, hW6⟩ : ∃ W6, w5.setCell ⟨wr.heap.size, 2, none⟩ (.slice A5 us.length c5) = W6 := ⟨_, rfl⟩
   rw [hW6]
   have hk6 : Kept (fun i => i = wr.heap.size) w5 W6 := by rw [← hW6]; exact (Kept.refl (fun i => i = wr.heap.size) w5).setCell (.inl rfl) _
   have HB6 := Lib.hid (show W6.heap[wr.heap.size]? = some (.cells #[.string pn, .int .i64 pw, .slice A5 us.length c5, .slice sa ss.length sc] 34 (0, 0)) by rw [← hW6, heap_set HB5.out 2 _]; rfl)
   have HK6 := Lib.hid hk6
   have hz6 := hk6.size
   clear hW6 hk6 b2 bf2
   have b3 : W6.cell? ⟨wr.heap.size, 3, none⟩ = some (.slice sa ss.length sc) := by rw [cell_of HB6.out]; rfl
   have hz6b : wr.heap.size < W6.heap.size := by omega
   have HKR6 := Lib.hid (show Kept Nil wr W6 from (HKP.out.step HK5.out).trans HK6.out (fun i h => .inr (by omega)))
   have HRS := Lib.hid (rowOf_nil stCells_len HKR6.out (RSteps.rowOf HPP.out.s))
   have HSN := Lib.hid HOP.out.sn
   go_upto_region 7 with (go_at_call 34; with_reducible refine (CloneS_is ss sa sc _ HRS.out HSN.out hs1l).mono ?_; rintro e w7 ⟨v7, rfl, hown7, hk7⟩; obtain ⟨A7, c7, rfl⟩ := own_slice hown7; have HO7 := Lib.hid hown7; have HK7 := Lib.hid hk7; have hz7 := hk7.size; have HB7 := Lib.hid (hk7.heap HB6.out (fun h => h)); clear hown7 hk7 b3; have b3 : w7.cell? ⟨wr.heap.size, 3, none⟩ = some (.slice sa ss.length sc) := ((cell_of HB7.out 3).trans rfl); have bf3 : w7.frozen? ⟨wr.heap.size, 3, none⟩ = false := frozen_of HB7.out 3; have hz7b : wr.heap.size < w7.heap.size := (by omega))
   obtain ⟨W8, hW8⟩ : ∃ W8, w7.setCell ⟨wr.heap.size, 3, none⟩ (.slice A7 ss.length c7) = W8 := ⟨_, rfl⟩
   rw [hW8]
   have hk8 : Kept (fun i => i = wr.heap.size) w7 W8 := by rw [← hW8]; exact (Kept.refl (fun i => i = wr.heap.size) w7).setCell (.inl rfl) _
   have HB8 := Lib.hid (show W8.heap[wr.heap.size]? = some (.cells #[.string pn, .int .i64 pw, .slice A5 us.length c5, .slice A7 ss.length c7] 34 (0, 0)) by rw [← hW8, heap_set HB7.out 3 _]; rfl)
   have HK8 := Lib.hid hk8
   have hz8 := hk8.size
   clear hW8 hk8 b3 bf3
   have HKR8 := Lib.hid (show Kept Nil wr W8 from (HKR6.out.step HK7.out).trans HK8.out (fun i h => .inr (by omega)))
   have hz8b : wr.heap.size < W8.heap.size := by omega
   have hz8c : w.heap.size + 1 + 1 < W8.heap.size := by omega
   have b0 : W8.cell? ⟨wr.heap.size, 0, none⟩ = some (.string pn) := by rw [cell_of HB8.out]; rfl
   have b1 : W8.cell? ⟨wr.heap.size, 1, none⟩ = some (.int .i64 pw) := by rw [cell_of HB8.out]; rfl
   have b2 : W8.cell? ⟨wr.heap.size, 2, none⟩ = some (.slice A5 us.length c5) := by rw [cell_of HB8.out]; rfl
   have b3 : W8.cell? ⟨wr.heap.size, 3, none⟩ = some (.slice A7 ss.length c7) := by rw [cell_of HB8.out]; rfl
   replace o1 := HKR8.out.cell o1 (fun h => h)
   clear of1
   have hown8 := HKR8.out.own HOW.out (fun _ _ h => h)
   have HOW8 := Lib.hid hown8
   clear hown8
   go_wp2_with (at_builtin; refine stop_append _ _ _ rfl ?_)
   unfold StopA
   refine wpList_append_own_at _ rfl _ _ 22 rfl W2.heap.size 34 j0 (.agg #[.string ⟨#[]⟩, .int .i64 0, .slice none 0 0, .slice none 0 0]) 4 72 Tryz.underlying22 hjnf hy0 hy1 hy2 rfl (by decide) (.slice A k c) k (qs.flatMap prCells) rfl (HOW8.out.alloc _) ⟨W8.heap.size, 0, none⟩ 1 1 [.string pn, .int .i64 pw, .slice A5 us.length c5, .slice A7 ss.length c7] rfl rfl (cells_new _ _ _) (by simp [Value.oneCell']) (by unfold maxLen; omega) (by omega) (by simp; omega) ?_
   intro r9 w9 hown9 hgrow9 _ hat9
   obtain ⟨g9, c9, rfl⟩ := ownsRow_succ hown9
   have HOW9 := Lib.hid (show w9.ownsRow W2.heap.size 34 4 (.slice (some ⟨g9, 0, none⟩) (k + 1) c9) (k + 1) ((qs ++ [(⟨pn, pw, A5, us, c5, A7, ss, c7⟩ : Pr)]).flatMap prCells) by rw [List.flatMap_append]; simpa [prCells] using hown9)
   have hk9 : Kept (fun i => (Value.slice A k c).ownBlock = some i) W8 w9 := ((Kept.refl (fun i => (Value.slice A k c).ownBlock = some i) W8).alloc _).grown hgrow9 (fun j e => .inl e)
   have HK9 := Lib.hid hk9
   have hz9 := hk9.size
   have HAT := Lib.hid hat9
   have hno : (Value.slice A k c).ownBlock ≠ some (w.heap.size + 1 + 1) := fun e => by have h9 := (HOW.out.lt _ e).1; omega
   have HNO := Lib.hid hno
   have hob9 := hk9.heap (HKR8.out.heap HOB.out (fun h => h)) hno
   have HOB9 := Lib.hid hob9
   clear hown9 hgrow9 hk9 hat9 hno hob9 o1 b0 b1 b2 b3
   have o1 : w9.cell? ⟨w.heap.size + 1 + 1, 1, none⟩ = some (.slice A k c) := by rw [cell_of HOB9.out]; rfl
   have of1 : w9.frozen? ⟨w.heap.size + 1 + 1, 1, none⟩ = false := frozen_of HOB9.out 1
   have hz9c : w.heap.size + 1 + 1 < w9.heap.size := by omega
   go_wp2_with fail
   obtain ⟨W10, hW10⟩ : ∃ W10, w9.setCell ⟨w.heap.size + 1 + 1, 1, none⟩ (.slice (some ⟨g9, 0, none⟩) (k + 1) c9) = W10 := ⟨_, rfl⟩
   simp only [hW10]
   have hk10 : Kept (fun i => i = w.heap.size + 1 + 1) w9 W10 := by rw [← hW10]; exact (Kept.refl (fun i => i = w.heap.size + 1 + 1) w9).setCell (.inl rfl) _
   have hob10 : W10.heap[w.heap.size + 1 + 1]? = some (.cells #[.int .i64 ver, .slice (some ⟨g9, 0, none⟩) (k + 1) c9, .slice none 0 0, .slice none 0 0] 26 (0, 0)) := by rw [← hW10, heap_set HOB9.out 1 _]; rfl
   have hk89 : Kept (fun i => i = w.heap.size + 1 + 1 ∨ (Value.slice A k c).ownBlock = some i) W8 W10 := (HK9.out.mono (fun i _ h => .inr h)).trans hk10 (fun i h => .inl (.inl h))
   have hkr10 : Kept (fun i => i = w.heap.size + 1 + 1 ∨ (Value.slice A k c).ownBlock = some i) wr W10 := (HKR8.out.any).trans hk89 (fun i h => .inl h)
   have hlow : ∀ i, (Value.slice A k c).ownBlock = some i → W2.heap.size ≤ i ∧ i < wr.heap.size := fun i h => HOW.out.lt i h
   have hat : (Value.slice (some ⟨g9, 0, none⟩) (k + 1) c9).ownBlock = (Value.slice A k c).ownBlock ∨ W8.heap.size ≤ g9 := by rcases HAT.out with h | h; exact .inl h; (right; simp [Value.ownBlock] at h; omega)
   have hK8 : Kept (fun i => i = wr.heap.size ∨ i = w.heap.size + 1 + 1 ∨ (Value.slice A k c).ownBlock = some i) w7 W10 := (HK8.out.mono (fun i _ h => .inl h)).trans hk89 (fun i h => .inl (.inr h))
   have hK5 : Kept (fun i => i = wr.heap.size ∨ i = w.heap.size + 1 + 1 ∨ (Value.slice A k c).ownBlock = some i) w5 W10 := ((HK6.out.mono (fun i _ h => .inl h)).step HK7.out).trans hK8 (fun i h => .inl h)
   have hN5 := (newRow_of_own HO5.out vrCells_len (by decide)).kept hK5 (fun i hi h => by rcases h with h | h | h; omega; omega; (have h8 := hlow i h; omega))
   have hN7 := (newRow_of_own HO7.out stCells_len (by decide)).kept hK8 (fun i hi h => by rcases h with h | h | h; omega; omega; (have h8 := hlow i h; omega))
   have hnew : ∀ i, (i = w.heap.size + 1 + 1 ∨ (Value.slice (some ⟨g9, 0, none⟩) (k + 1) c9).ownBlock = some i) → (i = w.heap.size + 1 + 1 ∨ (Value.slice A k c).ownBlock = some i) ∨ W8.heap.size ≤ i := by
    rintro i (h | h)
    ·exact .inl (.inl h)
    ·rcases hat with h8 | h8
     ·rw [h8] at h; exact .inl (.inr h)
     ·simp [Value.ownBlock] at h; omega
   have hx57 : ∀ i, WP.heap.size ≤ i → i < W8.heap.size → ¬ (i = w.heap.size + 1 + 1 ∨ (Value.slice (some ⟨g9, 0, none⟩) (k + 1) c9).ownBlock = some i) := fun i h1 h2 h => by
    rcases hnew i h with (h8 | h8) | h8
    ·omega
    ·have h7 := hlow i h8; omega
    ·omega
   have hl5 := @rowOf_low _ _ _ _ _ _ vrCells_len (by decide) (newRow_of_own HO5.out vrCells_len (by decide)).row
   have hl7 := @rowOf_low _ _ _ _ _ _ stCells_len (by decide) (newRow_of_own HO7.out stCells_len (by decide)).row
   have hkk := HKR.out.trans hkr10 (fun i h => by rcases h with h | h; exact .inl h; exact .inr (hlow i h).1)
   have hcp := HCP.out.next hkr10 (fun i h => (hnew i h).imp_right (fun h => by omega)) (show (xs.map canP)[k]? = some (canP ⟨pn, pw, va, vs, vc, sa, ss, sc⟩) by rw [List.getElem?_map, HEP.out]; rfl) (p' := ⟨pn, pw, A5, us, c5, A7, ss, c7⟩) ⟨rfl, rfl, HUS.out, rfl⟩ ⟨RVars.ofRow hN5.row, RSteps.ofRow hN7.row, by simp only; unfold maxLen; omega, HPP.out.sl, HPP.out.si⟩ ⟨HOP.out.n, HOP.out.w, fun v hv => HOP.out.v v ((sortedBy_perm vlt vs).mem_iff.1 (by rw [HUS.out]; exact hv)), HOP.out.s, le_of_own HO5.out, cap_of_own HO5.out, le_of_own HO7.out, cap_of_own HO7.out⟩ ?_ ?_
   rotate_left
   ·exact ⟨fun g off hn e => by (obtain ⟨g8, h1, h2, _⟩ := hN5 hn; simp only at e; rw [e] at h2; cases h2; omega), fun g off hn e => by (obtain ⟨g8, h1, h2, _⟩ := hN7 hn; simp only at e; rw [e] at h2; cases h2; omega)⟩
   ·exact ⟨fun g off hn e => by (have h3 := hl5 hn e; obtain ⟨g8, h1, h2, _⟩ := hN5 hn; simp only at e; rw [e] at h2; cases h2; exact hx57 _ (by omega) (by omega)), fun g off hn e => by (have h3 := hl7 hn e; obtain ⟨g8, h1, h2, _⟩ := hN7 hn; simp only at e; rw [e] at h2; cases h2; exact hx57 _ (by omega) (by omega))⟩
   have hrn10 : ∀ q ∈ qs ++ [(⟨pn, pw, A5, us, c5, A7, ss, c7⟩ : Pr)], RowsN W2.heap.size W10 q := fun q hq => by
    rcases List.mem_append.1 hq with h | h
    ·exact (HRN.out q h).kept hkr10 (HCP.out.r q h).2.2.2
    ·simp only [List.mem_cons, List.not_mem_nil, or_false] at h
     subst h
     exact ⟨hN5.lower (by omega), hN7.lower (by omega)⟩
   have hown10 := hk10.own HOW9.out (fun i h => by have h9 := (HOW9.out.lt i h).1; omega)
   go_round
   refine ⟨k + 1, some ⟨g9, 0, none⟩, c9, qs ++ [⟨pn, pw, A5, us, c5, A7, ss, c7⟩], by omega, rfl, by simp [HQL.out], hob10, hown10, hcp, hrn10, hkk⟩
   case measure => (simp [intOf] <;> omega)
  ·have hkl : k = xs.length := by omega
   subst hkl
   have HMR := Lib.hid (HM.out.nil HKW.out)
   have HQ5 := Lib.hid (HKR.out.heap HQB.out (by omega))
   have HGR := Lib.hid (HKR.out.heap HGB.out (by omega))
   clear o1 of1
   go_wp2_with fail
   with_reducible refine (sortL_is ls ys HYS.out la lc _ HMR.out.r.l hll).mono ?_
   rintro e w5 ⟨v5, rfl, hown5, hk5⟩
   obtain ⟨A5, c5, rfl⟩ := own_slice hown5
   have HO5 := Lib.hid hown5
   have HK5 := Lib.hid hk5
   have hz5 := hk5.size
   have HOB5 := Lib.hid (hk5.heap HOB.out (fun h => h))
   clear hown5 hk5 g0 g1 g2 g3
   have o2 : w5.cell? ⟨w.heap.size + 1 + 1, 2, none⟩ = some (.slice none 0 0) := (by rw [cell_of HOB5.out]; rfl)
   have of2 : w5.frozen? ⟨w.heap.size + 1 + 1, 2, none⟩ = false := frozen_of HOB5.out 2
   have hz5c : w.heap.size + 1 + 1 < w5.heap.size := (by omega)
   go_upto_region 10 with fail
   obtain ⟨W6, hW6⟩ : ∃ W6, w5.setCell ⟨w.heap.size + 1 + 1, 2, none⟩ (.slice A5 ys.length c5) = W6 := ⟨_, rfl⟩
   rw [hW6]
   have hk6 : Kept (fun i => i = w.heap.size + 1 + 1) w5 W6 := by rw [← hW6]; exact (Kept.refl (fun i => i = w.heap.size + 1 + 1) w5).setCell (.inl rfl) _
   have HOB6 := Lib.hid (show W6.heap[w.heap.size + 1 + 1]? = some (.cells #[.int .i64 ver, .slice A xs.length c, .slice A5 ys.length c5, .slice none 0 0] 26 (0, 0)) by rw [← hW6, heap_set HOB5.out 2 _]; rfl)
   have HK6 := Lib.hid hk6
   have hz6 := hk6.size
   clear hW6 hk6 o2 of2
   have HKW6 := Lib.hid (show Kept Nil w W6 from (HKW.out.step HK5.out).trans HK6.out (fun i h => .inr (by omega)))
   have HMR6 := Lib.hid (HM.out.nil HKW6.out)
   have HG6 := Lib.hid (HK6.out.heap (HK5.out.heap HGR.out (fun h => h)) (by omega))
   have g3 : W6.cell? ⟨w.heap.size, 3, none⟩ = some (.slice ea es.length ec) := by rw [cell_of HG6.out]; rfl
   have hz6c : w.heap.size + 1 + 1 < W6.heap.size := by omega
   have hz6g : w.heap.size < W6.heap.size := by omega
   go_upto_region 11 with (go_at_call 37; with_reducible refine (sortE_is es zs HZS.out ea ec _ HMR6.out.r.e hel).mono ?_; rintro e w7 ⟨v7, rfl, hown7, hk7⟩; obtain ⟨A7, c7, rfl⟩ := own_slice hown7; have HO7 := Lib.hid hown7; have HK7 := Lib.hid hk7; have hz7 := hk7.size; have HOB7 := Lib.hid (hk7.heap HOB6.out (fun h => h)); clear hown7 hk7 g3; have o3 : w7.cell? ⟨w.heap.size + 1 + 1, 3, none⟩ = some (.slice none 0 0) := ((cell_of HOB7.out 3).trans rfl); have of3 : w7.frozen? ⟨w.heap.size + 1 + 1, 3, none⟩ = false := frozen_of HOB7.out 3; have hz7c : w.heap.size + 1 + 1 < w7.heap.size := (by omega))
   obtain ⟨W8, hW8⟩ : ∃ W8, w7.setCell ⟨w.heap.size + 1 + 1, 3, none⟩ (.slice A7 zs.length c7) = W8 := ⟨_, rfl⟩
   rw [hW8]
   have hk8 : Kept (fun i => i = w.heap.size + 1 + 1) w7 W8 := by rw [← hW8]; exact (Kept.refl (fun i => i = w.heap.size + 1 + 1) w7).setCell (.inl rfl) _
   have HOB8 := Lib.hid (show W8.heap[w.heap.size + 1 + 1]? = some (.cells #[.int .i64 ver, .slice A xs.length c, .slice A5 ys.length c5, .slice A7 zs.length c7] 26 (0, 0)) by rw [← hW8, heap_set HOB7.out 3 _]; rfl)
   have HK8 := Lib.hid hk8
   have hz8 := hk8.size
   clear hW8 hk8 o3 of3
   have HQ8 := Lib.hid (HK8.out.heap (HK7.out.heap (HK6.out.heap (HK5.out.heap HQ5.out (fun h => h)) (by omega)) (fun h => h)) (by omega))
   have hz8c : w.heap.size + 1 + 1 < W8.heap.size := by omega
   have hz8d : w.heap.size + 1 < W8.heap.size := by omega
   have o0 : W8.cell? ⟨w.heap.size + 1 + 1, 0, none⟩ = some (.int .i64 ver) := by rw [cell_of HOB8.out]; rfl
   have o1 : W8.cell? ⟨w.heap.size + 1 + 1, 1, none⟩ = some (.slice A xs.length c) := by rw [cell_of HOB8.out]; rfl
   have o2 : W8.cell? ⟨w.heap.size + 1 + 1, 2, none⟩ = some (.slice A5 ys.length c5) := by rw [cell_of HOB8.out]; rfl
   have o3 : W8.cell? ⟨w.heap.size + 1 + 1, 3, none⟩ = some (.slice A7 zs.length c7) := by rw [cell_of HOB8.out]; rfl
   have q0 : W8.cell? ⟨w.heap.size + 1, 0, none⟩ = some (.int .i64 0) := by rw [cell_of HQ8.out]; rfl
   have q1 : W8.cell? ⟨w.heap.size + 1, 1, none⟩ = some (.slice none 0 0) := by rw [cell_of HQ8.out]; rfl
   have q2 : W8.cell? ⟨w.heap.size + 1, 2, none⟩ = some (.slice none 0 0) := by rw [cell_of HQ8.out]; rfl
   have q3 : W8.cell? ⟨w.heap.size + 1, 3, none⟩ = some (.slice none 0 0) := by rw [cell_of HQ8.out]; rfl
   have qf0 : W8.frozen? ⟨w.heap.size + 1, 0, none⟩ = false := frozen_of HQ8.out 0
   have qf1 : W8.frozen? ⟨w.heap.size + 1, 1, none⟩ = false := frozen_of HQ8.out 1
   have qf2 : W8.frozen? ⟨w.heap.size + 1, 2, none⟩ = false := frozen_of HQ8.out 2
   have qf3 : W8.frozen? ⟨w.heap.size + 1, 3, none⟩ = false := frozen_of HQ8.out 3
   go_wp2_with fail
   obtain ⟨wq, hwq⟩ : ∃ wq, ((((W8.setCell ⟨w.heap.size + 1, 0, none⟩ (.int .i64 ver)).setCell ⟨w.heap.size + 1, 1, none⟩ (.slice A xs.length c)).setCell ⟨w.heap.size + 1, 2, none⟩ (.slice A5 ys.length c5)).setCell ⟨w.heap.size + 1, 3, none⟩ (.slice A7 zs.length c7)) = wq := ⟨_, rfl⟩
   simp only [hwq]
   have hqq : wq.heap[w.heap.size + 1]? = some (.cells #[.int .i64 ver, .slice A xs.length c, .slice A5 ys.length c5, .slice A7 zs.length c7] 26 (0, 0)) := by rw [← hwq, heap_set (heap_set (heap_set (heap_set HQ8.out 0 _) 1 _) 2 _) 3 _]; rfl
   have hkq : Kept (fun b => b = w.heap.size + 1) W8 wq := by rw [← hwq]; exact ((((Kept.refl (fun b => b = w.heap.size + 1) W8).setCell (.inl rfl) _).setCell (.inl rfl) _).setCell (.inl rfl) _).setCell (.inl rfl) _
   have s0 : wq.cell? ⟨w.heap.size + 1, 0, none⟩ = some (.int .i64 ver) := by rw [cell_of hqq]; rfl
   have s1 : wq.cell? ⟨w.heap.size + 1, 1, none⟩ = some (.slice A xs.length c) := by rw [cell_of hqq]; rfl
   have s2 : wq.cell? ⟨w.heap.size + 1, 2, none⟩ = some (.slice A5 ys.length c5) := by rw [cell_of hqq]; rfl
   have s3 : wq.cell? ⟨w.heap.size + 1, 3, none⟩ = some (.slice A7 zs.length c7) := by rw [cell_of hqq]; rfl
   refine bodyPost_ret (v := .agg #[.int .i64 ver, .slice A xs.length c, .slice A5 ys.length c5, .slice A7 zs.length c7]) (by simp [results, Tryz.results12, go_sem, s0, s1, s2, s3]) rfl ?_
   have hk7q : Kept (fun b => b = w.heap.size + 1 ∨ b = w.heap.size + 1 + 1) w7 wq := (HK8.out.mono (S' := fun b => b = w.heap.size + 1 ∨ b = w.heap.size + 1 + 1) (fun i _ h => .inr h)).trans hkq (fun i h => .inl (.inl h))
   have hk5q : Kept (fun b => b = w.heap.size + 1 ∨ b = w.heap.size + 1 + 1) w5 wq := ((HK6.out.mono (S' := fun b => b = w.heap.size + 1 ∨ b = w.heap.size + 1 + 1) (fun i _ h => .inr h)).step HK7.out).trans hk7q (fun i h => .inl h)
   have hkrq : Kept (fun b => b = w.heap.size + 1 ∨ b = w.heap.size + 1 + 1) wr wq := HK5.out.any.trans hk5q (fun i h => .inl h)
   have hkall : Kept Nil w wq := HKW.out.trans hkrq (fun i h => .inr (by omega))
   have hcp := HCP.out
   have hcs := hcp.s
   rw [show xs.length = (xs.map canP).length by simp, List.take_length] at hcs
   have hlen := HQL.out
   have hNP := (newRow_of_own HOW.out prCells_len (by decide)).kept hkrq (fun i hi h => by omega)
   have hNL := (newRow_of_own HO5.out lkCells_len (by decide)).kept hk5q (fun i hi h => by omega)
   have hNE := (newRow_of_own HO7.out evCells_len (by decide)).kept hk7q (fun i hi h => by omega)
   have hl1 := le_of_own HOW.out
   have hn1 := cap_of_own HOW.out
   have hl5 := le_of_own HO5.out
   have hn5 := cap_of_own HO5.out
   have hl7 := le_of_own HO7.out
   have hn7 := cap_of_own HO7.out
   have hsame : SameM (canM ⟨ver, pa, ps, pc, la, ls, lc, ea, es, ec⟩) ⟨ver, A, qs, c, A5, ys, c5, A7, zs, c7⟩ := ⟨rfl, by simp only [canM]; rw [HXS.out]; exact hcs, HYS.out, HZS.out⟩
   refine ⟨hkall, ⟨ver, A, qs, c, A5, ys, c5, A7, zs, c7⟩, by simp only [hlen], ⟨⟨RProcs.ofRow hNP.row, ?_, RLinks.ofRow hNL.row, REvents.ofRow hNE.row, by simp only; unfold maxLen; omega, by simp only; unfold maxLen; omega, by simp only; unfold maxLen; omega⟩, ⟨HM.out.o.v, fun q hq => (hcp.r q hq).2.1, fun l hl => HM.out.o.l l ((sortedBy_perm llt ls).mem_iff.1 (by rw [HYS.out]; exact hl)), fun l hl => HM.out.o.e l ((sortedBy_perm elt es).mem_iff.1 (by rw [HZS.out]; exact hl)), by simp only; omega, hn1, hl5, hn5, hl7, hn7⟩, (canM_small HM.out.s).same hsame⟩, hsame, ⟨?_, ?_, ?_, ?_⟩, ⟨hNP.lower (by omega), hNL.lower (by omega), hNE.lower (by omega), fun q hq => ?_, fun hn q hq => ?_⟩, fun q hq => ?_⟩
   ·intro q hq
    obtain ⟨h1, h2, h3, h4⟩ := hcp.r q hq
    exact h1.kept hkrq (fun g off hn e h => by have h9 := h3.v g off hn e; omega) (fun g off hn e h => by have h9 := h3.s g off hn e; omega)
   ·intro g off hn e
    obtain ⟨g8, h1, h2, _⟩ := hNP hn
    simp only at e
    rw [e] at h2; cases h2; omega
   ·intro q hq
    obtain ⟨h1, h2, h3, h4⟩ := hcp.r q hq
    exact ⟨fun g off hn e => by have h9 := h3.v g off hn e; omega, fun g off hn e => by have h9 := h3.s g off hn e; omega⟩
   ·intro g off hn e
    obtain ⟨g8, h1, h2, _⟩ := hNL hn
    simp only at e
    rw [e] at h2; cases h2; omega
   ·intro g off hn e
    obtain ⟨g8, h1, h2, _⟩ := hNE hn
    simp only at e
    rw [e] at h2; cases h2; omega
   ·obtain ⟨h1, h2, h3, h4⟩ := hcp.r q hq
    exact ⟨fun g off hn e h => h4.v g off hn e (.inr (by obtain ⟨o, h⟩ := h; simp only at h; rw [h]; rfl)), fun g off hn e h => h4.s g off hn e (.inr (by obtain ⟨o, h⟩ := h; simp only at h; rw [h]; rfl))⟩
   ·obtain ⟨h1, h2, h3, h4⟩ := hcp.r q hq
    have h5 := h1.low
    obtain ⟨g8, h6, h7, _⟩ := hNL hn
    exact ⟨fun g off hn e h => h5.v g off hn e (by obtain ⟨o, h⟩ := h; simp only at h; rw [h] at h7; cases h7; omega), fun g off hn e h => h5.s g off hn e (by obtain ⟨o, h⟩ := h; simp only at h; rw [h] at h7; cases h7; omega)⟩
   ·obtain ⟨h1, h2, h3, h4⟩ := hcp.r q hq
    have h5 := (HRN.out q hq).kept hkrq ⟨fun g off hn e h => by have h9 := h3.v g off hn e; omega, fun g off hn e h => by have h9 := h3.s g off hn e; omega⟩
    exact ⟨h5.v.lower (by omega), h5.s.lower (by omega)⟩
end Go.Proofs.YtniocgnfgpaioaaGreat.Mo
