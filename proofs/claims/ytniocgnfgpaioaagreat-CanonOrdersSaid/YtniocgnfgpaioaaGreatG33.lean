/- The walk of canon.Graph; of models whose links are joined in order; The statements' own example holds: law16's sample and alive. -/
import Derived.Test.YtniocgnfgpaioaaGreatG23
import Derived.Test.YtniocgnfgpaioaaGreatG32
import Derived.Test.YtniocgnfgpaioaaGreatG16
import Derived.Test.YtniocgnfgpaioaaGreatG21
set_option linter.unusedVariables false
set_option linter.unusedSimpArgs false
section
namespace Go.Proofs.YtniocgnfgpaioaaGreat.Gr
open Go Go.RowKit Go.Maps Go.Shelf Go.Proofs.YtniocgnfgpaioaaGreat.Lb Go.Proofs.YtniocgnfgpaioaaGreat.Mo
set_option maxRecDepth 8000
theorem mx_two (ats : Array TypeId) (ty : TypeId) (a b : Value) : Builtin.max_ ats ty #[a, b] = (Builtin.max2 a b >>= fun s => pure s) := by simp only [Builtin.max_, List.foldlM_cons, List.foldlM_nil]
def mxI (n : Int) : Int := if n < 1 then 1 else n
theorem mx2_one (k k' : IntKind) (x : Int) : Builtin.max2 (.int k x) (.int k' 1) = pure (.int k (mxI x)) := by simp only [Builtin.max2, gt_iff_lt, mxI]
attribute [local go_sem] mx2_one mx_two
theorem mx_small {v n : Int} (h : wtB v n = true) : 1 ≤ mxI n ∧ mxI n ≤ 1048576 := by
 unfold wtB at h
 simp only [Bool.or_eq_true, Bool.and_eq_true, decide_eq_true_eq, beq_iff_eq] at h
 unfold mxI
 split <;> omega
theorem may_small {n : Int} (h1 : 1 ≤ n) (h2 : n ≤ 1099511627776) : mayB n = true := by
 unfold mayB inB
 simp only [Bool.and_eq_true, decide_eq_true_eq]
 omega
def nIx (m : Md) (s : ByteArray) : Nat := (findI (m.ps.map Pr.name) s).toNat
def joinL (ns : List (List En)) (a b : Nat) (x : Int) : List (List En) :=
 (ns.set a (put b (val b (ns[a]?.getD []) + x) (ns[a]?.getD []))).set b (put a (val b (ns[a]?.getD []) + x) (ns[b]?.getD []))
def linkG (m : Md) (ns : List (List En)) (l : Lk) : List (List En) := if l.src.toList = l.dst.toList then ns else joinL ns (nIx m l.src) (nIx m l.dst) (mxI l.weight)
def gst (m : Md) (k : Nat) : List (List En) := (m.ls.take k).foldl (linkG m) (List.replicate m.ps.length [])
theorem gst_next {m : Md} {k : Nat} {l : Lk} (h : m.ls[k]? = some l) : gst m (k + 1) = linkG m (gst m k) l := by
 unfold gst
 rw [List.take_add_one, h, Option.toList_some, List.foldl_append]
 rfl
theorem pre_none {ns : List ByteArray} {s : ByteArray} {k : Nat} (h : findI ns s = (k : Int)) : ixF (ns.take k) (ky s) = none := by
 rcases findI_cases ns s with ⟨h1, _⟩ | ⟨k', t, h1, h2, h3, h4⟩
 ·omega
 ·have hk : k' = k := by omega
  subst hk
  have h5 : findI (ns.take k') s = -1 := findI_none (fun j t hj ht => by
   rw [List.getElem?_take] at ht
   split at ht
   ·exact h4 j t (by assumption) ht
   ·cases ht)
  rw [findI_ixF] at h5
  cases h6 : ixF (ns.take k') (ky s) with
  | none => rfl
  | some n =>
   rw [h6] at h5
   unfold ixF at h6
   obtain ⟨j, _, hj⟩ := Option.map_eq_some_iff.1 h6
   subst hj
   simp at h5
   try omega
theorem find_at {ns : List ByteArray} {s : ByteArray} (h : ¬ findI ns s < 0) : findI ns s = ((findI ns s).toNat : Int) ∧ (findI ns s).toNat < ns.length := by
 rcases findI_cases ns s with ⟨h1, _⟩ | ⟨k, t, h1, h2, _, _⟩
 ·omega
 ·have := (List.getElem?_eq_some_iff.1 h2).1
  omega
theorem find_same {ns : List ByteArray} {s t : ByteArray} (hs : ¬ findI ns s < 0) (e : findI ns s = findI ns t) : s.toList = t.toList := by
 rcases findI_cases ns s with ⟨h1, _⟩ | ⟨k, x, h1, h2, h3, _⟩
 ·omega
 ·rcases findI_cases ns t with ⟨h5, _⟩ | ⟨j, y, h5, h6, h7, _⟩
  ·omega
  ·have : k = j := by omega
   subst this
   rw [h2] at h6
   cases h6
   rw [← h3, h7]
structure FitG (m : Md) (k : Nat) (l : Lk) : Prop where
 a : hit (nIx m l.dst) ((gst m k)[nIx m l.src]?.getD []) = true ∨ pos (nIx m l.dst) ((gst m k)[nIx m l.src]?.getD []) = ((gst m k)[nIx m l.src]?.getD []).length
 b : hit (nIx m l.src) ((gst m k)[nIx m l.dst]?.getD []) = true ∨ pos (nIx m l.src) ((gst m k)[nIx m l.dst]?.getD []) = ((gst m k)[nIx m l.dst]?.getD []).length
 c : ((gst m k)[nIx m l.src]?.getD []).length < 10000
 d : ((gst m k)[nIx m l.dst]?.getD []).length < 10000
 s : mayB (val (nIx m l.dst) ((gst m k)[nIx m l.src]?.getD []) + mxI l.weight) = true
structure GraphEnd (m : Md) (w : World) (e : Ending) (w' : World) : Prop where
 k : Kept Nil w w'
 bad : (mdCheck m).1 ≠ 0 → e = .returned (.tuple #[.pointer none, .int .i64 (mdCheck m).1])
 ok : (mdCheck m).1 = 0 → ∃ base gb A c B d ms, e = .returned (.tuple #[.pointer (some ⟨gb, 0, none⟩), .int .i64 0]) ∧ w.heap.size ≤ base ∧ IsG w' base gb A c B d (m.ps.map (fun p => mxI p.weight)) ms ∧ ms.map GMap.es = gst m m.ls.length
set_option maxHeartbeats 16000000 in
theorem Graph_is (ver : Int) (ps : List Pr) (ls : List Lk) (es : List Ev) (pa la ea : Option Addr) (pc lc ec : Nat) (w : World) (hm : HeldM w ⟨ver, pa, ps, pc, la, ls, lc, ea, es, ec⟩)
  (hfit : (mdCheck ⟨ver, pa, ps, pc, la, ls, lc, ea, es, ec⟩).1 = 0 → ∀ k l, ls[k]? = some l → l.src.toList ≠ l.dst.toList → FitG ⟨ver, pa, ps, pc, la, ls, lc, ea, es, ec⟩ k l) :
  Calls Tryz.prog 18 #[.agg #[.int .i64 ver, .slice pa ps.length pc, .slice la ls.length lc, .slice ea es.length ec]] w fun e w' => GraphEnd ⟨ver, pa, ps, pc, la, ls, lc, ea, es, ec⟩ w e w' := by
 have HM := Lib.hid hm
 have HF := Lib.hid hfit
 have hpl : ps.length ≤ 100000 := hm.s.p
 have hll : ls.length ≤ 100000 := hm.s.l
 obtain ⟨c1, hc1⟩ : ∃ c, (mdCheck ⟨ver, pa, ps, pc, la, ls, lc, ea, es, ec⟩).1 = c := ⟨_, rfl⟩
 obtain ⟨c2, hc2⟩ : ∃ c, (mdCheck ⟨ver, pa, ps, pc, la, ls, lc, ea, es, ec⟩).2 = c := ⟨_, rfl⟩
 have hcon := fun W h => CheckM_is ⟨ver, pa, ps, pc, la, ls, lc, ea, es, ec⟩ W h hm.o.sz (fun p hp => (hm.s.v p hp).1)
 rw [hc1, hc2] at hcon
 have HCON := Lib.hid hcon
 have HC1 := Lib.hid hc1
 clear hm hfit hc2 hcon
 obtain ⟨W1, hW⟩ : ∃ W, (w.alloc (.cells #[.int .i64 ver, .slice pa ps.length pc, .slice la ls.length lc, .slice ea es.length ec] 26)) = W := ⟨_, rfl⟩
 have hk : Kept Nil w W1 := by rw [← hW]; exact ((Kept.refl Nil w).alloc _)
 have hsz : W1.heap.size = w.heap.size + 1 := by rw [← hW]; simp
 have hb : W1.heap[w.heap.size]? = some (.cells #[.int .i64 ver, .slice pa ps.length pc, .slice la ls.length lc, .slice ea es.length ec] 26 (0, 0)) := by
  rw [← hW]
  have h9 := heap_new w (.cells #[.int .i64 ver, .slice pa ps.length pc, .slice la ls.length lc, .slice ea es.length ec] 26)
  exact h9
 have G0 := Lib.hid (show W1.cell? ⟨w.heap.size, 0, none⟩ = some (.int .i64 ver) by rw [cell_of hb]; rfl)
 have G1 := Lib.hid (show W1.cell? ⟨w.heap.size, 1, none⟩ = some (.slice pa ps.length pc) by rw [cell_of hb]; rfl)
 have G2 := Lib.hid (show W1.cell? ⟨w.heap.size, 2, none⟩ = some (.slice la ls.length lc) by rw [cell_of hb]; rfl)
 have G3 := Lib.hid (show W1.cell? ⟨w.heap.size, 3, none⟩ = some (.slice ea es.length ec) by rw [cell_of hb]; rfl)
 have GB := Lib.hid hb
 have hzg : w.heap.size < W1.heap.size := by omega
 clear hb
 have HW := Lib.hid hW
 have HK := Lib.hid hk
 have HSZ := Lib.hid hsz
 clear hW hk hsz
 go_enter Tryz.func18, Tryz.ntmps18
 go_upto_region 1 with fail
 rw [HW.out]
 have g0 := G0.out
 have g1 := G1.out
 have g2 := G2.out
 have g3 := G3.out
 go_upto_region 2 with (go_at_call 17; refine (HCON.out _ (HM.out.nil HK.out).r).mono ?_; rintro e w2 ⟨rfl, hk2⟩; have HK2 := Lib.hid hk2; have hz2 := hk2.size; clear hk2 g0 g1 g2 g3)
 obtain ⟨W3, hW3⟩ : ∃ W3, w2.alloc (.cells #[.int .i64 c1, .int .i64 c2] 45) = W3 := ⟨_, rfl⟩
 rw [hW3]
 have hk3 : Kept Nil W1 W3 := by rw [← hW3]; exact HK2.out.alloc _
 have hb3 : W3.heap[w2.heap.size]? = some (.cells #[.int .i64 c1, .int .i64 c2] 45 (0, 0)) := by rw [← hW3]; exact heap_new _ _
 have hz3 : w2.heap.size < W3.heap.size := (Array.getElem?_eq_some_iff.1 hb3).1
 have f0 : W3.cell? ⟨w2.heap.size, 0, none⟩ = some (.int .i64 c1) := by rw [cell_of hb3]; rfl
 have HB3 := Lib.hid hb3
 have HK3 := Lib.hid hk3
 have hzz3 := hk3.size
 have HKW := Lib.hid (HK.out.step hk3)
 clear hW3 hb3 hk3
 by_cases h0 : c1 = 0
 ·have HC0 := Lib.hid (show (mdCheck ⟨ver, pa, ps, pc, la, ls, lc, ea, es, ec⟩).1 = 0 by rw [HC1.out, h0])
  subst h0
  have hr := right_of HC0.out
  have HR := Lib.hid hr
  clear hr
  have hmm := @run_makeMap Tryz.prog
  have g1 := HK3.out.cell G1.out (fun h => h)
  have hzg3 : w.heap.size < W3.heap.size := by omega
  go_upto_region 7 with fail
  clear hmm f0
  obtain ⟨W4, hW4⟩ : ∃ W4, W3.alloc (.map #[] 0) = W4 := ⟨_, rfl⟩
  rw [hW4]
  have hk4 : Kept Nil W3 W4 := by rw [← hW4]; exact (Kept.refl Nil W3).alloc _
  have hi4 : IxS Tryz.prog 9 3 W3.heap.size 0 (ixF []) W4 := by rw [← hW4]; exact (IxS.made W3 _ _ _).congr (fun t => rfl)
  have hs4 : W4.heap.size = W3.heap.size + 1 := by rw [← hW4]; simp
  have HI4 := Lib.hid hi4
  have HK4 := Lib.hid (HKW.out.step hk4)
  have HK34 := Lib.hid hk4
  have HS4 := Lib.hid hs4
  have hzz4 : W3.heap.size < W4.heap.size := by omega
  clear hW4 hk4 hi4 hs4 g1
  obtain ⟨j0, hjnf, hy0, hy1, hy2⟩ := info_parts infoI
  go_loopw [5, 24] (fun a i wr => ∃ (k : Nat) (A : Option Addr) (c : Nat), k ≤ ps.length ∧ i = .int .i64 k ∧ a = .slice A k c ∧ wr.ownsRow W4.heap.size 2 1 a k (((ps.take k).map (fun p => mxI p.weight)).map (.int .i64)) ∧ IxS Tryz.prog 9 3 W3.heap.size k (ixF ((ps.take k).map Pr.name)) wr ∧ Kept (fun i => i = W3.heap.size) W4 wr) (fun _ i _ => ps.length - (intOf i).toNat)
  case atStart => exact ⟨0, none, 0, Nat.zero_le _, rfl, rfl, World.ownsRow_nil _ _ _ _, HI4.out, Kept.refl _ _⟩
  case round =>
   obtain ⟨k, A, c, hk, rfl, rfl, how, hix, hK⟩ := hrel
   have HOW := Lib.hid how
   have HIX := Lib.hid hix
   have HKR := Lib.hid hK
   have hzr := hK.size
   have hkw : Kept Nil w wr := HK4.out.trans hK (fun i h => .inr (by (have h9 : i = W3.heap.size := h); omega))
   have HKWR := Lib.hid hkw
   have hzwr := hkw.size
   clear how hix hK hkw
   by_cases hlt : k < ps.length
   ·obtain ⟨p, ep⟩ : ∃ v, ps[k]? = some v := ⟨_, List.getElem?_eq_getElem hlt⟩
    have hh := HM.out.nil HKWR.out
    obtain ⟨b, off, e1, c0, c1, c2, c3⟩ := hh.r.p.at ep
    simp only at e1
    subst e1
    have hbs : b < wr.heap.size := World.block_lt_of_cell? _ _ c0
    have hlt2 : (k : Int) < (ps.length : Int) := by omega
    have hw : IntKind.i64.wrap ((k : Int) + 1) = (k : Int) + 1 := by rw [IntKind.wrap_i64]; omega
    have hnm := (hh.o.p p (List.mem_of_getElem? ep)).n
    have HNM := Lib.hid hnm
    have EP := Lib.hid ep
    clear hh ep hnm
    go_upto_region 9 with fail
    clear c0 c1 c2 c3
    obtain ⟨WP, hW⟩ : ∃ W, (wr.alloc (.cells #[.string p.name, .int .i64 p.weight, .slice p.va p.vs.length p.vc, .slice p.sa p.ss.length p.sc] 34)) = W := ⟨_, rfl⟩
    have hk : Kept Nil wr WP := by rw [← hW]; exact ((Kept.refl Nil wr).alloc _)
    have hsz : WP.heap.size = wr.heap.size + 1 := by rw [← hW]; simp
    have hb : WP.heap[wr.heap.size]? = some (.cells #[.string p.name, .int .i64 p.weight, .slice p.va p.vs.length p.vc, .slice p.sa p.ss.length p.sc] 34 (0, 0)) := by
     rw [← hW]
     have h9 := heap_new wr (.cells #[.string p.name, .int .i64 p.weight, .slice p.va p.vs.length p.vc, .slice p.sa p.ss.length p.sc] 34)
     exact h9
    have B0 := Lib.hid (show WP.cell? ⟨wr.heap.size, 0, none⟩ = some (.string p.name) by rw [cell_of hb]; rfl)
    have B1 := Lib.hid (show WP.cell? ⟨wr.heap.size, 1, none⟩ = some (.int .i64 p.weight) by rw [cell_of hb]; rfl)
    have B2 := Lib.hid (show WP.cell? ⟨wr.heap.size, 2, none⟩ = some (.slice p.va p.vs.length p.vc) by rw [cell_of hb]; rfl)
    have B3 := Lib.hid (show WP.cell? ⟨wr.heap.size, 3, none⟩ = some (.slice p.sa p.ss.length p.sc) by rw [cell_of hb]; rfl)
    have BB := Lib.hid hb
    have hzb : wr.heap.size < WP.heap.size := by omega
    clear hb
    have HWP := Lib.hid hW
    have HKP := Lib.hid hk
    have HSZP := Lib.hid hsz
    clear hW hk hsz
    rw [HWP.out]
    have b0 := B0.out
    have b1 := B1.out
    go_wp2_with (at_builtin; refine stop_append _ _ _ rfl ?_)
    unfold StopA
    refine wpList_append_own_at _ rfl _ _ 95 rfl W4.heap.size 2 j0 (.int .i64 0) 1 8 Tryz.underlying95 hjnf hy0 hy1 hy2 rfl (by decide) (.slice A k c) k (((ps.take k).map (fun p => mxI p.weight)).map (.int .i64)) rfl ((HKP.out.own HOW.out (fun _ _ h => h)).alloc _) ⟨WP.heap.size, 0, none⟩ 1 1 [.int .i64 (mxI p.weight)] rfl rfl (cells_new _ _ _) (by simp [Value.oneCell']) (by unfold maxLen; omega) (by omega) (by simp; omega) ?_
    intro v5 w5 hown5 hgrow5 _ _
    obtain ⟨g5, c5, rfl⟩ := ownsRow_succ hown5
    have hkb : ∀ i, (Value.slice A k c).ownBlock = some i → W4.heap.size ≤ i := fun i h => (HOW.out.lt i h).1
    have hk5 : Kept (fun i => W4.heap.size ≤ i) WP w5 := ((Kept.refl (fun i => W4.heap.size ≤ i) WP).alloc _).grown hgrow5 (fun j e => .inl (hkb j e))
    have hk5o : Kept (fun i => (Value.slice A k c).ownBlock = some i) WP w5 := ((Kept.refl (fun i => (Value.slice A k c).ownBlock = some i) WP).alloc _).grown hgrow5 (fun j e => .inl e)
    have ho5 : w5.ownsRow W4.heap.size 2 1 (.slice (some ⟨g5, 0, none⟩) (k + 1) c5) (k + 1) (((ps.take (k + 1)).map (fun p => mxI p.weight)).map (.int .i64)) := by
     rw [List.take_add_one, EP.out, Option.toList_some, List.map_append, List.map_append]
     exact hown5
    have hx5 : IxS Tryz.prog 9 3 W3.heap.size k (ixF ((ps.take k).map Pr.name)) w5 := (HIX.out.nil HKP.out).same (by obtain ⟨es9, ck9, h9⟩ := (HIX.out.nil HKP.out).block; rw [hk5.heap h9 (fun h => by (have h8 : W4.heap.size ≤ W3.heap.size := h); omega), h9])
    have hbo : (Value.slice A k c).ownBlock ≠ some wr.heap.size := fun h => by have := (HOW.out.lt _ h).2; omega
    have hbb5 := hk5o.heap BB.out hbo
    have HBB5 := Lib.hid hbb5
    have HO5 := Lib.hid ho5
    have HK5 := Lib.hid hk5
    have hz5 := hk5.size
    have HX5 := Lib.hid hx5
    have hzb5 : wr.heap.size < w5.heap.size := by omega
    clear hown5 hgrow5 hkb hk5 hk5o ho5 hx5 hbo hbb5 b0 b1
    have b0 : w5.cell? ⟨wr.heap.size, 0, none⟩ = some (.string p.name) := by rw [cell_of HBB5.out]; rfl
    obtain ⟨D, hD, hE⟩ := HX5.out.own
    have HD := Lib.hid hD
    have HE := Lib.hid hE
    clear hD hE
    have HWF := Lib.hid (show (Lit.int .i64 (k : Int)).wf = true by simp only [Lit.wf, Bool.and_eq_true, decide_eq_true_eq]; exact ⟨by first | (simp [IntKind.min, IntKind.bits, IntKind.signed]; done) | (simp [IntKind.min, IntKind.bits, IntKind.signed]; omega), by first | (simp [IntKind.max, IntKind.bits, IntKind.signed]; done) | (simp [IntKind.max, IntKind.bits, IntKind.signed]; omega)⟩)
    go_wp2_with (at_mapUpdate; refine wpList_mapUpdate_own _ rfl _ _ _ 82 rfl 9 3 (string_keyed Tryz.underlying9) Tryz.underlying82 _ W3.heap.size k D rfl HD.out (by unfold maxLen; omega) _ _ _ rfl rfl (show keyOf Tryz.prog 9 (.string p.name) = some (.string p.name.data.toList) by simp [keyOf, Tryz.underlying9, mapKey, HNM.out]) _ [] (plainElem_int Tryz.underlying3 HWF.out) ?_; intro w6 hown6 hgrow6; have HO6 := Lib.hid hown6; have HG6 := Lib.hid hgrow6; clear hown6 hgrow6)
    have hk6 : Kept (fun i => i = W3.heap.size) w5 w6 := (Kept.refl (fun i => i = W3.heap.size) w5).grown HG6.out (fun j e => .inl (by cases e; rfl))
    have ho6 := hk6.own HO5.out (fun i e h => by have h9 := (HO5.out.lt i e).1; (have h8 : i = W3.heap.size := h); omega)
    have hpn := pre_none (HR.out.pr EP.out).f
    simp only at hpn
    have hx6 : IxS Tryz.prog 9 3 W3.heap.size (k + 1) (ixF ((ps.take (k + 1)).map Pr.name)) w6 := (IxS.put HD.out.isMap HE.out _ _ HO6.out).congr (fun t => by
     rw [List.take_add_one, EP.out, Option.toList_some, List.map_append, List.map_cons, List.map_nil, ixF_snoc, List.map_take, hpn, if_pos rfl]
     rw [show ((ps.map Pr.name).take k).length = k by rw [List.length_take, List.length_map]; omega]
     rfl)
    have hkall : Kept (fun i => i = W3.heap.size) W4 w6 := by
     have h1 : Kept (fun i => W3.heap.size ≤ i) W4 w6 := (((HKR.out.mono (S' := fun i => W3.heap.size ≤ i) (fun i _ h => by (have h9 : i = W3.heap.size := h); (show W3.heap.size ≤ i); omega)).step HKP.out).trans HK5.out (fun i h => .inl (by (have h9 : W4.heap.size ≤ i := h); (show W3.heap.size ≤ i); omega))).trans hk6 (fun i h => .inl (by (have h9 : i = W3.heap.size := h); (show W3.heap.size ≤ i); omega))
     exact h1.mono (fun i hi h => by (have h9 : W3.heap.size ≤ i := h); (have h8 := HS4.out); (show i = W3.heap.size); omega)
    exact ⟨⟨k + 1, _, _, by omega, by go_num, rfl, ho6, hx6, hkall⟩, by (simp [intOf] <;> omega)⟩
   ·have hkl : k = ps.length := by omega
    subst hkl
    obtain ⟨wo, hwo⟩ : ∃ x, x = wr := ⟨_, rfl⟩
    subst hwo
    have hws : (ps.take ps.length).map (fun p => mxI p.weight) = ps.map (fun p => mxI p.weight) := by rw [List.take_length]
    have hns : (ps.take ps.length).map Pr.name = ps.map Pr.name := by rw [List.take_length]
    have hix := HIX.out
    rw [hns] at hix
    have how := HOW.out
    rw [hws] at how
    clear hws hns
    have HIX2 := Lib.hid hix
    have hro : RowOf wo A 1 i64c (ps.map (fun p => mxI p.weight)) := (newRow_of_own (by rw [i64c_flat]; exact how) i64c_len (by decide)).row
    have HRO := Lib.hid hro
    have HCN := Lib.hid (cap_of_own how)
    have hmay : ∀ x ∈ ps.map (fun p => mxI p.weight), mayB x = true := fun x hx => by
     obtain ⟨p, hp, rfl⟩ := List.mem_map.1 hx
     obtain ⟨j, hj, rfl⟩ := List.mem_iff_getElem.1 hp
     have h9 := mx_small (HR.out.pr (List.getElem?_eq_getElem hj)).w
     exact may_small h9.1 (by omega)
    have HMAY := Lib.hid hmay
    have hp4 : ps.length ≤ 4096 := by have := HR.out.n; simp only at this; omega
    have hnew := New_is (ps.map (fun p => mxI p.weight)) A c wo HRO.out HCN.out (by rw [List.length_map]; exact hp4) HMAY.out
    rw [List.length_map] at hnew
    clear hix how hro hmay
    have hkg : Kept Nil W1 wo := (HK3.out.step (show Kept Nil W3 W4 from HK34.out)).trans HKR.out (fun i h => .inr (by (have h9 : i = W3.heap.size := h); omega))
    have HKG := Lib.hid hkg
    clear hkg
    go_wp2_with (go_at_call 57; with_reducible refine hnew.mono ?_; rintro e w5 ⟨hk5, gb, A5, c5, B5, d5, ms5, rfl, hg5, hes5⟩; have HK5 := Lib.hid hk5; have HG5 := Lib.hid hg5; have HES := Lib.hid hes5; have hz5 := hk5.size; have g2 := (HKG.out.step hk5).cell G2.out (fun h => h); have hzg5 : w.heap.size < w5.heap.size := (by omega); clear hk5 hg5 hes5)
    obtain ⟨ws, hws⟩ : ∃ ws, ps.map (fun p => mxI p.weight) = ws := ⟨_, rfl⟩
    rw [hws] at HG5
    have HWS := Lib.hid hws
    have hwl : ws.length = ps.length := by rw [← hws, List.length_map]
    have HWLN := Lib.hid hwl
    clear hws hwl hnew
    have hix5 : IxS Tryz.prog 9 3 W3.heap.size ps.length (ixF (ps.map Pr.name)) w5 := HIX2.out.nil HK5.out
    have HIX5 := Lib.hid hix5
    clear hix5
    have HKW5 := Lib.hid (HKWR.out.step HK5.out)
    have hbase : wo.heap.size ≤ w5.heap.size := hz5
    go_loopw [48] (fun i wl => ∃ (k : Nat) (ms : List GMap), k ≤ ls.length ∧ i = .int .i64 k ∧ IsG wl wo.heap.size gb A5 c5 B5 d5 ws ms ∧ ms.map GMap.es = gst ⟨ver, pa, ps, pc, la, ls, lc, ea, es, ec⟩ k ∧ Kept (fun i => wo.heap.size ≤ i) w5 wl) (fun i _ => ls.length - (intOf i).toNat)
    case atStart =>
     refine ⟨0, ms5, Nat.zero_le _, rfl, HG5.out, ?_, Kept.refl _ _⟩
     have h1 : gst ⟨ver, pa, ps, pc, la, ls, lc, ea, es, ec⟩ 0 = List.replicate ps.length [] := by unfold gst; rw [List.take_zero]; rfl
     rw [h1, List.eq_replicate_iff]
     refine ⟨by rw [List.length_map, ← HG5.out.hl, HWLN.out], fun x hx => ?_⟩
     obtain ⟨m, hm, rfl⟩ := List.mem_map.1 hx
     exact HES.out m hm
    case round =>
     obtain ⟨k, ms, hk, rfl, hg, hes, hKl⟩ := hrel
     have HG := Lib.hid hg
     have HEM := Lib.hid hes
     have HKL := Lib.hid hKl
     have hzl := hKl.size
     have hkw : Kept Nil w wr := HKW5.out.trans hKl (fun i h => .inr (by (have h9 : wo.heap.size ≤ i := h); omega))
     have HKWL := Lib.hid hkw
     clear hg hes hKl hkw g2
     by_cases hlt : k < ls.length
     ·obtain ⟨l, el⟩ : ∃ v, ls[k]? = some v := ⟨_, List.getElem?_eq_getElem hlt⟩
      have hh := HM.out.nil HKWL.out
      obtain ⟨b, off, e1, c0, c1, c2, c3, c4⟩ := hh.r.l.at el
      simp only at e1
      subst e1
      have hbs : b < wr.heap.size := World.block_lt_of_cell? _ _ c0
      have hlt2 : (k : Int) < (ls.length : Int) := by omega
      have hw : IntKind.i64.wrap ((k : Int) + 1) = (k : Int) + 1 := by rw [IntKind.wrap_i64]; omega
      have hol := hh.o.l l (List.mem_of_getElem? el)
      have HOL := Lib.hid hol
      have EL := Lib.hid el
      clear hh hol el
      go_upto_region 16 with fail
      clear c0 c1 c2 c3 c4
      obtain ⟨WL, hW⟩ : ∃ W, (wr.alloc (.cells #[.string l.name, .string l.src, .string l.dst, .int .i64 l.delay, .int .i64 l.weight] 42)) = W := ⟨_, rfl⟩
      have hk : Kept Nil wr WL := by rw [← hW]; exact ((Kept.refl Nil wr).alloc _)
      have hsz : WL.heap.size = wr.heap.size + 1 := by rw [← hW]; simp
      have hb : WL.heap[wr.heap.size]? = some (.cells #[.string l.name, .string l.src, .string l.dst, .int .i64 l.delay, .int .i64 l.weight] 42 (0, 0)) := by
       rw [← hW]
       have h9 := heap_new wr (.cells #[.string l.name, .string l.src, .string l.dst, .int .i64 l.delay, .int .i64 l.weight] 42)
       exact h9
      have B0 := Lib.hid (show WL.cell? ⟨wr.heap.size, 0, none⟩ = some (.string l.name) by rw [cell_of hb]; rfl)
      have B1 := Lib.hid (show WL.cell? ⟨wr.heap.size, 1, none⟩ = some (.string l.src) by rw [cell_of hb]; rfl)
      have B2 := Lib.hid (show WL.cell? ⟨wr.heap.size, 2, none⟩ = some (.string l.dst) by rw [cell_of hb]; rfl)
      have B3 := Lib.hid (show WL.cell? ⟨wr.heap.size, 3, none⟩ = some (.int .i64 l.delay) by rw [cell_of hb]; rfl)
      have B4 := Lib.hid (show WL.cell? ⟨wr.heap.size, 4, none⟩ = some (.int .i64 l.weight) by rw [cell_of hb]; rfl)
      have BB := Lib.hid hb
      have hzb : wr.heap.size < WL.heap.size := by omega
      clear hb
      have HWZ := Lib.hid hW
      have HKZ := Lib.hid hk
      have HSZZ := Lib.hid hsz
      clear hW hk hsz
      rw [HWZ.out]
      have b1 := B1.out
      have b2 := B2.out
      have b4 := B4.out
      have hsucc := gst_next (m := ⟨ver, pa, ps, pc, some ⟨b, off, none⟩, ls, lc, ea, es, ec⟩) EL.out
      have HSUCC := Lib.hid hsucc
      clear hsucc
      by_cases hsd : l.src.toList = l.dst.toList
      ·have q1 : (l.src.toList != l.dst.toList) = false := by simp [hsd]
       have q2 : (l.src.toList == l.dst.toList) = true := by simp [hsd]
       have q3 : decide (l.src.toList = l.dst.toList) = true := by simp [hsd]
       have HSD := Lib.hid hsd
       clear hsd
       go_wp2_with fail
       go_round
       exact ⟨k + 1, ms, by omega, by go_num, HG.out.nil HKZ.out, by rw [HSUCC.out]; unfold linkG; rw [if_pos HSD.out]; exact HEM.out, HKL.out.trans HKZ.out (fun i h => h.elim)⟩
       case measure => (simp [intOf] <;> omega)
      ·have q1 : (l.src.toList != l.dst.toList) = true := by simp [hsd]
       have q2 : (l.src.toList == l.dst.toList) = false := by simp [hsd]
       have q3 : decide (l.src.toList = l.dst.toList) = false := by simp [hsd]
       have hlk := HR.out.lk EL.out
       have hnse := hlk.e
       have hfi := HF.out HC0.out k l EL.out hsd
       obtain ⟨a1, a2⟩ := find_at (fun h => hnse (.inl h))
       obtain ⟨a3, a4⟩ := find_at (fun h => hnse (.inr h))
       have hab : nIx ⟨ver, pa, ps, pc, some ⟨b, off, none⟩, ls, lc, ea, es, ec⟩ l.src ≠ nIx ⟨ver, pa, ps, pc, some ⟨b, off, none⟩, ls, lc, ea, es, ec⟩ l.dst := fun h => by
        apply hsd
        refine find_same (fun h9 => hnse (.inl h9)) ?_
        rw [a1, a3]
        unfold nIx at h
        simp only at h ⊢
        rw [h]
       obtain ⟨ia, hia⟩ : ∃ i, nIx ⟨ver, pa, ps, pc, some ⟨b, off, none⟩, ls, lc, ea, es, ec⟩ l.src = i := ⟨_, rfl⟩
       obtain ⟨ib, hib⟩ : ∃ i, nIx ⟨ver, pa, ps, pc, some ⟨b, off, none⟩, ls, lc, ea, es, ec⟩ l.dst = i := ⟨_, rfl⟩
       have hf1 : findI (ps.map Pr.name) l.src = (ia : Int) := by rw [← hia]; exact a1
       have hf2 : findI (ps.map Pr.name) l.dst = (ib : Int) := by rw [← hib]; exact a3
       have ha : ia < ps.length := by rw [← hia]; simpa [nIx] using a2
       have hb : ib < ps.length := by rw [← hib]; simpa [nIx] using a4
       rw [hia, hib] at hab
       have hixl : IxS Tryz.prog 9 3 W3.heap.size ps.length (ixF (ps.map Pr.name)) WL := (HIX5.out.same (by obtain ⟨es9, ck9, h9⟩ := HIX5.out.block; rw [HKL.out.heap h9 (fun h => by (have h8 : wo.heap.size ≤ W3.heap.size := h); omega), h9])).nil HKZ.out
       have hl1 : (Instr.lookup 82 (.map (some W3.heap.size)) (.string l.src) false).run Tryz.prog WL = .ok (.int .i64 (ia : Int)) WL := ix_val hixl l.src HOL.out.s hf1 0
       have hl2 : (Instr.lookup 82 (.map (some W3.heap.size)) (.string l.dst) false).run Tryz.prog WL = .ok (.int .i64 (ib : Int)) WL := ix_val hixl l.dst HOL.out.d hf2 0
       have hgl := HG.out.nil HKZ.out
       have hml : ms.length = ps.length := by rw [← hgl.hl, HWLN.out]
       obtain ⟨p, ep⟩ : ∃ p, ms[ia]? = some p := ⟨_, List.getElem?_eq_getElem (by omega)⟩
       obtain ⟨q, eq⟩ : ∃ p, ms[ib]? = some p := ⟨_, List.getElem?_eq_getElem (by omega)⟩
       have hpe : (gst ⟨ver, pa, ps, pc, some ⟨b, off, none⟩, ls, lc, ea, es, ec⟩ k)[ia]?.getD [] = p.es := by rw [← HEM.out, List.getElem?_map, ep]; rfl
       have hqe : (gst ⟨ver, pa, ps, pc, some ⟨b, off, none⟩, ls, lc, ea, es, ec⟩ k)[ib]?.getD [] = q.es := by rw [← HEM.out, List.getElem?_map, eq]; rfl
       obtain ⟨fa, fb, fc, fd, fs⟩ := hfi
       rw [hia, hib] at fa fb fs
       rw [hia] at fc
       rw [hib] at fd
       rw [hpe] at fa fc fs
       rw [hqe] at fb fd
       have hmx := mx_small hlk.w
       have hjoin := Join_is wo.heap.size gb c5 d5 A5 B5 ws ms ia ib p q (mxI l.weight) WL hgl ep eq hab (may_small hmx.1 (by omega)) fs fa fb fc fd
       have HJ := Lib.hid hjoin
       have EP := Lib.hid ep
       have EQ := Lib.hid eq
       have HPE := Lib.hid hpe
       have HQE := Lib.hid hqe
       have HSD := Lib.hid hsd
       have HIA := Lib.hid hia
       have HIB := Lib.hid hib
       have HAB := Lib.hid hab
       clear hsd hlk hnse a1 a2 a3 a4 hab hia hib hf1 hf2 hixl hgl hml ep eq hpe hqe fa fb fc fd fs hmx hjoin
       go_wp2_with (go_at_call 58; with_reducible refine HJ.out.mono ?_; rintro e9 w9 ⟨⟨r9, rfl⟩, ⟨p9, q9, hp9, hq9, hg9⟩, hk9⟩; have HP9 := Lib.hid hp9; have HQ9 := Lib.hid hq9; have HG9 := Lib.hid hg9; have HK9 := Lib.hid hk9; clear hp9 hq9 hg9 hk9)
       go_round
       refine ⟨k + 1, (ms.set ia p9).set ib q9, by omega, by go_num, HG9.out, ?_, (HKL.out.trans HKZ.out (fun i h => h.elim)).trans HK9.out (fun i h => .inl h)⟩
       ·rw [HSUCC.out]
        unfold linkG joinL
        rw [if_neg HSD.out, HIA.out, HIB.out, HPE.out, HQE.out, List.map_set, List.map_set, HP9.out, HQ9.out, HEM.out]
       case measure => (simp [intOf] <;> omega)
     ·obtain rfl : k = ls.length := by omega
      go_wp2_with fail
      go_ret2
      exact ⟨HKWL.out, fun h => absurd HC0.out h, fun _ => ⟨wo.heap.size, gb, A5, c5, B5, d5, ms, rfl, by have := HKWR.out.size; omega, by rw [HWS.out]; exact HG.out, HEM.out⟩⟩
 ·have b1 : (c1 != 0) = true := by simp [h0]
  have b1e : (c1 == 0) = false := by simp [h0]
  go_upto_region 3 with fail
  go_big_quiet (fail)
  go_wp2_with fail
  go_ret2
  exact ⟨HKW.out.drewN _, fun _ => by rw [HC1.out]; rfl, fun h => absurd (HC1.out.symm.trans h) h0⟩
end Go.Proofs.YtniocgnfgpaioaaGreat.Gr
end
section
section
namespace Go.Proofs.YtniocgnfgpaioaaGreat.Mo
open Go Go.RowKit Go.Proofs.YtniocgnfgpaioaaGreat.Lb Go.Proofs.YtniocgnfgpaioaaGreat.HpPure Go.Proofs.YtniocgnfgpaioaaGreat.Gr
set_option maxRecDepth 8000
def smpP0 : Pr := ⟨⟨#[98]⟩, 2, none, [], 0, none, [], 0⟩
def smpP1 (b : Nat) : Pr := ⟨⟨#[97]⟩, 1, some ⟨b + 1, 0, none⟩, [⟨⟨#[121]⟩, 0⟩, ⟨⟨#[120]⟩, 0⟩], 2, none, [], 0⟩
def smp (b : Nat) : Md := ⟨3, some ⟨b + 1 + 1, 0, none⟩, [smpP0, smpP1 b], 2, some ⟨b + 1 + 1 + 1, 0, none⟩, [⟨⟨#[108]⟩, ⟨#[97]⟩, ⟨#[98]⟩, 5, 4⟩], 1, some ⟨b + 1 + 1 + 1 + 1, 0, none⟩, [⟨⟨#[98]⟩, 1, 0⟩, ⟨⟨#[97]⟩, 1, 0⟩], 2⟩
set_option maxHeartbeats 4000000 in
theorem sample_is (w : World) : Calls Tryz.prog 28 #[] w fun e w' => e = .returned (.agg #[.int .i64 3, .slice (some ⟨w.heap.size + 1 + 1, 0, none⟩) 2 2, .slice (some ⟨w.heap.size + 1 + 1 + 1, 0, none⟩) 1 1, .slice (some ⟨w.heap.size + 1 + 1 + 1 + 1, 0, none⟩) 2 2]) ∧ HeldM w' (smp w.heap.size) ∧ Kept Nil w w' := by
 go_enter Tryz.func28, Tryz.ntmps28
 go_wp2
 refine bodyPost_ret (v := .agg #[.int .i64 3, .slice (some ⟨w.heap.size + 1 + 1, 0, none⟩) 2 2, .slice (some ⟨w.heap.size + 1 + 1 + 1, 0, none⟩) 1 1, .slice (some ⟨w.heap.size + 1 + 1 + 1 + 1, 0, none⟩) 2 2]) (by simp [results, Tryz.results28, go_sem]) rfl ?_
 have h1 : ((((((w.alloc (.cells #[.int .i64 3, .slice (some ⟨w.heap.size + 1 + 1, 0, none⟩) 2 2, .slice (some ⟨w.heap.size + 1 + 1 + 1, 0, none⟩) 1 1, .slice (some ⟨w.heap.size + 1 + 1 + 1 + 1, 0, none⟩) 2 2] 26)).alloc (.cells #[.string ⟨#[121]⟩, .int .i64 0, .string ⟨#[120]⟩, .int .i64 0] 40)).alloc (.cells #[.string ⟨#[98]⟩, .int .i64 2, .slice none 0 0, .slice none 0 0, .string ⟨#[97]⟩, .int .i64 1, .slice (some ⟨w.heap.size + 1, 0, none⟩) 2 2, .slice none 0 0] 34)).alloc (.cells #[.string ⟨#[108]⟩, .string ⟨#[97]⟩, .string ⟨#[98]⟩, .int .i64 5, .int .i64 4] 42)).alloc (.cells #[.string ⟨#[98]⟩, .int .i64 1, .int .i64 0, .string ⟨#[97]⟩, .int .i64 1, .int .i64 0] 48))).heap[w.heap.size + 1]? = some (.cells #[.string ⟨#[121]⟩, .int .i64 0, .string ⟨#[120]⟩, .int .i64 0] 40 (0, 0)) := by
  rw [heap_old _ _ (by simp only [World.size_alloc]; omega)]
  rw [heap_old _ _ (by simp only [World.size_alloc]; omega)]
  rw [heap_old _ _ (by simp only [World.size_alloc]; omega)]
  have h9 := heap_new (w.alloc (.cells #[.int .i64 3, .slice (some ⟨w.heap.size + 1 + 1, 0, none⟩) 2 2, .slice (some ⟨w.heap.size + 1 + 1 + 1, 0, none⟩) 1 1, .slice (some ⟨w.heap.size + 1 + 1 + 1 + 1, 0, none⟩) 2 2] 26)) (.cells #[.string ⟨#[121]⟩, .int .i64 0, .string ⟨#[120]⟩, .int .i64 0] 40)
  simp only [World.size_alloc] at h9
  exact h9
 have h2 : ((((((w.alloc (.cells #[.int .i64 3, .slice (some ⟨w.heap.size + 1 + 1, 0, none⟩) 2 2, .slice (some ⟨w.heap.size + 1 + 1 + 1, 0, none⟩) 1 1, .slice (some ⟨w.heap.size + 1 + 1 + 1 + 1, 0, none⟩) 2 2] 26)).alloc (.cells #[.string ⟨#[121]⟩, .int .i64 0, .string ⟨#[120]⟩, .int .i64 0] 40)).alloc (.cells #[.string ⟨#[98]⟩, .int .i64 2, .slice none 0 0, .slice none 0 0, .string ⟨#[97]⟩, .int .i64 1, .slice (some ⟨w.heap.size + 1, 0, none⟩) 2 2, .slice none 0 0] 34)).alloc (.cells #[.string ⟨#[108]⟩, .string ⟨#[97]⟩, .string ⟨#[98]⟩, .int .i64 5, .int .i64 4] 42)).alloc (.cells #[.string ⟨#[98]⟩, .int .i64 1, .int .i64 0, .string ⟨#[97]⟩, .int .i64 1, .int .i64 0] 48))).heap[w.heap.size + 1 + 1]? = some (.cells #[.string ⟨#[98]⟩, .int .i64 2, .slice none 0 0, .slice none 0 0, .string ⟨#[97]⟩, .int .i64 1, .slice (some ⟨w.heap.size + 1, 0, none⟩) 2 2, .slice none 0 0] 34 (0, 0)) := by
  rw [heap_old _ _ (by simp only [World.size_alloc]; omega)]
  rw [heap_old _ _ (by simp only [World.size_alloc]; omega)]
  have h9 := heap_new ((w.alloc (.cells #[.int .i64 3, .slice (some ⟨w.heap.size + 1 + 1, 0, none⟩) 2 2, .slice (some ⟨w.heap.size + 1 + 1 + 1, 0, none⟩) 1 1, .slice (some ⟨w.heap.size + 1 + 1 + 1 + 1, 0, none⟩) 2 2] 26)).alloc (.cells #[.string ⟨#[121]⟩, .int .i64 0, .string ⟨#[120]⟩, .int .i64 0] 40)) (.cells #[.string ⟨#[98]⟩, .int .i64 2, .slice none 0 0, .slice none 0 0, .string ⟨#[97]⟩, .int .i64 1, .slice (some ⟨w.heap.size + 1, 0, none⟩) 2 2, .slice none 0 0] 34)
  simp only [World.size_alloc] at h9
  exact h9
 have h3 : ((((((w.alloc (.cells #[.int .i64 3, .slice (some ⟨w.heap.size + 1 + 1, 0, none⟩) 2 2, .slice (some ⟨w.heap.size + 1 + 1 + 1, 0, none⟩) 1 1, .slice (some ⟨w.heap.size + 1 + 1 + 1 + 1, 0, none⟩) 2 2] 26)).alloc (.cells #[.string ⟨#[121]⟩, .int .i64 0, .string ⟨#[120]⟩, .int .i64 0] 40)).alloc (.cells #[.string ⟨#[98]⟩, .int .i64 2, .slice none 0 0, .slice none 0 0, .string ⟨#[97]⟩, .int .i64 1, .slice (some ⟨w.heap.size + 1, 0, none⟩) 2 2, .slice none 0 0] 34)).alloc (.cells #[.string ⟨#[108]⟩, .string ⟨#[97]⟩, .string ⟨#[98]⟩, .int .i64 5, .int .i64 4] 42)).alloc (.cells #[.string ⟨#[98]⟩, .int .i64 1, .int .i64 0, .string ⟨#[97]⟩, .int .i64 1, .int .i64 0] 48))).heap[w.heap.size + 1 + 1 + 1]? = some (.cells #[.string ⟨#[108]⟩, .string ⟨#[97]⟩, .string ⟨#[98]⟩, .int .i64 5, .int .i64 4] 42 (0, 0)) := by
  rw [heap_old _ _ (by simp only [World.size_alloc]; omega)]
  have h9 := heap_new (((w.alloc (.cells #[.int .i64 3, .slice (some ⟨w.heap.size + 1 + 1, 0, none⟩) 2 2, .slice (some ⟨w.heap.size + 1 + 1 + 1, 0, none⟩) 1 1, .slice (some ⟨w.heap.size + 1 + 1 + 1 + 1, 0, none⟩) 2 2] 26)).alloc (.cells #[.string ⟨#[121]⟩, .int .i64 0, .string ⟨#[120]⟩, .int .i64 0] 40)).alloc (.cells #[.string ⟨#[98]⟩, .int .i64 2, .slice none 0 0, .slice none 0 0, .string ⟨#[97]⟩, .int .i64 1, .slice (some ⟨w.heap.size + 1, 0, none⟩) 2 2, .slice none 0 0] 34)) (.cells #[.string ⟨#[108]⟩, .string ⟨#[97]⟩, .string ⟨#[98]⟩, .int .i64 5, .int .i64 4] 42)
  simp only [World.size_alloc] at h9
  exact h9
 have h4 : ((((((w.alloc (.cells #[.int .i64 3, .slice (some ⟨w.heap.size + 1 + 1, 0, none⟩) 2 2, .slice (some ⟨w.heap.size + 1 + 1 + 1, 0, none⟩) 1 1, .slice (some ⟨w.heap.size + 1 + 1 + 1 + 1, 0, none⟩) 2 2] 26)).alloc (.cells #[.string ⟨#[121]⟩, .int .i64 0, .string ⟨#[120]⟩, .int .i64 0] 40)).alloc (.cells #[.string ⟨#[98]⟩, .int .i64 2, .slice none 0 0, .slice none 0 0, .string ⟨#[97]⟩, .int .i64 1, .slice (some ⟨w.heap.size + 1, 0, none⟩) 2 2, .slice none 0 0] 34)).alloc (.cells #[.string ⟨#[108]⟩, .string ⟨#[97]⟩, .string ⟨#[98]⟩, .int .i64 5, .int .i64 4] 42)).alloc (.cells #[.string ⟨#[98]⟩, .int .i64 1, .int .i64 0, .string ⟨#[97]⟩, .int .i64 1, .int .i64 0] 48))).heap[w.heap.size + 1 + 1 + 1 + 1]? = some (.cells #[.string ⟨#[98]⟩, .int .i64 1, .int .i64 0, .string ⟨#[97]⟩, .int .i64 1, .int .i64 0] 48 (0, 0)) := by
  have h9 := heap_new ((((w.alloc (.cells #[.int .i64 3, .slice (some ⟨w.heap.size + 1 + 1, 0, none⟩) 2 2, .slice (some ⟨w.heap.size + 1 + 1 + 1, 0, none⟩) 1 1, .slice (some ⟨w.heap.size + 1 + 1 + 1 + 1, 0, none⟩) 2 2] 26)).alloc (.cells #[.string ⟨#[121]⟩, .int .i64 0, .string ⟨#[120]⟩, .int .i64 0] 40)).alloc (.cells #[.string ⟨#[98]⟩, .int .i64 2, .slice none 0 0, .slice none 0 0, .string ⟨#[97]⟩, .int .i64 1, .slice (some ⟨w.heap.size + 1, 0, none⟩) 2 2, .slice none 0 0] 34)).alloc (.cells #[.string ⟨#[108]⟩, .string ⟨#[97]⟩, .string ⟨#[98]⟩, .int .i64 5, .int .i64 4] 42)) (.cells #[.string ⟨#[98]⟩, .int .i64 1, .int .i64 0, .string ⟨#[97]⟩, .int .i64 1, .int .i64 0] 48)
  simp only [World.size_alloc] at h9
  exact h9
 have hs : ∀ x : UInt8, (ByteArray.mk #[x]).size ≤ maxLen := fun x => by show 1 ≤ maxLen; decide
 have hk : ∀ q ∈ (smp w.heap.size).ps, q = smpP0 ∨ q = smpP1 w.heap.size := fun q hq => by simpa [smp] using hq
 refine ⟨rfl, ⟨⟨.inr ⟨_, _, rfl, fun j q hj => ?_⟩, fun q hq => ?_, .inr ⟨_, _, rfl, fun j q hj => ?_⟩, .inr ⟨_, _, rfl, fun j q hj => ?_⟩, by simp [smp, maxLen], by simp [smp, maxLen], by simp [smp, maxLen]⟩, ⟨by simp [smp, Sc.I64], fun p hp => ?_, fun l hl => ?_, fun l hl => ?_, by simp [smp], by simp [smp], by simp [smp], by simp [smp], by simp [smp], by simp [smp]⟩, ⟨by simp [smp], by simp [smp], by simp [smp], fun p hp => ?_⟩⟩, (((((Kept.refl Nil w).alloc _).alloc _).alloc _).alloc _).alloc _⟩
 ·match j with
  | 0 => simp [smp] at hj; subst hj; exact ⟨by rw [cell_of h2]; rfl, by rw [cell_of h2]; rfl, by rw [cell_of h2]; rfl, by rw [cell_of h2]; rfl⟩
  | 1 => simp [smp] at hj; subst hj; exact ⟨by rw [cell_of h2]; rfl, by rw [cell_of h2]; rfl, by rw [cell_of h2]; rfl, by rw [cell_of h2]; rfl⟩
  | j + 2 => simp [smp] at hj
 ·rcases hk q hq with rfl | rfl
  ·exact ⟨.inl rfl, .inl rfl, by simp [maxLen, smpP0], by simp [maxLen, smpP0], by simp [smpP0]⟩
  ·refine ⟨.inr ⟨_, _, rfl, fun j v hj => ?_⟩, .inl rfl, by simp [maxLen, smpP1], by simp [maxLen, smpP1], by simp [smpP1]⟩
   match j with
   | 0 => simp [smpP1] at hj; subst hj; exact ⟨by rw [cell_of h1]; rfl, by rw [cell_of h1]; rfl⟩
   | 1 => simp [smpP1] at hj; subst hj; exact ⟨by rw [cell_of h1]; rfl, by rw [cell_of h1]; rfl⟩
   | j + 2 => simp [smpP1] at hj
 ·match j with
  | 0 => simp [smp] at hj; subst hj; exact ⟨by rw [cell_of h3]; rfl, by rw [cell_of h3]; rfl, by rw [cell_of h3]; rfl, by rw [cell_of h3]; rfl, by rw [cell_of h3]; rfl⟩
  | j + 1 => simp [smp] at hj
 ·match j with
  | 0 => simp [smp] at hj; subst hj; exact ⟨by rw [cell_of h4]; rfl, by rw [cell_of h4]; rfl, by rw [cell_of h4]; rfl⟩
  | 1 => simp [smp] at hj; subst hj; exact ⟨by rw [cell_of h4]; rfl, by rw [cell_of h4]; rfl, by rw [cell_of h4]; rfl⟩
  | j + 2 => simp [smp] at hj
 ·rcases hk p hp with rfl | rfl
  ·exact ⟨hs 98, by simp [Sc.I64, smpP0], by simp [smpP0], by simp [smpP0], by simp [smpP0], by simp [smpP0], by simp [smpP0], by simp [smpP0]⟩
  ·refine ⟨hs 97, by simp [Sc.I64, smpP1], fun v hv => ?_, by simp [smpP1], by simp [smpP1], by simp [smpP1], by simp [smpP1], by simp [smpP1]⟩
   simp [smpP1] at hv
   rcases hv with rfl | rfl
   ·exact ⟨hs 121, by simp [Sc.I64]⟩
   ·exact ⟨hs 120, by simp [Sc.I64]⟩
 ·simp [smp] at hl; subst hl; exact ⟨hs 108, hs 97, hs 98, by simp [Sc.I64], by simp [Sc.I64]⟩
 ·simp [smp] at hl
  rcases hl with rfl | rfl
  ·exact ⟨hs 98, by simp [Sc.I64], by simp [Sc.I64]⟩
  ·exact ⟨hs 97, by simp [Sc.I64], by simp [Sc.I64]⟩
 ·rcases hk p hp with rfl | rfl <;> simp [smpP0, smpP1]
theorem smp_ps (b : Nat) : (canM (smp b)).ps = [⟨⟨#[97]⟩, 1, some ⟨b + 1, 0, none⟩, [⟨⟨#[120]⟩, 0⟩, ⟨⟨#[121]⟩, 0⟩], 2, none, [], 0⟩, smpP0] := by
 unfold canM
 simp only
 rw [← insAll_sorted plt_swo]
 have h1 : insAll plt (smp b).ps = [smpP1 b, smpP0] := by kernel_rfl
 rw [h1]
 have h2 : sortedBy vlt (smpP1 b).vs = [⟨⟨#[120]⟩, 0⟩, ⟨⟨#[121]⟩, 0⟩] := by
  rw [← insAll_sorted vlt_swo]
  kernel_rfl
 have h3 : sortedBy vlt smpP0.vs = [] := by
  rw [← insAll_sorted vlt_swo]
  kernel_rfl
 simp only [List.map_cons, List.map_nil, canP, h2, h3]
 rfl
theorem smp_es (b : Nat) : (canM (smp b)).es = [⟨⟨#[97]⟩, 1, 0⟩, ⟨⟨#[98]⟩, 1, 0⟩] := by
 unfold canM
 simp only
 rw [← insAll_sorted elt_swo]
 kernel_rfl
theorem smp_check (b : Nat) : (mdCheck (smp b)).1 = 0 := by kernel_rfl
theorem smp_gst (b : Nat) : gst (smp b) 1 = [[(1, 4)], [(0, 4)]] := by kernel_rfl
theorem smp_gst0 (b : Nat) : gst (smp b) 0 = [[], []] := by kernel_rfl
theorem smp_same (a b : Nat) : SameM (smp a) (smp b) := ⟨rfl, ⟨rfl, fun j p q h1 h2 => by
 match j with
 | 0 => simp [smp] at h1 h2; subst h1; subst h2; exact SameP.rfl' _
 | 1 => simp [smp] at h1 h2; subst h1; subst h2; exact ⟨rfl, rfl, rfl, rfl⟩
 | j + 2 => simp [smp] at h1⟩, rfl, rfl⟩
theorem smp_not (b : Nat) {c : Md} (h : SameM (canM (smp b)) c) : eqM (smp b) c = false := eqM_no (fun hs => by
 have h1 := hs.trans h.symm
 have h2 := h1.p.p 0 smpP0 _ rfl (by rw [smp_ps]; rfl)
 have h3 := congrArg ByteArray.toList h2.n
 simp [smpP0] at h3
 try exact absurd h3 (by decide))
end Go.Proofs.YtniocgnfgpaioaaGreat.Mo
end
end
