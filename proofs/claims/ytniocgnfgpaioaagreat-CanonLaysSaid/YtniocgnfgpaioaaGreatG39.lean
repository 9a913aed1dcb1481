/- The walk of sandtableref16.Canon. -/
import Derived.Test.YtniocgnfgpaioaaGreatG38
import Derived.Deep.Cut
import Derived.Deep.CutRange
import Derived.Deep.RegionWith
import Derived.StillTailTactics
import Derived.Deep.RegionHeld3
set_option linter.unusedVariables false
set_option linter.unusedSimpArgs false
namespace Go.Proofs.YtniocgnfgpaioaaGreat.Mo
open Go Go.RowKit Go.Proofs.YtniocgnfgpaioaaGreat.Lb Go.Proofs.YtniocgnfgpaioaaGreat.HpPure
set_option maxRecDepth 8000
structure RefCanEnd (m : Md) (w : World) (e : Ending) (w' : World) : Prop where
 k : Kept Nil w w'
 ok : ∃ m' : Md, e = .returned (.agg #[.int .i64 m'.version, .slice m'.pa m'.ps.length m'.pc, .slice m'.la m'.ls.length m'.lc, .slice m'.ea m'.es.length m'.ec]) ∧ HeldM w' m' ∧ SameM (canM m) m'
theorem putV_is (l us : List V) (hu : sortedBy vlt l = us) (A0 : Option Addr) (c0 : Nat) (w : World) (hr : RVars w A0 l) (hn : l.length ≤ 100000) :
  Calls Tryz.prog 42 #[.slice A0 l.length c0] w fun e w' => ∃ v, e = .returned v ∧ w'.ownsRow w.heap.size 40 2 v us.length (us.flatMap vrCells) ∧ Kept Nil w w' := by
 have h := insV_is l A0 c0 w hr.rowOf hn
 rw [insAll_sorted vlt_swo, hu] at h
 have hl : l.length = us.length := by rw [← hu, sortedBy_length]
 rw [hl] at h ⊢
 exact h
theorem putP_is (l us : List Pr) (hu : sortedBy plt l = us) (A0 : Option Addr) (c0 : Nat) (w : World) (hr : RProcs w A0 l) (hn : l.length ≤ 100000) :
  Calls Tryz.prog 39 #[.slice A0 l.length c0] w fun e w' => ∃ v, e = .returned v ∧ w'.ownsRow w.heap.size 34 4 v us.length (us.flatMap prCells) ∧ Kept Nil w w' := by
 have h := insP_is l A0 c0 w hr.rowOf hn
 rw [insAll_sorted plt_swo, hu] at h
 have hl : l.length = us.length := by rw [← hu, sortedBy_length]
 rw [hl] at h ⊢
 exact h
theorem putL_is (l us : List Lk) (hu : sortedBy llt l = us) (A0 : Option Addr) (c0 : Nat) (w : World) (hr : RLinks w A0 l) (hn : l.length ≤ 100000) :
  Calls Tryz.prog 40 #[.slice A0 l.length c0] w fun e w' => ∃ v, e = .returned v ∧ w'.ownsRow w.heap.size 42 5 v us.length (us.flatMap lkCells) ∧ Kept Nil w w' := by
 have h := insL_is l A0 c0 w hr.rowOf hn
 rw [insAll_sorted llt_swo, hu] at h
 have hl : l.length = us.length := by rw [← hu, sortedBy_length]
 rw [hl] at h ⊢
 exact h
theorem putE_is (l us : List Ev) (hu : sortedBy elt l = us) (A0 : Option Addr) (c0 : Nat) (w : World) (hr : REvents w A0 l) (hn : l.length ≤ 100000) :
  Calls Tryz.prog 41 #[.slice A0 l.length c0] w fun e w' => ∃ v, e = .returned v ∧ w'.ownsRow w.heap.size 48 3 v us.length (us.flatMap evCells) ∧ Kept Nil w w' := by
 have h := insE_is l A0 c0 w hr.rowOf hn
 rw [insAll_sorted elt_swo, hu] at h
 have hl : l.length = us.length := by rw [← hu, sortedBy_length]
 rw [hl] at h ⊢
 exact h
/-- Processes, of which the first k are laid down; block g is theirs. -/
structure CanAt (K : Nat → Prop) (w : World) (k : Nat) (xs qs : List Pr) : Prop where
 l : qs.length = xs.length
 e : ∀ j, k ≤ j → qs[j]? = xs[j]?
 d : ∀ (j : Nat) (p q : Pr), j < k → xs[j]? = some p → qs[j]? = some q → SameP (canP p) q
 r : ∀ q ∈ qs, RProc w q ∧ OkP q ∧ OutP K q
theorem CanAt.start {K : Nat → Prop} {w : World} {xs : List Pr} (h : ∀ q ∈ xs, RProc w q ∧ OkP q ∧ OutP K q) : CanAt K w 0 xs xs := ⟨rfl, fun _ _ => rfl, fun j p q hj => by omega, h⟩
theorem CanAt.next {K S : Nat → Prop} {k : Nat} {w w' : World} {xs qs : List Pr} {p p' : Pr} (h : CanAt K w k xs qs) (hk : Kept S w w') (hS : ∀ i, S i → K i) (hp : xs[k]? = some p) (hs : SameP (canP p) p') (hr : RProc w' p') (ho : OkP p') (hx : OutP K p') : CanAt K w' (k + 1) xs (qs.set k p') := by
 have hkl := (List.getElem?_eq_some_iff.1 hp).1
 have hkq : k < qs.length := by rw [h.l]; exact hkl
 refine ⟨by rw [List.length_set]; exact h.l, fun j hj => by rw [List.getElem?_set_ne (by omega)]; exact h.e j (by omega), fun j a b hj ha hb => ?_, fun q hq => ?_⟩
 ·by_cases e : k = j
  ·subst e
   rw [List.getElem?_set_self hkq] at hb
   rw [hp] at ha; cases ha; cases hb; exact hs
  ·rw [List.getElem?_set_ne e] at hb
   exact h.d j a b (by omega) ha hb
 ·rcases List.mem_or_eq_of_mem_set hq with h1 | h1
  ·obtain ⟨a, b, c⟩ := h.r q h1
   exact ⟨a.kept hk (fun g off hn e hh => c.v g off hn e (hS g hh)) (fun g off hn e hh => c.s g off hn e (hS g hh)), b, c⟩
  ·rw [h1]; exact ⟨hr, ho, hx⟩
theorem CanAt.same {K : Nat → Prop} {w : World} {xs qs : List Pr} {k : Nat} (h : CanAt K w k xs qs) (hk : xs.length ≤ k) : SamePs (xs.map canP) qs := by
 refine ⟨by rw [List.length_map, h.l], fun j a b ha hb => ?_⟩
 rw [List.getElem?_map, Option.map_eq_some_iff] at ha
 obtain ⟨p, hp, rfl⟩ := ha
 exact h.d j p b (by have := (List.getElem?_eq_some_iff.1 hp).1; omega) hp hb
set_option maxHeartbeats 16000000 in
theorem RefCanon_is (ver : Int) (ps : List Pr) (ls : List Lk) (es : List Ev) (pa la ea : Option Addr) (pc lc ec : Nat) (w : World) (hm : HeldM w ⟨ver, pa, ps, pc, la, ls, lc, ea, es, ec⟩) :
  Calls Tryz.prog 13 #[.agg #[.int .i64 ver, .slice pa ps.length pc, .slice la ls.length lc, .slice ea es.length ec]] w fun e w' => RefCanEnd ⟨ver, pa, ps, pc, la, ls, lc, ea, es, ec⟩ w e w' := by
 have HM := Lib.hid hm
 have hpl : ps.length ≤ 100000 := hm.s.p
 have hll : ls.length ≤ 100000 := hm.s.l
 have hel : es.length ≤ 100000 := hm.s.e
 clear hm
 obtain ⟨xs, hxs⟩ : ∃ xs, sortedBy plt ps = xs := ⟨_, rfl⟩
 obtain ⟨ys, hys⟩ : ∃ ys, sortedBy llt ls = ys := ⟨_, rfl⟩
 obtain ⟨zs, hzs⟩ : ∃ zs, sortedBy elt es = zs := ⟨_, rfl⟩
 have hxl : xs.length = ps.length := by rw [← hxs, sortedBy_length]
 have hyl : ys.length ≤ 100000 := by rw [← hys, sortedBy_length]; exact hll
 have hzl : zs.length ≤ 100000 := by rw [← hzs, sortedBy_length]; exact hel
 have hxmem : ∀ q, q ∈ xs → q ∈ ps := fun q hq => by rw [← hxs] at hq; exact (sortedBy_perm plt ps).mem_iff.1 hq
 have hxn : xs.length ≤ 100000 := by omega
 have HXS := Lib.hid hxs
 have HYS := Lib.hid hys
 have HZS := Lib.hid hzs
 have HXM := Lib.hid hxmem
 clear hxs hys hzs hxmem hxl
 obtain ⟨W1, hW⟩ : ∃ W, ((w.alloc (.cells #[.int .i64 ver, .slice pa ps.length pc, .slice la ls.length lc, .slice ea es.length ec] 26)).alloc (.cells #[.int .i64 0, .slice none 0 0, .slice none 0 0, .slice none 0 0] 26)) = W := ⟨_, rfl⟩
 have hk : Kept Nil w W1 := by rw [← hW]; exact (((Kept.refl Nil w).alloc _).alloc _)
 have hsz : W1.heap.size = w.heap.size + 2 := by rw [← hW]; simp
 have hb : W1.heap[w.heap.size]? = some (.cells #[.int .i64 ver, .slice pa ps.length pc, .slice la ls.length lc, .slice ea es.length ec] 26 (0, 0)) := by
  rw [← hW]
  rw [heap_old _ _ (by simp only [World.size_alloc]; omega)]
  have h9 := heap_new w (.cells #[.int .i64 ver, .slice pa ps.length pc, .slice la ls.length lc, .slice ea es.length ec] 26)
  exact h9
 have G0 := Lib.hid (show W1.cell? ⟨w.heap.size, 0, none⟩ = some (.int .i64 ver) by rw [cell_of hb]; rfl)
 have G1 := Lib.hid (show W1.cell? ⟨w.heap.size, 1, none⟩ = some (.slice pa ps.length pc) by rw [cell_of hb]; rfl)
 have G2 := Lib.hid (show W1.cell? ⟨w.heap.size, 2, none⟩ = some (.slice la ls.length lc) by rw [cell_of hb]; rfl)
 have G3 := Lib.hid (show W1.cell? ⟨w.heap.size, 3, none⟩ = some (.slice ea es.length ec) by rw [cell_of hb]; rfl)
 have GB := Lib.hid hb
 have hzg : w.heap.size < W1.heap.size := by omega
 clear hb
 have hb : W1.heap[w.heap.size + 1]? = some (.cells #[.int .i64 0, .slice none 0 0, .slice none 0 0, .slice none 0 0] 26 (0, 0)) := by
  rw [← hW]
  have h9 := heap_new (w.alloc (.cells #[.int .i64 ver, .slice pa ps.length pc, .slice la ls.length lc, .slice ea es.length ec] 26)) (.cells #[.int .i64 0, .slice none 0 0, .slice none 0 0, .slice none 0 0] 26)
  simp only [World.size_alloc] at h9
  exact h9
 have Q0 := Lib.hid (show W1.cell? ⟨w.heap.size + 1, 0, none⟩ = some (.int .i64 0) by rw [cell_of hb]; rfl)
 have Q1 := Lib.hid (show W1.cell? ⟨w.heap.size + 1, 1, none⟩ = some (.slice none 0 0) by rw [cell_of hb]; rfl)
 have Q2 := Lib.hid (show W1.cell? ⟨w.heap.size + 1, 2, none⟩ = some (.slice none 0 0) by rw [cell_of hb]; rfl)
 have Q3 := Lib.hid (show W1.cell? ⟨w.heap.size + 1, 3, none⟩ = some (.slice none 0 0) by rw [cell_of hb]; rfl)
 have QB := Lib.hid hb
 have hzq : w.heap.size + 1 < W1.heap.size := by omega
 clear hb
 have HW := Lib.hid hW
 have HK := Lib.hid hk
 have HSZ := Lib.hid hsz
 clear hW hk hsz
 go_enter Tryz.func13, Tryz.ntmps13
 go_upto_region 1 with fail
 rw [HW.out]
 have g0 := G0.out
 have g1 := G1.out
 have g2 := G2.out
 have g3 := G3.out
 go_cut [3] from 5 to 17 (fun x wx => ∃ b A c B d E f, x = .pointer (some ⟨b, 0, none⟩) ∧ W1.heap.size ≤ b ∧ wx.heap[b]? = some (.cells #[.int .i64 ver, .slice A xs.length c, .slice B ys.length d, .slice E zs.length f] 26 (0, 0)) ∧ NewRow W1.heap.size wx A 34 4 prCells xs ∧ NewRow W1.heap.size wx B 42 5 lkCells ys ∧ NewRow W1.heap.size wx E 48 3 evCells zs ∧ (A = none → c = 0) ∧ (B = none → d = 0) ∧ (E = none → f = 0) ∧ xs.length ≤ c ∧ ys.length ≤ d ∧ zs.length ≤ f ∧ Kept Nil W1 wx)
 case first =>
  skip
  have C9_0 := Lib.hid (show W1.cell? ⟨w.heap.size, 0, none⟩ = some (.int .i64 ver) from G0.out)
  have C9_1 := Lib.hid (show W1.cell? ⟨w.heap.size, 1, none⟩ = some (.slice pa ps.length pc) from G1.out)
  have C9_2 := Lib.hid (show W1.cell? ⟨w.heap.size, 2, none⟩ = some (.slice la ls.length lc) from G2.out)
  have C9_3 := Lib.hid (show W1.cell? ⟨w.heap.size, 3, none⟩ = some (.slice ea es.length ec) from G3.out)
  refine wp_region_held_drew (S := fun w' => w'.cell? ⟨w.heap.size, 0, none⟩ = some (.int .i64 ver) ∧ w'.cell? ⟨w.heap.size, 1, none⟩ = some (.slice pa ps.length pc) ∧ w'.cell? ⟨w.heap.size, 2, none⟩ = some (.slice la ls.length lc) ∧ w'.cell? ⟨w.heap.size, 3, none⟩ = some (.slice ea es.length ec)) (by kernel_rfl) ⟨C9_0.out, C9_1.out, C9_2.out, C9_3.out⟩ (fun hHeld => ?_)
  refine wpAnyH_take (i := 0) (oi := _) (v := ?_) (List.getElem?_toArray.trans rfl) (by kernel_rfl) (by kernel_rfl) (by kernel_rfl) (fun _ _ _ h => h) (Or.inl ⟨by rfl, ?_⟩) (by assumption) ?_
  rotate_left
  ·(intro w9 hSw; (try dsimp only at hSw); go_simp; try with_reducible rfl)
  try simp only [Act.put, List.setIfInBounds_toArray, List.set_cons_zero, List.set_cons_succ]
  refine wpAnyH_take (i := 1) (oi := _) (v := ?_) (List.getElem?_toArray.trans rfl) (by kernel_rfl) (by kernel_rfl) (by kernel_rfl) (fun _ _ _ h => h) (Or.inl ⟨by rfl, ?_⟩) (by assumption) ?_
  rotate_left
  ·(intro w9 hSw; (try dsimp only at hSw); go_simp; try with_reducible rfl)
  try simp only [Act.put, List.setIfInBounds_toArray, List.set_cons_zero, List.set_cons_succ]
  refine wpAnyH_take (i := 2) (oi := _) (v := ?_) (List.getElem?_toArray.trans rfl) (by kernel_rfl) (by kernel_rfl) (by kernel_rfl) (fun _ _ _ h => h) (Or.inl ⟨by rfl, ?_⟩) (by assumption) ?_
  rotate_left
  ·(intro w9 hSw; (try dsimp only at hSw); go_simp; try with_reducible rfl)
  try simp only [Act.put, List.setIfInBounds_toArray, List.set_cons_zero, List.set_cons_succ]
  refine wpAnyH_take (i := 3) (oi := _) (v := ?_) (List.getElem?_toArray.trans rfl) (by kernel_rfl) (by kernel_rfl) (by kernel_rfl) (fun _ _ _ h => h) (Or.inl ⟨by rfl, ?_⟩) (by assumption) ?_
  rotate_left
  ·(intro w9 hSw; (try dsimp only at hSw); go_simp; try with_reducible rfl)
  try simp only [Act.put, List.setIfInBounds_toArray, List.set_cons_zero, List.set_cons_succ]
  refine wpAnyH_take (i := 5) (oi := _) (v := ?_) (List.getElem?_toArray.trans rfl) (by kernel_rfl) (by kernel_rfl) (by kernel_rfl) (fun _ _ _ h => h) (Or.inl ⟨by rfl, ?_⟩) (by assumption) ?_
  rotate_left
  ·(intro w9 hSw; (try dsimp only at hSw); go_simp; try with_reducible rfl)
  try simp only [Act.put, List.setIfInBounds_toArray, List.set_cons_zero, List.set_cons_succ]
  refine wpAnyH_take (i := 6) (oi := _) (v := ?_) (List.getElem?_toArray.trans rfl) (by kernel_rfl) (by kernel_rfl) (by kernel_rfl) (fun _ _ _ h => h) (Or.inl ⟨by rfl, ?_⟩) (by assumption) ?_
  rotate_left
  ·(intro w9 hSw; (try dsimp only at hSw); go_simp; try with_reducible rfl)
  try simp only [Act.put, List.setIfInBounds_toArray, List.set_cons_zero, List.set_cons_succ]
  refine wpAnyH_take (i := 8) (oi := _) (v := ?_) (List.getElem?_toArray.trans rfl) (by kernel_rfl) (by kernel_rfl) (by kernel_rfl) (fun _ _ _ h => h) (Or.inl ⟨by rfl, ?_⟩) (by assumption) ?_
  rotate_left
  ·(intro w9 hSw; (try dsimp only at hSw); go_simp; try with_reducible rfl)
  try simp only [Act.put, List.setIfInBounds_toArray, List.set_cons_zero, List.set_cons_succ]
  refine wpAnyH_take (i := 9) (oi := _) (v := ?_) (List.getElem?_toArray.trans rfl) (by kernel_rfl) (by kernel_rfl) (by kernel_rfl) (fun _ _ _ h => h) (Or.inl ⟨by rfl, ?_⟩) (by assumption) ?_
  rotate_left
  ·(intro w9 hSw; (try dsimp only at hSw); go_simp; try with_reducible rfl)
  try simp only [Act.put, List.setIfInBounds_toArray, List.set_cons_zero, List.set_cons_succ]
  refine wpAnyH_ready (rs := [4, 12]) (by kernel_rfl) (by simp) ?_
  refine AllReadyH.cons (o := _) (List.getElem?_toArray.trans rfl) (fun K hK => ?_) (AllReadyH.cons (o := _) (List.getElem?_toArray.trans rfl) (fun K hK => ?_) (AllReadyH.nil))
  ·skip
   go_simp
   refine (putP_is ps xs HXS.out pa pc _ ?_ hpl).mono ?_
   ·exact (HM.out.nil (HK.out.step (by repeat (first | exact kzr _ _ | assumption | refine kzd ?_ | refine kzn ?_ _ | refine kza ?_ _ | refine kzs ?_ (by assumption))))).r.p
   rintro e w2 ⟨v2, rfl, hO2, hk2⟩
   have hkW2 : Kept Nil W1 w2 := (by repeat (first | exact kzr _ _ | assumption | refine kzd ?_ | refine kzn ?_ _ | refine kza ?_ _ | refine kzs ?_ (by assumption)))
   have HKW2 := Lib.hid hkW2
   have hzW2 := hkW2.size
   have hzz2 := hk2.size
   try simp only [World.size_alloc, World.size_drew] at hzz2
   clear hkW2
   have HO2 := Lib.hid (own_lower hO2 (base' := W1.heap.size) (fun i e => by have h9 := (hO2.lt i e).1; (try simp only [World.size_alloc, World.size_drew] at h9); omega))
   obtain ⟨A2, c2, rfl⟩ := own_slice hO2
   clear hO2
   try go_wp2_with fail
   refine hK.out _ _ ⟨(((show Kept Nil W1 _ from (by repeat (first | exact kzr _ _ | assumption | refine kzd ?_ | refine kzn ?_ _ | refine kza ?_ _ | refine kzs ?_ (by assumption))))).cell C9_0.out (fun h => h)), (((show Kept Nil W1 _ from (by repeat (first | exact kzr _ _ | assumption | refine kzd ?_ | refine kzn ?_ _ | refine kza ?_ _ | refine kzs ?_ (by assumption))))).cell C9_1.out (fun h => h)), (((show Kept Nil W1 _ from (by repeat (first | exact kzr _ _ | assumption | refine kzd ?_ | refine kzn ?_ _ | refine kza ?_ _ | refine kzs ?_ (by assumption))))).cell C9_2.out (fun h => h)), (((show Kept Nil W1 _ from (by repeat (first | exact kzr _ _ | assumption | refine kzd ?_ | refine kzn ?_ _ | refine kza ?_ _ | refine kzs ?_ (by assumption))))).cell C9_3.out (fun h => h))⟩ (fun hHeld => ?_)
   clear hK K
   try simp only [Act.put, List.setIfInBounds_toArray, List.set_cons_zero, List.set_cons_succ]
   refine wpAnyH_ready (rs := [7, 12]) (by kernel_rfl) (by simp) ?_
   refine AllReadyH.cons (o := _) (List.getElem?_toArray.trans rfl) (fun K hK => ?_) (AllReadyH.cons (o := _) (List.getElem?_toArray.trans rfl) (fun K hK => ?_) (AllReadyH.nil))
   ·skip
    go_simp
    refine (putL_is ls ys HYS.out la lc _ ?_ hll).mono ?_
    ·exact (HM.out.nil (HK.out.step (by repeat (first | exact kzr _ _ | assumption | refine kzd ?_ | refine kzn ?_ _ | refine kza ?_ _ | refine kzs ?_ (by assumption))))).r.l
    rintro e w3 ⟨v3, rfl, hO3, hk3⟩
    have hkW3 : Kept Nil W1 w3 := (by repeat (first | exact kzr _ _ | assumption | refine kzd ?_ | refine kzn ?_ _ | refine kza ?_ _ | refine kzs ?_ (by assumption)))
    have HKW3 := Lib.hid hkW3
    have hzW3 := hkW3.size
    have hzz3 := hk3.size
    try simp only [World.size_alloc, World.size_drew] at hzz3
    clear hkW3
    have HO3 := Lib.hid (own_lower hO3 (base' := W1.heap.size) (fun i e => by have h9 := (hO3.lt i e).1; (try simp only [World.size_alloc, World.size_drew] at h9); omega))
    obtain ⟨A3, c3, rfl⟩ := own_slice hO3
    clear hO3
    try go_wp2_with fail
    refine hK.out _ _ ⟨(((show Kept Nil W1 _ from (by repeat (first | exact kzr _ _ | assumption | refine kzd ?_ | refine kzn ?_ _ | refine kza ?_ _ | refine kzs ?_ (by assumption))))).cell C9_0.out (fun h => h)), (((show Kept Nil W1 _ from (by repeat (first | exact kzr _ _ | assumption | refine kzd ?_ | refine kzn ?_ _ | refine kza ?_ _ | refine kzs ?_ (by assumption))))).cell C9_1.out (fun h => h)), (((show Kept Nil W1 _ from (by repeat (first | exact kzr _ _ | assumption | refine kzd ?_ | refine kzn ?_ _ | refine kza ?_ _ | refine kzs ?_ (by assumption))))).cell C9_2.out (fun h => h)), (((show Kept Nil W1 _ from (by repeat (first | exact kzr _ _ | assumption | refine kzd ?_ | refine kzn ?_ _ | refine kza ?_ _ | refine kzs ?_ (by assumption))))).cell C9_3.out (fun h => h))⟩ (fun hHeld => ?_)
    clear hK K
    try simp only [Act.put, List.setIfInBounds_toArray, List.set_cons_zero, List.set_cons_succ]
    refine wpAnyH_ready (rs := [10, 12]) (by kernel_rfl) (by simp) ?_
    refine AllReadyH.cons (o := _) (List.getElem?_toArray.trans rfl) (fun K hK => ?_) (AllReadyH.cons (o := _) (List.getElem?_toArray.trans rfl) (fun K hK => ?_) (AllReadyH.nil))
    ·skip
     go_simp
     refine (putE_is es zs HZS.out ea ec _ ?_ hel).mono ?_
     ·exact (HM.out.nil (HK.out.step (by repeat (first | exact kzr _ _ | assumption | refine kzd ?_ | refine kzn ?_ _ | refine kza ?_ _ | refine kzs ?_ (by assumption))))).r.e
     rintro e w4 ⟨v4, rfl, hO4, hk4⟩
     have hkW4 : Kept Nil W1 w4 := (by repeat (first | exact kzr _ _ | assumption | refine kzd ?_ | refine kzn ?_ _ | refine kza ?_ _ | refine kzs ?_ (by assumption)))
     have HKW4 := Lib.hid hkW4
     have hzW4 := hkW4.size
     have hzz4 := hk4.size
     try simp only [World.size_alloc, World.size_drew] at hzz4
     clear hkW4
     have HO4 := Lib.hid (own_lower hO4 (base' := W1.heap.size) (fun i e => by have h9 := (hO4.lt i e).1; (try simp only [World.size_alloc, World.size_drew] at h9); omega))
     obtain ⟨A4, c4, rfl⟩ := own_slice hO4
     clear hO4
     try go_wp2_with fail
     refine hK.out _ _ ⟨(((show Kept Nil W1 _ from (by repeat (first | exact kzr _ _ | assumption | refine kzd ?_ | refine kzn ?_ _ | refine kza ?_ _ | refine kzs ?_ (by assumption))))).cell C9_0.out (fun h => h)), (((show Kept Nil W1 _ from (by repeat (first | exact kzr _ _ | assumption | refine kzd ?_ | refine kzn ?_ _ | refine kza ?_ _ | refine kzs ?_ (by assumption))))).cell C9_1.out (fun h => h)), (((show Kept Nil W1 _ from (by repeat (first | exact kzr _ _ | assumption | refine kzd ?_ | refine kzn ?_ _ | refine kza ?_ _ | refine kzs ?_ (by assumption))))).cell C9_2.out (fun h => h)), (((show Kept Nil W1 _ from (by repeat (first | exact kzr _ _ | assumption | refine kzd ?_ | refine kzn ?_ _ | refine kza ?_ _ | refine kzs ?_ (by assumption))))).cell C9_3.out (fun h => h))⟩ (fun hHeld => ?_)
     clear hK K
     try simp only [Act.put, List.setIfInBounds_toArray, List.set_cons_zero, List.set_cons_succ]
     refine wpAnyH_take (i := 11) (oi := _) (v := ?_) (List.getElem?_toArray.trans rfl) (by kernel_rfl) (by kernel_rfl) (by kernel_rfl) (fun _ _ _ h => h) (Or.inl ⟨by rfl, ?_⟩) (by assumption) ?_
     rotate_left
     ·(intro w9 hSw; (try dsimp only at hSw); go_simp; try with_reducible rfl)
     try simp only [Act.put, List.setIfInBounds_toArray, List.set_cons_zero, List.set_cons_succ]
     refine wpAnyH_ready (rs := [12]) (by kernel_rfl) (by simp) ?_
     refine AllReadyH.cons (o := _) (List.getElem?_toArray.trans rfl) (fun K hK => ?_) (AllReadyH.nil)
     ·skip
      go_simp
      refine hK.out _ _ ⟨(((show Kept Nil W1 _ from (by repeat (first | exact kzr _ _ | assumption | refine kzd ?_ | refine kzn ?_ _ | refine kza ?_ _ | refine kzs ?_ (by assumption))))).cell C9_0.out (fun h => h)), (((show Kept Nil W1 _ from (by repeat (first | exact kzr _ _ | assumption | refine kzd ?_ | refine kzn ?_ _ | refine kza ?_ _ | refine kzs ?_ (by assumption))))).cell C9_1.out (fun h => h)), (((show Kept Nil W1 _ from (by repeat (first | exact kzr _ _ | assumption | refine kzd ?_ | refine kzn ?_ _ | refine kza ?_ _ | refine kzs ?_ (by assumption))))).cell C9_2.out (fun h => h)), (((show Kept Nil W1 _ from (by repeat (first | exact kzr _ _ | assumption | refine kzd ?_ | refine kzn ?_ _ | refine kza ?_ _ | refine kzs ?_ (by assumption))))).cell C9_3.out (fun h => h))⟩ (fun hHeld => ?_)
      clear hK K
      try simp only [Act.put, List.setIfInBounds_toArray, List.set_cons_zero, List.set_cons_succ]
      refine wpAnyH_ready (rs := [13]) (by kernel_rfl) (by simp) ?_
      refine AllReadyH.cons (o := _) (List.getElem?_toArray.trans rfl) (fun K hK => ?_) (AllReadyH.nil)
      go_simp
      refine hK.out _ _ ⟨(((show Kept Nil W1 _ from (by repeat (first | exact kzr _ _ | assumption | refine kzd ?_ | refine kzn ?_ _ | refine kza ?_ _ | refine kzs ?_ (by assumption))))).cell C9_0.out (fun h => h)), (((show Kept Nil W1 _ from (by repeat (first | exact kzr _ _ | assumption | refine kzd ?_ | refine kzn ?_ _ | refine kza ?_ _ | refine kzs ?_ (by assumption))))).cell C9_1.out (fun h => h)), (((show Kept Nil W1 _ from (by repeat (first | exact kzr _ _ | assumption | refine kzd ?_ | refine kzn ?_ _ | refine kza ?_ _ | refine kzs ?_ (by assumption))))).cell C9_2.out (fun h => h)), (((show Kept Nil W1 _ from (by repeat (first | exact kzr _ _ | assumption | refine kzd ?_ | refine kzn ?_ _ | refine kza ?_ _ | refine kzs ?_ (by assumption))))).cell C9_3.out (fun h => h))⟩ (fun hHeld => ?_)
      clear hK K
      try simp only [Act.put, List.setIfInBounds_toArray, List.set_cons_zero, List.set_cons_succ]
      refine wpAnyH_done (by kernel_rfl) ?_ _
      try go_wp2_with fail
      go_meet
      exact ⟨w4.heap.size, A2, c2, A3, c3, A4, c4, rfl, by omega, heap_new w4 _, ((newRow_of_own (((Kept.refl Nil w4).alloc _).own ((hk3.step hk4).own HO2.out (fun _ _ h => h)) (fun _ _ h => h)) prCells_len (by decide)).lower (by omega)), ((newRow_of_own (((Kept.refl Nil w4).alloc _).own (hk4.own HO3.out (fun _ _ h => h)) (fun _ _ h => h)) lkCells_len (by decide)).lower (by omega)), ((newRow_of_own (((Kept.refl Nil w4).alloc _).own HO4.out (fun _ _ h => h)) evCells_len (by decide)).lower (by omega)), cap_of_own HO2.out, cap_of_own HO3.out, cap_of_own HO4.out, le_of_own HO2.out, le_of_own HO3.out, le_of_own HO4.out, (HKW4.out.alloc _)⟩
    ·skip
     go_simp
     refine hK.out _ _ ⟨(((show Kept Nil W1 _ from (by repeat (first | exact kzr _ _ | assumption | refine kzd ?_ | refine kzn ?_ _ | refine kza ?_ _ | refine kzs ?_ (by assumption))))).cell C9_0.out (fun h => h)), (((show Kept Nil W1 _ from (by repeat (first | exact kzr _ _ | assumption | refine kzd ?_ | refine kzn ?_ _ | refine kza ?_ _ | refine kzs ?_ (by assumption))))).cell C9_1.out (fun h => h)), (((show Kept Nil W1 _ from (by repeat (first | exact kzr _ _ | assumption | refine kzd ?_ | refine kzn ?_ _ | refine kza ?_ _ | refine kzs ?_ (by assumption))))).cell C9_2.out (fun h => h)), (((show Kept Nil W1 _ from (by repeat (first | exact kzr _ _ | assumption | refine kzd ?_ | refine kzn ?_ _ | refine kza ?_ _ | refine kzs ?_ (by assumption))))).cell C9_3.out (fun h => h))⟩ (fun hHeld => ?_)
     clear hK K
     try simp only [Act.put, List.setIfInBounds_toArray, List.set_cons_zero, List.set_cons_succ]
     refine wpAnyH_ready (rs := [10]) (by kernel_rfl) (by simp) ?_
     refine AllReadyH.cons (o := _) (List.getElem?_toArray.trans rfl) (fun K hK => ?_) (AllReadyH.nil)
     ·skip
      go_simp
      refine (putE_is es zs HZS.out ea ec _ ?_ hel).mono ?_
      ·exact (HM.out.nil (HK.out.step (by repeat (first | exact kzr _ _ | assumption | refine kzd ?_ | refine kzn ?_ _ | refine kza ?_ _ | refine kzs ?_ (by assumption))))).r.e
      rintro e w4 ⟨v4, rfl, hO4, hk4⟩
      have hkW4 : Kept Nil W1 w4 := (by repeat (first | exact kzr _ _ | assumption | refine kzd ?_ | refine kzn ?_ _ | refine kza ?_ _ | refine kzs ?_ (by assumption)))
      have HKW4 := Lib.hid hkW4
      have hzW4 := hkW4.size
      have hzz4 := hk4.size
      try simp only [World.size_alloc, World.size_drew] at hzz4
      clear hkW4
      have hab : w4.heap[w3.heap.size]? = some (.cells #[.int .i64 0, .slice none 0 0, .slice none 0 0, .slice none 0 0] 26 (0, 0)) := hk4.heap (heap_new _ _) (fun h => h)
      have HAB := Lib.hid hab
      have hzB4 := (Array.getElem?_eq_some_iff.1 hab).1
      clear hab
      have HO4 := Lib.hid (own_lower hO4 (base' := w3.heap.size + 1) (fun i e => by have h9 := (hO4.lt i e).1; (try simp only [World.size_alloc, World.size_drew] at h9); omega))
      obtain ⟨A4, c4, rfl⟩ := own_slice hO4
      clear hO4
      try go_wp2_with fail
      refine hK.out _ _ ⟨(((show Kept Nil W1 _ from (by repeat (first | exact kzr _ _ | assumption | refine kzd ?_ | refine kzn ?_ _ | refine kza ?_ _ | refine kzs ?_ (by assumption))))).cell C9_0.out (fun h => h)), (((show Kept Nil W1 _ from (by repeat (first | exact kzr _ _ | assumption | refine kzd ?_ | refine kzn ?_ _ | refine kza ?_ _ | refine kzs ?_ (by assumption))))).cell C9_1.out (fun h => h)), (((show Kept Nil W1 _ from (by repeat (first | exact kzr _ _ | assumption | refine kzd ?_ | refine kzn ?_ _ | refine kza ?_ _ | refine kzs ?_ (by assumption))))).cell C9_2.out (fun h => h)), (((show Kept Nil W1 _ from (by repeat (first | exact kzr _ _ | assumption | refine kzd ?_ | refine kzn ?_ _ | refine kza ?_ _ | refine kzs ?_ (by assumption))))).cell C9_3.out (fun h => h))⟩ (fun hHeld => ?_)
      clear hK K
      try simp only [Act.put, List.setIfInBounds_toArray, List.set_cons_zero, List.set_cons_succ]
      have z0 := (cell_of HAB.out 0).trans rfl
      have z1 := (cell_of HAB.out 1).trans rfl
      have z2 := (cell_of HAB.out 2).trans rfl
      have z3 := (cell_of HAB.out 3).trans rfl
      have zf0 := frozen_of HAB.out 0
      have zf1 := frozen_of HAB.out 1
      have zf2 := frozen_of HAB.out 2
      have zf3 := frozen_of HAB.out 3
      refine wpAnyH_take (i := 11) (oi := _) (v := ?_) (List.getElem?_toArray.trans rfl) (by kernel_rfl) (by kernel_rfl) (by kernel_rfl) (fun _ _ _ h => h) (Or.inl ⟨by rfl, ?_⟩) (by assumption) ?_
      rotate_left
      ·(intro w9 hSw; (try dsimp only at hSw); go_simp; try with_reducible rfl)
      try simp only [Act.put, List.setIfInBounds_toArray, List.set_cons_zero, List.set_cons_succ]
      refine wpAnyH_ready (rs := [13]) (by kernel_rfl) (by simp) ?_
      refine AllReadyH.cons (o := _) (List.getElem?_toArray.trans rfl) (fun K hK => ?_) (AllReadyH.nil)
      go_simp
      refine hK.out _ _ ⟨((((((((show Kept Nil W1 _ from (by repeat (first | exact kzr _ _ | assumption | refine kzd ?_ | refine kzn ?_ _ | refine kza ?_ _ | refine kzs ?_ (by assumption)))).any (S := fun i => i = w3.heap.size)).setCell (.inl rfl) _).setCell (.inl rfl) _).setCell (.inl rfl) _).setCell (.inl rfl) _)).cell C9_0.out (fun h => by (have h9 : w.heap.size = w3.heap.size := h); omega)), ((((((((show Kept Nil W1 _ from (by repeat (first | exact kzr _ _ | assumption | refine kzd ?_ | refine kzn ?_ _ | refine kza ?_ _ | refine kzs ?_ (by assumption)))).any (S := fun i => i = w3.heap.size)).setCell (.inl rfl) _).setCell (.inl rfl) _).setCell (.inl rfl) _).setCell (.inl rfl) _)).cell C9_1.out (fun h => by (have h9 : w.heap.size = w3.heap.size := h); omega)), ((((((((show Kept Nil W1 _ from (by repeat (first | exact kzr _ _ | assumption | refine kzd ?_ | refine kzn ?_ _ | refine kza ?_ _ | refine kzs ?_ (by assumption)))).any (S := fun i => i = w3.heap.size)).setCell (.inl rfl) _).setCell (.inl rfl) _).setCell (.inl rfl) _).setCell (.inl rfl) _)).cell C9_2.out (fun h => by (have h9 : w.heap.size = w3.heap.size := h); omega)), ((((((((show Kept Nil W1 _ from (by repeat (first | exact kzr _ _ | assumption | refine kzd ?_ | refine kzn ?_ _ | refine kza ?_ _ | refine kzs ?_ (by assumption)))).any (S := fun i => i = w3.heap.size)).setCell (.inl rfl) _).setCell (.inl rfl) _).setCell (.inl rfl) _).setCell (.inl rfl) _)).cell C9_3.out (fun h => by (have h9 : w.heap.size = w3.heap.size := h); omega))⟩ (fun hHeld => ?_)
      clear hK K
      try simp only [Act.put, List.setIfInBounds_toArray, List.set_cons_zero, List.set_cons_succ]
      refine wpAnyH_done (by kernel_rfl) ?_ _
      try go_wp2_with fail
      go_meet
      exact ⟨w3.heap.size, A2, c2, A3, c3, A4, c4, rfl, by omega, heap_set (heap_set (heap_set (heap_set HAB.out 0 _) 1 _) 2 _) 3 _, ((newRow_of_own ((((((Kept.refl (fun i => i = w3.heap.size) w4).setCell (.inl rfl) _).setCell (.inl rfl) _).setCell (.inl rfl) _).setCell (.inl rfl) _).own ((hk3.step (((Kept.refl Nil w3).alloc _).step hk4)).own HO2.out (fun _ _ h => h)) (fun i e h => by (have h8 := HO2.out.lt i e); (have h9 : i = w3.heap.size := h); omega)) prCells_len (by decide)).lower (by omega)), ((newRow_of_own ((((((Kept.refl (fun i => i = w3.heap.size) w4).setCell (.inl rfl) _).setCell (.inl rfl) _).setCell (.inl rfl) _).setCell (.inl rfl) _).own ((((Kept.refl Nil w3).alloc _).step hk4).own HO3.out (fun _ _ h => h)) (fun i e h => by (have h8 := HO3.out.lt i e); (have h9 : i = w3.heap.size := h); omega)) lkCells_len (by decide)).lower (by omega)), ((newRow_of_own ((((((Kept.refl (fun i => i = w3.heap.size) w4).setCell (.inl rfl) _).setCell (.inl rfl) _).setCell (.inl rfl) _).setCell (.inl rfl) _).own HO4.out (fun i e h => by (have h8 := HO4.out.lt i e); (have h9 : i = w3.heap.size := h); omega)) evCells_len (by decide)).lower (by omega)), cap_of_own HO2.out, cap_of_own HO3.out, cap_of_own HO4.out, le_of_own HO2.out, le_of_own HO3.out, le_of_own HO4.out, ((show Kept Nil W1 w4 from HKW4.out).any.trans (((((Kept.refl (fun i => i = w3.heap.size) w4).setCell (.inl rfl) _).setCell (.inl rfl) _).setCell (.inl rfl) _).setCell (.inl rfl) _) (fun i h => .inr (by (have h9 : i = w3.heap.size := h); omega)))⟩
   ·skip
    go_simp
    refine hK.out _ _ ⟨(((show Kept Nil W1 _ from (by repeat (first | exact kzr _ _ | assumption | refine kzd ?_ | refine kzn ?_ _ | refine kza ?_ _ | refine kzs ?_ (by assumption))))).cell C9_0.out (fun h => h)), (((show Kept Nil W1 _ from (by repeat (first | exact kzr _ _ | assumption | refine kzd ?_ | refine kzn ?_ _ | refine kza ?_ _ | refine kzs ?_ (by assumption))))).cell C9_1.out (fun h => h)), (((show Kept Nil W1 _ from (by repeat (first | exact kzr _ _ | assumption | refine kzd ?_ | refine kzn ?_ _ | refine kza ?_ _ | refine kzs ?_ (by assumption))))).cell C9_2.out (fun h => h)), (((show Kept Nil W1 _ from (by repeat (first | exact kzr _ _ | assumption | refine kzd ?_ | refine kzn ?_ _ | refine kza ?_ _ | refine kzs ?_ (by assumption))))).cell C9_3.out (fun h => h))⟩ (fun hHeld => ?_)
    clear hK K
    try simp only [Act.put, List.setIfInBounds_toArray, List.set_cons_zero, List.set_cons_succ]
    refine wpAnyH_ready (rs := [7]) (by kernel_rfl) (by simp) ?_
    refine AllReadyH.cons (o := _) (List.getElem?_toArray.trans rfl) (fun K hK => ?_) (AllReadyH.nil)
    ·skip
     go_simp
     refine (putL_is ls ys HYS.out la lc _ ?_ hll).mono ?_
     ·exact (HM.out.nil (HK.out.step (by repeat (first | exact kzr _ _ | assumption | refine kzd ?_ | refine kzn ?_ _ | refine kza ?_ _ | refine kzs ?_ (by assumption))))).r.l
     rintro e w3 ⟨v3, rfl, hO3, hk3⟩
     have hkW3 : Kept Nil W1 w3 := (by repeat (first | exact kzr _ _ | assumption | refine kzd ?_ | refine kzn ?_ _ | refine kza ?_ _ | refine kzs ?_ (by assumption)))
     have HKW3 := Lib.hid hkW3
     have hzW3 := hkW3.size
     have hzz3 := hk3.size
     try simp only [World.size_alloc, World.size_drew] at hzz3
     clear hkW3
     have hab : w3.heap[w2.heap.size]? = some (.cells #[.int .i64 0, .slice none 0 0, .slice none 0 0, .slice none 0 0] 26 (0, 0)) := hk3.heap (heap_new _ _) (fun h => h)
     have HAB := Lib.hid hab
     have hzB3 := (Array.getElem?_eq_some_iff.1 hab).1
     clear hab
     have HO3 := Lib.hid (own_lower hO3 (base' := w2.heap.size + 1) (fun i e => by have h9 := (hO3.lt i e).1; (try simp only [World.size_alloc, World.size_drew] at h9); omega))
     obtain ⟨A3, c3, rfl⟩ := own_slice hO3
     clear hO3
     try go_wp2_with fail
     refine hK.out _ _ ⟨(((show Kept Nil W1 _ from (by repeat (first | exact kzr _ _ | assumption | refine kzd ?_ | refine kzn ?_ _ | refine kza ?_ _ | refine kzs ?_ (by assumption))))).cell C9_0.out (fun h => h)), (((show Kept Nil W1 _ from (by repeat (first | exact kzr _ _ | assumption | refine kzd ?_ | refine kzn ?_ _ | refine kza ?_ _ | refine kzs ?_ (by assumption))))).cell C9_1.out (fun h => h)), (((show Kept Nil W1 _ from (by repeat (first | exact kzr _ _ | assumption | refine kzd ?_ | refine kzn ?_ _ | refine kza ?_ _ | refine kzs ?_ (by assumption))))).cell C9_2.out (fun h => h)), (((show Kept Nil W1 _ from (by repeat (first | exact kzr _ _ | assumption | refine kzd ?_ | refine kzn ?_ _ | refine kza ?_ _ | refine kzs ?_ (by assumption))))).cell C9_3.out (fun h => h))⟩ (fun hHeld => ?_)
     clear hK K
     try simp only [Act.put, List.setIfInBounds_toArray, List.set_cons_zero, List.set_cons_succ]
     refine wpAnyH_ready (rs := [10]) (by kernel_rfl) (by simp) ?_
     refine AllReadyH.cons (o := _) (List.getElem?_toArray.trans rfl) (fun K hK => ?_) (AllReadyH.nil)
     ·skip
      go_simp
      refine (putE_is es zs HZS.out ea ec _ ?_ hel).mono ?_
      ·exact (HM.out.nil (HK.out.step (by repeat (first | exact kzr _ _ | assumption | refine kzd ?_ | refine kzn ?_ _ | refine kza ?_ _ | refine kzs ?_ (by assumption))))).r.e
      rintro e w4 ⟨v4, rfl, hO4, hk4⟩
      have hkW4 : Kept Nil W1 w4 := (by repeat (first | exact kzr _ _ | assumption | refine kzd ?_ | refine kzn ?_ _ | refine kza ?_ _ | refine kzs ?_ (by assumption)))
      have HKW4 := Lib.hid hkW4
      have hzW4 := hkW4.size
      have hzz4 := hk4.size
      try simp only [World.size_alloc, World.size_drew] at hzz4
      clear hkW4
      replace hab := hk4.heap HAB.out (fun h => h)
      have HAB := Lib.hid hab
      have hzB4 := (Array.getElem?_eq_some_iff.1 hab).1
      clear hab
      have HO4 := Lib.hid (own_lower hO4 (base' := w2.heap.size + 1) (fun i e => by have h9 := (hO4.lt i e).1; (try simp only [World.size_alloc, World.size_drew] at h9); omega))
      obtain ⟨A4, c4, rfl⟩ := own_slice hO4
      clear hO4
      try go_wp2_with fail
      refine hK.out _ _ ⟨(((show Kept Nil W1 _ from (by repeat (first | exact kzr _ _ | assumption | refine kzd ?_ | refine kzn ?_ _ | refine kza ?_ _ | refine kzs ?_ (by assumption))))).cell C9_0.out (fun h => h)), (((show Kept Nil W1 _ from (by repeat (first | exact kzr _ _ | assumption | refine kzd ?_ | refine kzn ?_ _ | refine kza ?_ _ | refine kzs ?_ (by assumption))))).cell C9_1.out (fun h => h)), (((show Kept Nil W1 _ from (by repeat (first | exact kzr _ _ | assumption | refine kzd ?_ | refine kzn ?_ _ | refine kza ?_ _ | refine kzs ?_ (by assumption))))).cell C9_2.out (fun h => h)), (((show Kept Nil W1 _ from (by repeat (first | exact kzr _ _ | assumption | refine kzd ?_ | refine kzn ?_ _ | refine kza ?_ _ | refine kzs ?_ (by assumption))))).cell C9_3.out (fun h => h))⟩ (fun hHeld => ?_)
      clear hK K
      try simp only [Act.put, List.setIfInBounds_toArray, List.set_cons_zero, List.set_cons_succ]
      have z0 := (cell_of HAB.out 0).trans rfl
      have z1 := (cell_of HAB.out 1).trans rfl
      have z2 := (cell_of HAB.out 2).trans rfl
      have z3 := (cell_of HAB.out 3).trans rfl
      have zf0 := frozen_of HAB.out 0
      have zf1 := frozen_of HAB.out 1
      have zf2 := frozen_of HAB.out 2
      have zf3 := frozen_of HAB.out 3
      refine wpAnyH_take (i := 11) (oi := _) (v := ?_) (List.getElem?_toArray.trans rfl) (by kernel_rfl) (by kernel_rfl) (by kernel_rfl) (fun _ _ _ h => h) (Or.inl ⟨by rfl, ?_⟩) (by assumption) ?_
      rotate_left
      ·(intro w9 hSw; (try dsimp only at hSw); go_simp; try with_reducible rfl)
      try simp only [Act.put, List.setIfInBounds_toArray, List.set_cons_zero, List.set_cons_succ]
      refine wpAnyH_ready (rs := [13]) (by kernel_rfl) (by simp) ?_
      refine AllReadyH.cons (o := _) (List.getElem?_toArray.trans rfl) (fun K hK => ?_) (AllReadyH.nil)
      go_simp
      refine hK.out _ _ ⟨((((((((show Kept Nil W1 _ from (by repeat (first | exact kzr _ _ | assumption | refine kzd ?_ | refine kzn ?_ _ | refine kza ?_ _ | refine kzs ?_ (by assumption)))).any (S := fun i => i = w2.heap.size)).setCell (.inl rfl) _).setCell (.inl rfl) _).setCell (.inl rfl) _).setCell (.inl rfl) _)).cell C9_0.out (fun h => by (have h9 : w.heap.size = w2.heap.size := h); omega)), ((((((((show Kept Nil W1 _ from (by repeat (first | exact kzr _ _ | assumption | refine kzd ?_ | refine kzn ?_ _ | refine kza ?_ _ | refine kzs ?_ (by assumption)))).any (S := fun i => i = w2.heap.size)).setCell (.inl rfl) _).setCell (.inl rfl) _).setCell (.inl rfl) _).setCell (.inl rfl) _)).cell C9_1.out (fun h => by (have h9 : w.heap.size = w2.heap.size := h); omega)), ((((((((show Kept Nil W1 _ from (by repeat (first | exact kzr _ _ | assumption | refine kzd ?_ | refine kzn ?_ _ | refine kza ?_ _ | refine kzs ?_ (by assumption)))).any (S := fun i => i = w2.heap.size)).setCell (.inl rfl) _).setCell (.inl rfl) _).setCell (.inl rfl) _).setCell (.inl rfl) _)).cell C9_2.out (fun h => by (have h9 : w.heap.size = w2.heap.size := h); omega)), ((((((((show Kept Nil W1 _ from (by repeat (first | exact kzr _ _ | assumption | refine kzd ?_ | refine kzn ?_ _ | refine kza ?_ _ | refine kzs ?_ (by assumption)))).any (S := fun i => i = w2.heap.size)).setCell (.inl rfl) _).setCell (.inl rfl) _).setCell (.inl rfl) _).setCell (.inl rfl) _)).cell C9_3.out (fun h => by (have h9 : w.heap.size = w2.heap.size := h); omega))⟩ (fun hHeld => ?_)
      clear hK K
      try simp only [Act.put, List.setIfInBounds_toArray, List.set_cons_zero, List.set_cons_succ]
      refine wpAnyH_done (by kernel_rfl) ?_ _
      try go_wp2_with fail
      go_meet
      exact ⟨w2.heap.size, A2, c2, A3, c3, A4, c4, rfl, by omega, heap_set (heap_set (heap_set (heap_set HAB.out 0 _) 1 _) 2 _) 3 _, ((newRow_of_own ((((((Kept.refl (fun i => i = w2.heap.size) w4).setCell (.inl rfl) _).setCell (.inl rfl) _).setCell (.inl rfl) _).setCell (.inl rfl) _).own (((((Kept.refl Nil w2).alloc _).step hk3).step hk4).own HO2.out (fun _ _ h => h)) (fun i e h => by (have h8 := HO2.out.lt i e); (have h9 : i = w2.heap.size := h); omega)) prCells_len (by decide)).lower (by omega)), ((newRow_of_own ((((((Kept.refl (fun i => i = w2.heap.size) w4).setCell (.inl rfl) _).setCell (.inl rfl) _).setCell (.inl rfl) _).setCell (.inl rfl) _).own (hk4.own HO3.out (fun _ _ h => h)) (fun i e h => by (have h8 := HO3.out.lt i e); (have h9 : i = w2.heap.size := h); omega)) lkCells_len (by decide)).lower (by omega)), ((newRow_of_own ((((((Kept.refl (fun i => i = w2.heap.size) w4).setCell (.inl rfl) _).setCell (.inl rfl) _).setCell (.inl rfl) _).setCell (.inl rfl) _).own HO4.out (fun i e h => by (have h8 := HO4.out.lt i e); (have h9 : i = w2.heap.size := h); omega)) evCells_len (by decide)).lower (by omega)), cap_of_own HO2.out, cap_of_own HO3.out, cap_of_own HO4.out, le_of_own HO2.out, le_of_own HO3.out, le_of_own HO4.out, ((show Kept Nil W1 w4 from HKW4.out).any.trans (((((Kept.refl (fun i => i = w2.heap.size) w4).setCell (.inl rfl) _).setCell (.inl rfl) _).setCell (.inl rfl) _).setCell (.inl rfl) _) (fun i h => .inr (by (have h9 : i = w2.heap.size := h); omega)))⟩
  ·skip
   go_simp
   refine hK.out _ _ ⟨(((show Kept Nil W1 _ from (by repeat (first | exact kzr _ _ | assumption | refine kzd ?_ | refine kzn ?_ _ | refine kza ?_ _ | refine kzs ?_ (by assumption))))).cell C9_0.out (fun h => h)), (((show Kept Nil W1 _ from (by repeat (first | exact kzr _ _ | assumption | refine kzd ?_ | refine kzn ?_ _ | refine kza ?_ _ | refine kzs ?_ (by assumption))))).cell C9_1.out (fun h => h)), (((show Kept Nil W1 _ from (by repeat (first | exact kzr _ _ | assumption | refine kzd ?_ | refine kzn ?_ _ | refine kza ?_ _ | refine kzs ?_ (by assumption))))).cell C9_2.out (fun h => h)), (((show Kept Nil W1 _ from (by repeat (first | exact kzr _ _ | assumption | refine kzd ?_ | refine kzn ?_ _ | refine kza ?_ _ | refine kzs ?_ (by assumption))))).cell C9_3.out (fun h => h))⟩ (fun hHeld => ?_)
   clear hK K
   try simp only [Act.put, List.setIfInBounds_toArray, List.set_cons_zero, List.set_cons_succ]
   refine wpAnyH_ready (rs := [4]) (by kernel_rfl) (by simp) ?_
   refine AllReadyH.cons (o := _) (List.getElem?_toArray.trans rfl) (fun K hK => ?_) (AllReadyH.nil)
   ·skip
    go_simp
    refine (putP_is ps xs HXS.out pa pc _ ?_ hpl).mono ?_
    ·exact (HM.out.nil (HK.out.step (by repeat (first | exact kzr _ _ | assumption | refine kzd ?_ | refine kzn ?_ _ | refine kza ?_ _ | refine kzs ?_ (by assumption))))).r.p
    rintro e w2 ⟨v2, rfl, hO2, hk2⟩
    have hkW2 : Kept Nil W1 w2 := (by repeat (first | exact kzr _ _ | assumption | refine kzd ?_ | refine kzn ?_ _ | refine kza ?_ _ | refine kzs ?_ (by assumption)))
    have HKW2 := Lib.hid hkW2
    have hzW2 := hkW2.size
    have hzz2 := hk2.size
    try simp only [World.size_alloc, World.size_drew] at hzz2
    clear hkW2
    have hab : w2.heap[W1.heap.size]? = some (.cells #[.int .i64 0, .slice none 0 0, .slice none 0 0, .slice none 0 0] 26 (0, 0)) := hk2.heap (heap_new _ _) (fun h => h)
    have HAB := Lib.hid hab
    have hzB2 := (Array.getElem?_eq_some_iff.1 hab).1
    clear hab
    have HO2 := Lib.hid (own_lower hO2 (base' := W1.heap.size + 1) (fun i e => by have h9 := (hO2.lt i e).1; (try simp only [World.size_alloc, World.size_drew] at h9); omega))
    obtain ⟨A2, c2, rfl⟩ := own_slice hO2
    clear hO2
    try go_wp2_with fail
    refine hK.out _ _ ⟨(((show Kept Nil W1 _ from (by repeat (first | exact kzr _ _ | assumption | refine kzd ?_ | refine kzn ?_ _ | refine kza ?_ _ | refine kzs ?_ (by assumption))))).cell C9_0.out (fun h => h)), (((show Kept Nil W1 _ from (by repeat (first | exact kzr _ _ | assumption | refine kzd ?_ | refine kzn ?_ _ | refine kza ?_ _ | refine kzs ?_ (by assumption))))).cell C9_1.out (fun h => h)), (((show Kept Nil W1 _ from (by repeat (first | exact kzr _ _ | assumption | refine kzd ?_ | refine kzn ?_ _ | refine kza ?_ _ | refine kzs ?_ (by assumption))))).cell C9_2.out (fun h => h)), (((show Kept Nil W1 _ from (by repeat (first | exact kzr _ _ | assumption | refine kzd ?_ | refine kzn ?_ _ | refine kza ?_ _ | refine kzs ?_ (by assumption))))).cell C9_3.out (fun h => h))⟩ (fun hHeld => ?_)
    clear hK K
    try simp only [Act.put, List.setIfInBounds_toArray, List.set_cons_zero, List.set_cons_succ]
    refine wpAnyH_ready (rs := [7]) (by kernel_rfl) (by simp) ?_
    refine AllReadyH.cons (o := _) (List.getElem?_toArray.trans rfl) (fun K hK => ?_) (AllReadyH.nil)
    ·skip
     go_simp
     refine (putL_is ls ys HYS.out la lc _ ?_ hll).mono ?_
     ·exact (HM.out.nil (HK.out.step (by repeat (first | exact kzr _ _ | assumption | refine kzd ?_ | refine kzn ?_ _ | refine kza ?_ _ | refine kzs ?_ (by assumption))))).r.l
     rintro e w3 ⟨v3, rfl, hO3, hk3⟩
     have hkW3 : Kept Nil W1 w3 := (by repeat (first | exact kzr _ _ | assumption | refine kzd ?_ | refine kzn ?_ _ | refine kza ?_ _ | refine kzs ?_ (by assumption)))
     have HKW3 := Lib.hid hkW3
     have hzW3 := hkW3.size
     have hzz3 := hk3.size
     try simp only [World.size_alloc, World.size_drew] at hzz3
     clear hkW3
     replace hab := hk3.heap HAB.out (fun h => h)
     have HAB := Lib.hid hab
     have hzB3 := (Array.getElem?_eq_some_iff.1 hab).1
     clear hab
     have HO3 := Lib.hid (own_lower hO3 (base' := W1.heap.size + 1) (fun i e => by have h9 := (hO3.lt i e).1; (try simp only [World.size_alloc, World.size_drew] at h9); omega))
     obtain ⟨A3, c3, rfl⟩ := own_slice hO3
     clear hO3
     try go_wp2_with fail
     refine hK.out _ _ ⟨(((show Kept Nil W1 _ from (by repeat (first | exact kzr _ _ | assumption | refine kzd ?_ | refine kzn ?_ _ | refine kza ?_ _ | refine kzs ?_ (by assumption))))).cell C9_0.out (fun h => h)), (((show Kept Nil W1 _ from (by repeat (first | exact kzr _ _ | assumption | refine kzd ?_ | refine kzn ?_ _ | refine kza ?_ _ | refine kzs ?_ (by assumption))))).cell C9_1.out (fun h => h)), (((show Kept Nil W1 _ from (by repeat (first | exact kzr _ _ | assumption | refine kzd ?_ | refine kzn ?_ _ | refine kza ?_ _ | refine kzs ?_ (by assumption))))).cell C9_2.out (fun h => h)), (((show Kept Nil W1 _ from (by repeat (first | exact kzr _ _ | assumption | refine kzd ?_ | refine kzn ?_ _ | refine kza ?_ _ | refine kzs ?_ (by assumption))))).cell C9_3.out (fun h => h))⟩ (fun hHeld => ?_)
     clear hK K
     try simp only [Act.put, List.setIfInBounds_toArray, List.set_cons_zero, List.set_cons_succ]
     refine wpAnyH_ready (rs := [10]) (by kernel_rfl) (by simp) ?_
     refine AllReadyH.cons (o := _) (List.getElem?_toArray.trans rfl) (fun K hK => ?_) (AllReadyH.nil)
     ·skip
      go_simp
      refine (putE_is es zs HZS.out ea ec _ ?_ hel).mono ?_
      ·exact (HM.out.nil (HK.out.step (by repeat (first | exact kzr _ _ | assumption | refine kzd ?_ | refine kzn ?_ _ | refine kza ?_ _ | refine kzs ?_ (by assumption))))).r.e
      rintro e w4 ⟨v4, rfl, hO4, hk4⟩
      have hkW4 : Kept Nil W1 w4 := (by repeat (first | exact kzr _ _ | assumption | refine kzd ?_ | refine kzn ?_ _ | refine kza ?_ _ | refine kzs ?_ (by assumption)))
      have HKW4 := Lib.hid hkW4
      have hzW4 := hkW4.size
      have hzz4 := hk4.size
      try simp only [World.size_alloc, World.size_drew] at hzz4
      clear hkW4
      replace hab := hk4.heap HAB.out (fun h => h)
      have HAB := Lib.hid hab
      have hzB4 := (Array.getElem?_eq_some_iff.1 hab).1
      clear hab
      have HO4 := Lib.hid (own_lower hO4 (base' := W1.heap.size + 1) (fun i e => by have h9 := (hO4.lt i e).1; (try simp only [World.size_alloc, World.size_drew] at h9); omega))
      obtain ⟨A4, c4, rfl⟩ := own_slice hO4
      clear hO4
      try go_wp2_with fail
      refine hK.out _ _ ⟨(((show Kept Nil W1 _ from (by repeat (first | exact kzr _ _ | assumption | refine kzd ?_ | refine kzn ?_ _ | refine kza ?_ _ | refine kzs ?_ (by assumption))))).cell C9_0.out (fun h => h)), (((show Kept Nil W1 _ from (by repeat (first | exact kzr _ _ | assumption | refine kzd ?_ | refine kzn ?_ _ | refine kza ?_ _ | refine kzs ?_ (by assumption))))).cell C9_1.out (fun h => h)), (((show Kept Nil W1 _ from (by repeat (first | exact kzr _ _ | assumption | refine kzd ?_ | refine kzn ?_ _ | refine kza ?_ _ | refine kzs ?_ (by assumption))))).cell C9_2.out (fun h => h)), (((show Kept Nil W1 _ from (by repeat (first | exact kzr _ _ | assumption | refine kzd ?_ | refine kzn ?_ _ | refine kza ?_ _ | refine kzs ?_ (by assumption))))).cell C9_3.out (fun h => h))⟩ (fun hHeld => ?_)
      clear hK K
      try simp only [Act.put, List.setIfInBounds_toArray, List.set_cons_zero, List.set_cons_succ]
      have z0 := (cell_of HAB.out 0).trans rfl
      have z1 := (cell_of HAB.out 1).trans rfl
      have z2 := (cell_of HAB.out 2).trans rfl
      have z3 := (cell_of HAB.out 3).trans rfl
      have zf0 := frozen_of HAB.out 0
      have zf1 := frozen_of HAB.out 1
      have zf2 := frozen_of HAB.out 2
      have zf3 := frozen_of HAB.out 3
      refine wpAnyH_take (i := 11) (oi := _) (v := ?_) (List.getElem?_toArray.trans rfl) (by kernel_rfl) (by kernel_rfl) (by kernel_rfl) (fun _ _ _ h => h) (Or.inl ⟨by rfl, ?_⟩) (by assumption) ?_
      rotate_left
      ·(intro w9 hSw; (try dsimp only at hSw); go_simp; try with_reducible rfl)
      try simp only [Act.put, List.setIfInBounds_toArray, List.set_cons_zero, List.set_cons_succ]
      refine wpAnyH_ready (rs := [13]) (by kernel_rfl) (by simp) ?_
      refine AllReadyH.cons (o := _) (List.getElem?_toArray.trans rfl) (fun K hK => ?_) (AllReadyH.nil)
      go_simp
      refine hK.out _ _ ⟨((((((((show Kept Nil W1 _ from (by repeat (first | exact kzr _ _ | assumption | refine kzd ?_ | refine kzn ?_ _ | refine kza ?_ _ | refine kzs ?_ (by assumption)))).any (S := fun i => i = W1.heap.size)).setCell (.inl rfl) _).setCell (.inl rfl) _).setCell (.inl rfl) _).setCell (.inl rfl) _)).cell C9_0.out (fun h => by (have h9 : w.heap.size = W1.heap.size := h); omega)), ((((((((show Kept Nil W1 _ from (by repeat (first | exact kzr _ _ | assumption | refine kzd ?_ | refine kzn ?_ _ | refine kza ?_ _ | refine kzs ?_ (by assumption)))).any (S := fun i => i = W1.heap.size)).setCell (.inl rfl) _).setCell (.inl rfl) _).setCell (.inl rfl) _).setCell (.inl rfl) _)).cell C9_1.out (fun h => by (have h9 : w.heap.size = W1.heap.size := h); omega)), ((((((((show Kept Nil W1 _ from (by repeat (first | exact kzr _ _ | assumption | refine kzd ?_ | refine kzn ?_ _ | refine kza ?_ _ | refine kzs ?_ (by assumption)))).any (S := fun i => i = W1.heap.size)).setCell (.inl rfl) _).setCell (.inl rfl) _).setCell (.inl rfl) _).setCell (.inl rfl) _)).cell C9_2.out (fun h => by (have h9 : w.heap.size = W1.heap.size := h); omega)), ((((((((show Kept Nil W1 _ from (by repeat (first | exact kzr _ _ | assumption | refine kzd ?_ | refine kzn ?_ _ | refine kza ?_ _ | refine kzs ?_ (by assumption)))).any (S := fun i => i = W1.heap.size)).setCell (.inl rfl) _).setCell (.inl rfl) _).setCell (.inl rfl) _).setCell (.inl rfl) _)).cell C9_3.out (fun h => by (have h9 : w.heap.size = W1.heap.size := h); omega))⟩ (fun hHeld => ?_)
      clear hK K
      try simp only [Act.put, List.setIfInBounds_toArray, List.set_cons_zero, List.set_cons_succ]
      refine wpAnyH_done (by kernel_rfl) ?_ _
      try go_wp2_with fail
      go_meet
      exact ⟨W1.heap.size, A2, c2, A3, c3, A4, c4, rfl, by omega, heap_set (heap_set (heap_set (heap_set HAB.out 0 _) 1 _) 2 _) 3 _, ((newRow_of_own ((((((Kept.refl (fun i => i = W1.heap.size) w4).setCell (.inl rfl) _).setCell (.inl rfl) _).setCell (.inl rfl) _).setCell (.inl rfl) _).own ((hk3.step hk4).own HO2.out (fun _ _ h => h)) (fun i e h => by (have h8 := HO2.out.lt i e); (have h9 : i = W1.heap.size := h); omega)) prCells_len (by decide)).lower (by omega)), ((newRow_of_own ((((((Kept.refl (fun i => i = W1.heap.size) w4).setCell (.inl rfl) _).setCell (.inl rfl) _).setCell (.inl rfl) _).setCell (.inl rfl) _).own (hk4.own HO3.out (fun _ _ h => h)) (fun i e h => by (have h8 := HO3.out.lt i e); (have h9 : i = W1.heap.size := h); omega)) lkCells_len (by decide)).lower (by omega)), ((newRow_of_own ((((((Kept.refl (fun i => i = W1.heap.size) w4).setCell (.inl rfl) _).setCell (.inl rfl) _).setCell (.inl rfl) _).setCell (.inl rfl) _).own HO4.out (fun i e h => by (have h8 := HO4.out.lt i e); (have h9 : i = W1.heap.size := h); omega)) evCells_len (by decide)).lower (by omega)), cap_of_own HO2.out, cap_of_own HO3.out, cap_of_own HO4.out, le_of_own HO2.out, le_of_own HO3.out, le_of_own HO4.out, ((show Kept Nil W1 w4 from HKW4.out).any.trans (((((Kept.refl (fun i => i = W1.heap.size) w4).setCell (.inl rfl) _).setCell (.inl rfl) _).setCell (.inl rfl) _).setCell (.inl rfl) _) (fun i h => .inr (by (have h9 : i = W1.heap.size := h); omega)))⟩
 case rest =>
  obtain ⟨b, A, c, B, d, E, f, rfl, hb1, hob, hP, hL, hE, hca, hcb, hce, hl1, hl2, hl3, hkc⟩ := hcut
  have HOB := Lib.hid hob
  have HP := Lib.hid hP
  have HL := Lib.hid hL
  have HE := Lib.hid hE
  have HKC := Lib.hid hkc
  have hzc := hkc.size
  have HCA := Lib.hid hca
  have HCB := Lib.hid hcb
  have HCE := Lib.hid hce
  have HL1 := Lib.hid hl1
  have HL2 := Lib.hid hl2
  have HL3 := Lib.hid hl3
  have hbz : b < wc.heap.size := (Array.getElem?_eq_some_iff.1 hob).1
  clear hob hP hL hE hkc hca hcb hce hl1 hl2 hl3 g0 g1 g2 g3
  have hrow : ∃ g, W1.heap.size ≤ g ∧ (xs ≠ [] → b ≠ g ∧ A = some ⟨g, 0, none⟩ ∧ RowAt wc g 34 4 prCells xs) := by
   by_cases hls : xs = []
   ·exact ⟨W1.heap.size, Nat.le_refl _, fun h => absurd hls h⟩
   ·obtain ⟨g, hb, e, hr⟩ := HP.out hls
    refine ⟨g, hb, fun _ => ⟨?_, e, hr⟩⟩
    rintro rfl
    obtain ⟨cur, h1, _⟩ := hr.ex
    rw [HOB.out] at h1
    cases h1
  obtain ⟨gg, hgb, hrow⟩ := hrow
  have HROW := Lib.hid hrow
  clear hrow
  have hsz9 := HSZ.out
  have HKWC := Lib.hid (HK.out.step HKC.out)
  have HQC := Lib.hid (HKC.out.heap QB.out (fun h => h))
  go_upto_region 3 with fail
  go_loopw [4] (fun i wr => ∃ (k : Nat) (qs : List Pr), k ≤ xs.length ∧ i = .int .i64 k ∧ CanAt (fun i => i = gg ∨ i = w.heap.size + 1) wr k xs qs ∧ (xs ≠ [] → RowAt wr gg 34 4 prCells qs) ∧ Kept (fun i => xs ≠ [] ∧ i = gg) wc wr) (fun i _ => xs.length - (intOf i).toNat)
  case atStart =>
   refine ⟨0, xs, Nat.zero_le _, rfl, CanAt.start (fun q hq => ?_), fun h => (HROW.out h).2.2, Kept.refl _ _⟩
   have hqm := HXM.out q hq
   have hh := HM.out.r.pp q hqm
   exact ⟨hh.nil HKWC.out, HM.out.o.p q hqm, ⟨fun g off hn e h => by (have h9 := hh.v.low g off hn e; have h8 : g = gg ∨ g = w.heap.size + 1 := h; omega), fun g off hn e h => by (have h9 := hh.s.low g off hn e; have h8 : g = gg ∨ g = w.heap.size + 1 := h; omega)⟩⟩
  case round =>
   obtain ⟨k, qs, hk, rfl, hca, hra, hK⟩ := hrel
   have HCT := Lib.hid hca
   have HRA := Lib.hid hra
   have HKR := Lib.hid hK
   have hzr := hK.size
   have hobr := hK.heap HOB.out (fun h => (HROW.out h.1).1 h.2)
   have HOBR := Lib.hid hobr
   have hbr : b < wr.heap.size := by omega
   have o0 : wr.cell? ⟨b, 0, none⟩ = some (.int .i64 ver) := by rw [cell_of hobr]; rfl
   have o1 : wr.cell? ⟨b, 1, none⟩ = some (.slice A xs.length c) := by rw [cell_of hobr]; rfl
   have o2 : wr.cell? ⟨b, 2, none⟩ = some (.slice B ys.length d) := by rw [cell_of hobr]; rfl
   have o3 : wr.cell? ⟨b, 3, none⟩ = some (.slice E zs.length f) := by rw [cell_of hobr]; rfl
   clear hobr hca hra hK
   by_cases hlt : k < xs.length
   ·obtain ⟨p, ep⟩ : ∃ l, xs[k]? = some l := ⟨_, List.getElem?_eq_getElem hlt⟩
    have hne : xs ≠ [] := by intro h; rw [h] at hlt; simp at hlt
    obtain ⟨hbg, hA, _⟩ := HROW.out hne
    have hrw := HRA.out hne
    have eq : qs[k]? = some p := by rw [HCT.out.e k (Nat.le_refl _)]; exact ep
    have hx := HCT.out.r p (List.mem_of_getElem? eq)
    have hvs := HM.out.s.v p (HXM.out p (List.mem_of_getElem? ep))
    obtain ⟨pn, pw, va, vs, vc, sa, ss, sc⟩ := p
    simp only at hvs
    have hvl : vs.length ≤ 100000 := hvs.1
    obtain ⟨us, hus⟩ : ∃ us, sortedBy vlt vs = us := ⟨_, rfl⟩
    have hul : us.length ≤ 100000 := by rw [← hus, sortedBy_length]; exact hvl
    have HUS := Lib.hid hus
    have HX := Lib.hid hx
    have HRW := Lib.hid hrw
    have EP := Lib.hid ep
    have EQ := Lib.hid eq
    have HNE := Lib.hid hne
    have C2 := Lib.hid (show wr.cell? ⟨gg, k * 4 + 2, none⟩ = some (.slice va vs.length vc) from hrw.cell eq (c := 2) (by decide))
    have hgl := hrw.lt
    have O1 := Lib.hid o1
    have hlt2 : (k : Int) < (xs.length : Int) := by omega
    have hw : IntKind.i64.wrap ((k : Int) + 1) = (k : Int) + 1 := by rw [IntKind.wrap_i64]; omega
    clear ep eq hrw hne hx hvs hus o0 o2 o3
    subst hA
    go_upto_region 5 with fail
    clear o1
    have C9_0 := Lib.hid (show wr.cell? ⟨b, 1, none⟩ = some (.slice (some ⟨gg, 0, none⟩) xs.length c) from O1.out)
    refine wp_region_held_drew (S := fun w' => w'.cell? ⟨b, 1, none⟩ = some (.slice (some ⟨gg, 0, none⟩) xs.length c)) (by kernel_rfl) C9_0.out (fun hHeld => ?_)
    refine wpAnyH_take (i := 0) (oi := _) (v := ?_) (List.getElem?_toArray.trans rfl) (by kernel_rfl) (by kernel_rfl) (by kernel_rfl) (fun _ _ _ h => h) (Or.inl ⟨by rfl, ?_⟩) (by assumption) ?_
    rotate_left
    ·(intro w9 hSw; (try dsimp only at hSw); go_simp; try with_reducible rfl)
    try simp only [Act.put, List.setIfInBounds_toArray, List.set_cons_zero, List.set_cons_succ]
    refine wpAnyH_take (i := 1) (oi := _) (v := ?_) (List.getElem?_toArray.trans rfl) (by kernel_rfl) (by kernel_rfl) (by kernel_rfl) (fun _ _ _ h => h) (Or.inl ⟨by rfl, ?_⟩) (by assumption) ?_
    rotate_left
    ·(intro w9 hSw; (try dsimp only at hSw); go_simp; try with_reducible rfl)
    try simp only [Act.put, List.setIfInBounds_toArray, List.set_cons_zero, List.set_cons_succ]
    refine wpAnyH_take (i := 2) (oi := _) (v := ?_) (List.getElem?_toArray.trans rfl) (by kernel_rfl) (by kernel_rfl) (by kernel_rfl) (fun _ _ _ h => h) (Or.inl ⟨by rfl, ?_⟩) (by assumption) ?_
    rotate_left
    ·(intro w9 hSw; (try dsimp only at hSw); go_simp; try with_reducible rfl)
    try simp only [Act.put, List.setIfInBounds_toArray, List.set_cons_zero, List.set_cons_succ]
    refine wpAnyH_take (i := 3) (oi := _) (v := ?_) (List.getElem?_toArray.trans rfl) (by kernel_rfl) (by kernel_rfl) (by kernel_rfl) (fun _ _ _ h => h) (Or.inl ⟨by rfl, ?_⟩) (by assumption) ?_
    rotate_left
    ·(intro w9 hSw; (try dsimp only at hSw); go_simp; try with_reducible rfl)
    try simp only [Act.put, List.setIfInBounds_toArray, List.set_cons_zero, List.set_cons_succ]
    refine wpAnyH_take (i := 4) (oi := _) (v := ?_) (List.getElem?_toArray.trans rfl) (by kernel_rfl) (by kernel_rfl) (by kernel_rfl) (fun _ _ _ h => h) (Or.inl ⟨by rfl, ?_⟩) (by assumption) ?_
    rotate_left
    ·(intro w9 hSw; (try dsimp only at hSw); go_simp; try with_reducible rfl)
    try simp only [Act.put, List.setIfInBounds_toArray, List.set_cons_zero, List.set_cons_succ]
    refine wpAnyH_take (i := 5) (oi := _) (v := ?_) (List.getElem?_toArray.trans rfl) (by kernel_rfl) (by kernel_rfl) (by kernel_rfl) (fun _ _ _ h => h) (Or.inl ⟨by rfl, ?_⟩) (by assumption) ?_
    rotate_left
    ·(intro w9 hSw; (try dsimp only at hSw); go_simp; try with_reducible rfl)
    try simp only [Act.put, List.setIfInBounds_toArray, List.set_cons_zero, List.set_cons_succ]
    refine wpAnyH_take (i := 6) (oi := _) (v := ?_) (List.getElem?_toArray.trans rfl) (by kernel_rfl) (by kernel_rfl) (by kernel_rfl) (fun _ _ _ h => h) (Or.inl ⟨by rfl, ?_⟩) (by assumption) ?_
    rotate_left
    ·(intro w9 hSw; (try dsimp only at hSw); go_simp; try with_reducible rfl)
    try simp only [Act.put, List.setIfInBounds_toArray, List.set_cons_zero, List.set_cons_succ]
    refine wpAnyH_take (i := 7) (oi := _) (v := ?_) (List.getElem?_toArray.trans rfl) (by kernel_rfl) (by kernel_rfl) (by kernel_rfl) (fun _ _ _ h => h) (Or.inl ⟨by rfl, ?_⟩) (by assumption) ?_
    rotate_left
    ·(intro w9 hSw; (try dsimp only at hSw); go_simp; try with_reducible rfl)
    try simp only [Act.put, List.setIfInBounds_toArray, List.set_cons_zero, List.set_cons_succ]
    have c2 := C2.out
    refine wpAnyH_ready (rs := [8]) (by kernel_rfl) (by simp) ?_
    refine AllReadyH.cons (o := _) (List.getElem?_toArray.trans rfl) (fun K hK => ?_) (AllReadyH.nil)
    go_simp
    refine hK.out _ _ (((show Kept Nil wr _ from (by repeat (first | exact kzr _ _ | assumption | refine kzd ?_ | refine kzn ?_ _ | refine kza ?_ _ | refine kzs ?_ (by assumption))))).cell C9_0.out (fun h => h)) (fun hHeld => ?_)
    clear hK K
    try simp only [Act.put, List.setIfInBounds_toArray, List.set_cons_zero, List.set_cons_succ]
    refine wpAnyH_ready (rs := [9]) (by kernel_rfl) (by simp) ?_
    refine AllReadyH.cons (o := _) (List.getElem?_toArray.trans rfl) (fun K hK => ?_) (AllReadyH.nil)
    clear c2
    go_simp
    refine (putV_is vs us HUS.out va vc _ ?_ hvl).mono ?_
    ·exact HX.out.1.v.kept (show Kept Nil wr _ from (by repeat (first | exact kzr _ _ | assumption | refine kzd ?_ | refine kzn ?_ _ | refine kza ?_ _ | refine kzs ?_ (by assumption)))) (fun _ _ _ _ h => h)
    rintro e w6 ⟨v6, rfl, hO6, hk6⟩
    have hk6b : Kept Nil wr w6 := (by repeat (first | exact kzr _ _ | assumption | refine kzd ?_ | refine kzn ?_ _ | refine kza ?_ _ | refine kzs ?_ (by assumption)))
    have HK6 := Lib.hid hk6b
    have hz6 := hk6b.size
    have HO6 := Lib.hid (own_lower hO6 (base' := wr.heap.size) (fun i e => by have h9 := (hO6.lt i e).1; (try simp only [World.size_alloc, World.size_drew] at h9); omega))
    obtain ⟨A6, c6, rfl⟩ := own_slice hO6
    have g2 := hk6b.cell C2.out (fun h => h)
    have gf2 : w6.frozen? ⟨gg, k * 4 + 2, none⟩ = false := hk6b.frozen (p := ⟨gg, k * 4 + 2, none⟩) hgl (HRW.out.frozen _) (fun h => h)
    have hg6 : gg < w6.heap.size := by omega
    clear hO6 hk6b hk6
    try go_wp2_with fail
    refine hK.out _ _ ((HK6.out).cell C9_0.out (fun h => h)) (fun hHeld => ?_)
    clear hK K
    try simp only [Act.put, List.setIfInBounds_toArray, List.set_cons_zero, List.set_cons_succ]
    refine wpAnyH_take (i := 10) (oi := _) (v := ?_) (List.getElem?_toArray.trans rfl) (by kernel_rfl) (by kernel_rfl) (by kernel_rfl) (fun _ _ _ h => h) (Or.inl ⟨by rfl, ?_⟩) (by assumption) ?_
    rotate_left
    ·(intro w9 hSw; (try dsimp only at hSw); go_simp; try with_reducible rfl)
    try simp only [Act.put, List.setIfInBounds_toArray, List.set_cons_zero, List.set_cons_succ]
    refine wpAnyH_take (i := 11) (oi := _) (v := ?_) (List.getElem?_toArray.trans rfl) (by kernel_rfl) (by kernel_rfl) (by kernel_rfl) (fun _ _ _ h => h) (Or.inl ⟨by rfl, ?_⟩) (by assumption) ?_
    rotate_left
    ·(intro w9 hSw; (try dsimp only at hSw); go_simp; try with_reducible rfl)
    try simp only [Act.put, List.setIfInBounds_toArray, List.set_cons_zero, List.set_cons_succ]
    refine wpAnyH_ready (rs := [12]) (by kernel_rfl) (by simp) ?_
    refine AllReadyH.cons (o := _) (List.getElem?_toArray.trans rfl) (fun K hK => ?_) (AllReadyH.nil)
    go_simp
    refine hK.out _ _ ((((HK6.out).any (S := fun i => i = gg)).setCell (p := ⟨gg, k * 4 + 2, none⟩) (.inl rfl) (.slice A6 us.length c6)).cell C9_0.out (fun h => hbg h)) (fun hHeld => ?_)
    clear hK K
    try simp only [Act.put, List.setIfInBounds_toArray, List.set_cons_zero, List.set_cons_succ]
    refine wpAnyH_done (by kernel_rfl) ?_ _
    clear g2 gf2
    obtain ⟨W7, hW7⟩ : ∃ W7, w6.setCell ⟨gg, k * 4 + 2, none⟩ (.slice A6 us.length c6) = W7 := ⟨_, rfl⟩
    rw [hW7]
    have hk7 : Kept (fun i => i = gg) w6 W7 := by rw [← hW7]; exact (Kept.refl (fun i => i = gg) w6).setCell (.inl rfl) _
    have hr7 : RowAt W7 gg 34 4 prCells (qs.set k ⟨pn, pw, A6, us, c6, sa, ss, sc⟩) := by rw [← hW7]; exact (HRW.out.kept HK6.out (fun h => h)).set prCells_len EQ.out (c := 2) (by decide) rfl
    have hkr : Kept (fun i => i = gg) wr W7 := HK6.out.any.trans hk7 (fun i h => .inl h)
    have hnv := (newRow_of_own HO6.out vrCells_len (by decide)).kept hk7 (fun i hi h => by (have h9 : i = gg := h); omega)
    have hx := HX.out
    have hr8 := hx.1.kept hkr (fun g off hn e h => hx.2.2.v g off hn e (.inl h)) (fun g off hn e h => hx.2.2.s g off hn e (.inl h))
    have hct := HCT.out.next hkr (fun i h => .inl h) EP.out (p' := ⟨pn, pw, A6, us, c6, sa, ss, sc⟩) ⟨rfl, rfl, HUS.out, rfl⟩ ⟨RVars.ofRow hnv.row, hr8.s, by simp only; unfold maxLen; omega, hr8.sl, hr8.si⟩ ⟨hx.2.1.n, hx.2.1.w, fun v hv => hx.2.1.v v ((sortedBy_perm vlt vs).mem_iff.1 (by rw [HUS.out]; exact hv)), hx.2.1.s, le_of_own HO6.out, cap_of_own HO6.out, hx.2.1.sc, hx.2.1.sn⟩ ⟨fun g off hn e h => by (obtain ⟨g8, h1, h2, _⟩ := hnv hn; simp only at e; rw [e] at h2; cases h2; (have h9 : g = gg ∨ g = w.heap.size + 1 := h); omega), hx.2.2.s⟩
    have HCT7 := Lib.hid hct
    have HR7 := Lib.hid hr7
    have HK7 := Lib.hid hkr
    clear hW7 hk7 hr7 hkr hnv hx hr8 hct
    go_wp2_with fail
    go_round
    exact ⟨k + 1, _, by omega, by go_num, HCT7.out, fun _ => HR7.out, HKR.out.trans HK7.out (fun i h => .inl ⟨HNE.out, h⟩)⟩
    case measure => (simp [intOf] <;> omega)
   ·have hkl : k = xs.length := by omega
    subst hkl
    have HQR := Lib.hid (HKR.out.heap HQC.out (fun h => by have h9 := h.2; omega))
    have hqz : w.heap.size + 1 < wr.heap.size := by omega
    have q0 : wr.cell? ⟨w.heap.size + 1, 0, none⟩ = some (.int .i64 0) := by rw [cell_of HQR.out]; rfl
    have q1 : wr.cell? ⟨w.heap.size + 1, 1, none⟩ = some (.slice none 0 0) := by rw [cell_of HQR.out]; rfl
    have q2 : wr.cell? ⟨w.heap.size + 1, 2, none⟩ = some (.slice none 0 0) := by rw [cell_of HQR.out]; rfl
    have q3 : wr.cell? ⟨w.heap.size + 1, 3, none⟩ = some (.slice none 0 0) := by rw [cell_of HQR.out]; rfl
    have qf0 : wr.frozen? ⟨w.heap.size + 1, 0, none⟩ = false := frozen_of HQR.out 0
    have qf1 : wr.frozen? ⟨w.heap.size + 1, 1, none⟩ = false := frozen_of HQR.out 1
    have qf2 : wr.frozen? ⟨w.heap.size + 1, 2, none⟩ = false := frozen_of HQR.out 2
    have qf3 : wr.frozen? ⟨w.heap.size + 1, 3, none⟩ = false := frozen_of HQR.out 3
    go_wp2_with fail
    obtain ⟨wq, hwq⟩ : ∃ wq, ((((wr.setCell ⟨w.heap.size + 1, 0, none⟩ (.int .i64 ver)).setCell ⟨w.heap.size + 1, 1, none⟩ (.slice A xs.length c)).setCell ⟨w.heap.size + 1, 2, none⟩ (.slice B ys.length d)).setCell ⟨w.heap.size + 1, 3, none⟩ (.slice E zs.length f)) = wq := ⟨_, rfl⟩
    simp only [hwq]
    have hqq : wq.heap[w.heap.size + 1]? = some (.cells #[.int .i64 ver, .slice A xs.length c, .slice B ys.length d, .slice E zs.length f] 26 (0, 0)) := by rw [← hwq, heap_set (heap_set (heap_set (heap_set HQR.out 0 _) 1 _) 2 _) 3 _]; rfl
    have hkq : Kept (fun b => b = w.heap.size + 1) wr wq := by rw [← hwq]; exact ((((Kept.refl (fun b => b = w.heap.size + 1) wr).setCell (.inl rfl) _).setCell (.inl rfl) _).setCell (.inl rfl) _).setCell (.inl rfl) _
    have s0 : wq.cell? ⟨w.heap.size + 1, 0, none⟩ = some (.int .i64 ver) := by rw [cell_of hqq]; rfl
    have s1 : wq.cell? ⟨w.heap.size + 1, 1, none⟩ = some (.slice A xs.length c) := by rw [cell_of hqq]; rfl
    have s2 : wq.cell? ⟨w.heap.size + 1, 2, none⟩ = some (.slice B ys.length d) := by rw [cell_of hqq]; rfl
    have s3 : wq.cell? ⟨w.heap.size + 1, 3, none⟩ = some (.slice E zs.length f) := by rw [cell_of hqq]; rfl
    refine bodyPost_ret (v := .agg #[.int .i64 ver, .slice A xs.length c, .slice B ys.length d, .slice E zs.length f]) (by simp [results, Tryz.results13, go_sem, s0, s1, s2, s3]) rfl ?_
    have hkc9 : Kept (fun i => (xs ≠ [] ∧ i = gg) ∨ i = w.heap.size + 1) wc wq := (HKR.out.mono (fun i _ h => .inl h)).trans hkq (fun i h => .inl (.inr h))
    have hkall : Kept Nil w wq := HKWC.out.trans hkc9 (fun i h => .inr (by rcases h with h | h; (have h9 := h.2; omega); omega))
    have hct := HCT.out
    have hqs := hct.same (Nat.le_refl _)
    have hql := hct.l
    have hRP : RowOf wq A 4 prCells qs := by
     by_cases hne : xs = []
     ·exact .inl (List.eq_nil_of_length_eq_zero (by rw [hql, hne]; rfl))
     ·obtain ⟨_, hA, _⟩ := HROW.out hne
      rw [hA]
      exact ((HRA.out hne).kept hkq (fun h => by (have h9 : gg = w.heap.size + 1 := h); omega)).row
    have hRL : RowOf wq B 5 lkCells ys := by
     by_cases hne : ys = []
     ·exact .inl hne
     ·obtain ⟨g8, hb8, rfl, hr8⟩ := HL.out hne
      refine (hr8.kept hkc9 (fun h => ?_)).row
      rcases h with h | h
      ·obtain ⟨hne2, rfl⟩ := h
       exact rowAt_ne hr8 (HROW.out hne2).2.2 (by decide) rfl
      ·omega
    have hRE : RowOf wq E 3 evCells zs := by
     by_cases hne : zs = []
     ·exact .inl hne
     ·obtain ⟨g8, hb8, rfl, hr8⟩ := HE.out hne
      refine (hr8.kept hkc9 (fun h => ?_)).row
      rcases h with h | h
      ·obtain ⟨hne2, rfl⟩ := h
       exact rowAt_ne hr8 (HROW.out hne2).2.2 (by decide) rfl
      ·omega
    have hsame : SameM (canM ⟨ver, pa, ps, pc, la, ls, lc, ea, es, ec⟩) ⟨ver, A, qs, c, B, ys, d, E, zs, f⟩ := ⟨rfl, by simp only [canM]; rw [HXS.out]; exact hqs, HYS.out, HZS.out⟩
    have hl1 := HL1.out
    have hl2 := HL2.out
    have hl3 := HL3.out
    refine ⟨hkall, ⟨ver, A, qs, c, B, ys, d, E, zs, f⟩, by simp only [hql], ⟨⟨RProcs.ofRow hRP, fun q hq => ?_, RLinks.ofRow hRL, REvents.ofRow hRE, by simp only; unfold maxLen; omega, by simp only; unfold maxLen; omega, by simp only; unfold maxLen; omega⟩, ⟨HM.out.o.v, fun q hq => (hct.r q hq).2.1, fun l hl => HM.out.o.l l ((sortedBy_perm llt ls).mem_iff.1 (by rw [HYS.out]; exact hl)), fun l hl => HM.out.o.e l ((sortedBy_perm elt es).mem_iff.1 (by rw [HZS.out]; exact hl)), by simp only; omega, HCA.out, hl2, HCB.out, hl3, HCE.out⟩, (canM_small HM.out.s).same hsame⟩, hsame⟩
    obtain ⟨h1, h2, h3⟩ := hct.r q hq
    exact h1.kept hkq (fun g off hn e h => h3.v g off hn e (.inr h)) (fun g off hn e h => h3.s g off hn e (.inr h))
end Go.Proofs.YtniocgnfgpaioaaGreat.Mo
