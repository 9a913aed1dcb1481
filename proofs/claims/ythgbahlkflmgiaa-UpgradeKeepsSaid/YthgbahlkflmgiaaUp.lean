/- The walk of upgrade.Up. -/
import Derived.Test.YthgbahlkflmgiaaUpP
import Derived.Test.YthgbahlkflmgiaaCkAll
import Derived.Test.YthgbahlkflmgiaaCkRefC
namespace Go.Proofs.Ythgbahlkflmgiaa.Mo
open Go Go.RowKit Go.Proofs.Ythgbahlkflmgiaa.Lb
set_option linter.unusedVariables false
set_option linter.unusedSimpArgs false
set_option maxRecDepth 8000
/-- A model that lies in memory, with its bounds. -/
structure HeldM (w : World) (m : Md) : Prop where
  r : RModel w m
  o : OkM m
  s : SmallM m
theorem HeldM.nil {w w' : World} {m : Md} (h : HeldM w m) (hk : Kept Nil w w') : HeldM w' m := ⟨h.r.nil hk, h.o, h.s⟩
theorem SmallM.same {a b : Md} (h : SmallM a) (hs : SameM a b) : SmallM b := by
  refine ⟨by rw [← hs.p.l]; exact h.p, by rw [← hs.l]; exact h.l, by rw [← hs.e]; exact h.e, fun q hq => ?_⟩
  obtain ⟨j, hj, hq⟩ := List.mem_iff_getElem.1 hq
  have hq2 : b.ps[j]? = some q := by rw [← hq]; exact List.getElem?_eq_getElem _
  obtain ⟨p, hp⟩ : ∃ r, a.ps[j]? = some r := ⟨_, List.getElem?_eq_getElem (by rw [hs.p.l]; exact hj)⟩
  have h9 := h.v p (List.mem_of_getElem? hp)
  have hpq := hs.p.p j p q hp hq2
  rw [hpq.v, hpq.s] at h9
  exact h9
theorem I64_wt {n : Int} (h : Sc.I64 n) : Sc.I64 (wtI n) := by unfold wtI; unfold Sc.I64 at *; split <;> omega
theorem OkP.wt {p : Pr} (h : OkP p) : OkP (wtP p) := ⟨h.n, I64_wt h.w, h.v, h.s, h.vc, h.vn, h.sc, h.sn⟩
theorem OkL.wt {l : Lk} (h : OkL l) : OkL (wtL l) := ⟨h.n, h.s, h.d, h.dl, I64_wt h.w⟩
theorem OkL.dlo {l : Lk} (h : OkL l) (h1 : 1 ≤ l.delay) (ho : overB l = false) : OkL (dlL l) := by
  refine ⟨h.n, h.s, h.d, ?_, h.w⟩
  unfold overB at ho
  simp only [decide_eq_false_iff_not] at ho
  simp only [dlL]
  unfold Sc.I64
  omega
theorem SmallM.dl {ver v2 : Int} {ps : List Pr} {ls : List Lk} {es : List Ev} {pa la ea A : Option Addr} {pc lc ec c : Nat} (h : SmallM ⟨ver, pa, ps, pc, la, ls, lc, ea, es, ec⟩) : SmallM ⟨v2, pa, ps, pc, A, ls.map dlL, c, ea, es, ec⟩ := ⟨h.p, by have := h.l; simpa using this, h.e, h.v⟩
theorem SmallM.wt {ver v2 : Int} {ps : List Pr} {ls : List Lk} {es : List Ev} {pa la ea A B : Option Addr} {pc lc ec c d : Nat} (h : SmallM ⟨ver, pa, ps, pc, la, ls, lc, ea, es, ec⟩) : SmallM ⟨v2, B, ps.map wtP, d, A, ls.map wtL, c, ea, es, ec⟩ := by
  refine ⟨by have := h.p; simpa using this, by have := h.l; simpa using this, h.e, fun q hq => ?_⟩
  simp only [List.mem_map] at hq
  obtain ⟨p, hp, rfl⟩ := hq
  exact h.v p hp
theorem Check_h {ver : Int} {pa : Option Addr} {ps : List Pr} {pc : Nat} {la : Option Addr} {ls : List Lk} {lc : Nat} {ea : Option Addr} {es : List Ev} {ec : Nat} (w : World) (h : HeldM w ⟨ver, pa, ps, pc, la, ls, lc, ea, es, ec⟩) : Calls Try.prog 17 #[.agg #[.int .i64 ver, .slice pa ps.length pc, .slice la ls.length lc, .slice ea es.length ec]] w fun e w' => e = .returned (.agg #[.int .i64 (mdCheck ⟨ver, pa, ps, pc, la, ls, lc, ea, es, ec⟩).1, .int .i64 (mdCheck ⟨ver, pa, ps, pc, la, ls, lc, ea, es, ec⟩).2]) ∧ Kept Nil w w' := CheckM_is ⟨ver, pa, ps, pc, la, ls, lc, ea, es, ec⟩ w h.r h.o.sz (fun p hp => (h.s.v p hp).1)
theorem RefCheck_h {ver : Int} {pa : Option Addr} {ps : List Pr} {pc : Nat} {la : Option Addr} {ls : List Lk} {lc : Nat} {ea : Option Addr} {es : List Ev} {ec : Nat} (w : World) (h : HeldM w ⟨ver, pa, ps, pc, la, ls, lc, ea, es, ec⟩) : Calls Try.prog 16 #[.agg #[.int .i64 ver, .slice pa ps.length pc, .slice la ls.length lc, .slice ea es.length ec]] w fun e w' => e = .returned (.tuple #[.int .i64 (mdCheck ⟨ver, pa, ps, pc, la, ls, lc, ea, es, ec⟩).1, .int .i64 (mdCheck ⟨ver, pa, ps, pc, la, ls, lc, ea, es, ec⟩).2]) ∧ Kept Nil w w' := RefCheckM_is ⟨ver, pa, ps, pc, la, ls, lc, ea, es, ec⟩ w h.r h.o.sz
theorem overs_first {ls : List Lk} (h : ¬ ∀ l ∈ ls, overB l = false) : ∃ i l, ls.findIdx? overB = some i ∧ ls[i]? = some l ∧ overB l = true ∧ ∀ (j : Nat) (u : Lk), j < i → ls[j]? = some u → overB u = false := by
  cases hf : ls.findIdx? overB with
  | none => exact absurd (over_none.1 hf) h
  | some i =>
    obtain ⟨hi, h1, h2⟩ := List.findIdx?_eq_some_iff_getElem.1 hf
    exact ⟨i, ls[i], rfl, List.getElem?_eq_getElem hi, h1, fun j u hj hu => by
      have h3 := h2 j hj
      obtain ⟨hj2, rfl⟩ := List.getElem?_eq_some_iff.1 hu
      simpa using h3⟩
/-- The model of nothing. -/
def zeroMV : Value := .agg #[.int .i64 0, .slice none 0 0, .slice none 0 0, .slice none 0 0]
structure UpEnd (m : Md) (w : World) (e : Ending) (w' : World) : Prop where
  k : Kept Nil w w'
  bad : (upF m).1 ≠ 0 → e = .returned (.tuple #[.agg #[.int .i64 0, .slice none 0 0, .slice none 0 0, .slice none 0 0], .agg #[.int .i64 (upF m).1, .int .i64 (upF m).2]])
  ok : (upF m).1 = 0 → ∃ m' : Md, e = .returned (.tuple #[.agg #[.int .i64 m'.version, .slice m'.pa m'.ps.length m'.pc, .slice m'.la m'.ls.length m'.lc, .slice m'.ea m'.es.length m'.ec], .agg #[.int .i64 0, .int .i64 0]]) ∧ HeldM w' m' ∧ SameM (upM m) m' ∧ FreshM w.heap.size m'
theorem UpEnd.of_bad {m : Md} {w w' : World} {c d : Int} (hk : Kept Nil w w') (hF : upF m = (c, d)) (hc : c ≠ 0) : UpEnd m w (.returned (.tuple #[.agg #[.int .i64 0, .slice none 0 0, .slice none 0 0, .slice none 0 0], .agg #[.int .i64 c, .int .i64 d]])) w' :=
  ⟨hk, fun _ => by rw [hF], fun h => by rw [hF] at h; exact absurd h hc⟩
theorem UpEnd.of_ok {m m' : Md} {w w' : World} {e : Ending} (hk : Kept Nil w w') (hF : upF m = (0, 0)) (he : e = .returned (.tuple #[.agg #[.int .i64 m'.version, .slice m'.pa m'.ps.length m'.pc, .slice m'.la m'.ls.length m'.lc, .slice m'.ea m'.es.length m'.ec], .agg #[.int .i64 0, .int .i64 0]])) (hh : HeldM w' m') (hs : SameM (upM m) m') (hf : FreshM w.heap.size m') : UpEnd m w e w' :=
  ⟨hk, fun h => by rw [hF] at h; exact absurd rfl h, fun _ => ⟨m', he, hh, hs, hf⟩⟩
set_option maxHeartbeats 16000000 in
theorem Up_is (ver : Int) (ps : List Pr) (ls : List Lk) (es : List Ev) (pa la ea : Option Addr) (pc lc ec : Nat) (w : World) (hm : HeldM w ⟨ver, pa, ps, pc, la, ls, lc, ea, es, ec⟩) :
    Calls Try.prog 10 #[.agg #[.int .i64 ver, .slice pa ps.length pc, .slice la ls.length lc, .slice ea es.length ec]] w fun e w' => UpEnd ⟨ver, pa, ps, pc, la, ls, lc, ea, es, ec⟩ w e w' := by
  have HM := Lib.hid hm
  have hpl : ps.length ≤ 100000 := hm.s.p
  have hll : ls.length ≤ 100000 := hm.s.l
  have hel : es.length ≤ 100000 := hm.s.e
  clear hm
  obtain ⟨F, hF⟩ : ∃ F, mdCheck ⟨ver, pa, ps, pc, la, ls, lc, ea, es, ec⟩ = F := ⟨_, rfl⟩
  have HF := Lib.hid hF
  obtain ⟨W1, hW⟩ : ∃ W, (((w.alloc (.cells #[.int .i64 ver, .slice pa ps.length pc, .slice la ls.length lc, .slice ea es.length ec] 26)).alloc (.cells #[.int .i64 0, .slice none 0 0, .slice none 0 0, .slice none 0 0] 26)).alloc (.cells #[.int .i64 0, .int .i64 0] 32)) = W := ⟨_, rfl⟩
  have hk : Kept Nil w W1 := by rw [← hW]; exact ((((Kept.refl Nil w).alloc _).alloc _).alloc _)
  have hsz : W1.heap.size = w.heap.size + 3 := by rw [← hW]; simp
  have hb : W1.heap[w.heap.size]? = some (.cells #[.int .i64 ver, .slice pa ps.length pc, .slice la ls.length lc, .slice ea es.length ec] 26 (0, 0)) := by
    rw [← hW]
    rw [heap_old _ _ (by simp only [World.size_alloc]; omega)]
    rw [heap_old _ _ (by simp only [World.size_alloc]; omega)]
    have h9 := heap_new w (.cells #[.int .i64 ver, .slice pa ps.length pc, .slice la ls.length lc, .slice ea es.length ec] 26)
    exact h9
  have G0 := Lib.hid (show W1.cell? ⟨w.heap.size, 0, none⟩ = some (.int .i64 ver) by rw [cell_of hb]; rfl)
  have G1 := Lib.hid (show W1.cell? ⟨w.heap.size, 1, none⟩ = some (.slice pa ps.length pc) by rw [cell_of hb]; rfl)
  have G2 := Lib.hid (show W1.cell? ⟨w.heap.size, 2, none⟩ = some (.slice la ls.length lc) by rw [cell_of hb]; rfl)
  have G3 := Lib.hid (show W1.cell? ⟨w.heap.size, 3, none⟩ = some (.slice ea es.length ec) by rw [cell_of hb]; rfl)
  have GB := Lib.hid hb
  have hzg : w.heap.size < W1.heap.size := by omega
  clear hb
  have hb : W1.heap[w.heap.size + 1]? = some (.cells #[.int .i64 0, .slice none 0 0, .slice none 0 0, .slice none 0 0] 26 (0, 0)) := by
    rw [← hW]
    rw [heap_old _ _ (by simp only [World.size_alloc]; omega)]
    have h9 := heap_new (w.alloc (.cells #[.int .i64 ver, .slice pa ps.length pc, .slice la ls.length lc, .slice ea es.length ec] 26)) (.cells #[.int .i64 0, .slice none 0 0, .slice none 0 0, .slice none 0 0] 26)
    simp only [World.size_alloc] at h9
    exact h9
  have Q0 := Lib.hid (show W1.cell? ⟨w.heap.size + 1, 0, none⟩ = some (.int .i64 0) by rw [cell_of hb]; rfl)
  have Q1 := Lib.hid (show W1.cell? ⟨w.heap.size + 1, 1, none⟩ = some (.slice none 0 0) by rw [cell_of hb]; rfl)
  have Q2 := Lib.hid (show W1.cell? ⟨w.heap.size + 1, 2, none⟩ = some (.slice none 0 0) by rw [cell_of hb]; rfl)
  have Q3 := Lib.hid (show W1.cell? ⟨w.heap.size + 1, 3, none⟩ = some (.slice none 0 0) by rw [cell_of hb]; rfl)
  have QB := Lib.hid hb
  have hzq : w.heap.size + 1 < W1.heap.size := by omega
  clear hb
  have hb : W1.heap[w.heap.size + 1 + 1]? = some (.cells #[.int .i64 0, .int .i64 0] 32 (0, 0)) := by
    rw [← hW]
    have h9 := heap_new ((w.alloc (.cells #[.int .i64 ver, .slice pa ps.length pc, .slice la ls.length lc, .slice ea es.length ec] 26)).alloc (.cells #[.int .i64 0, .slice none 0 0, .slice none 0 0, .slice none 0 0] 26)) (.cells #[.int .i64 0, .int .i64 0] 32)
    simp only [World.size_alloc] at h9
    exact h9
  have Z0 := Lib.hid (show W1.cell? ⟨w.heap.size + 1 + 1, 0, none⟩ = some (.int .i64 0) by rw [cell_of hb]; rfl)
  have Z1 := Lib.hid (show W1.cell? ⟨w.heap.size + 1 + 1, 1, none⟩ = some (.int .i64 0) by rw [cell_of hb]; rfl)
  have ZB := Lib.hid hb
  have hzz : w.heap.size + 1 + 1 < W1.heap.size := by omega
  clear hb
  have HW := Lib.hid hW
  have HK := Lib.hid hk
  have HSZ := Lib.hid hsz
  clear hW hk hsz
  have hcall := Check_h W1 (HM.out.nil HK.out)
  rw [hF] at hcall
  clear hF
  go_enter Try.func10, Try.ntmps10
  go_wp2_with fail
  rw [HW.out]
  have g0 := ((Kept.refl Nil W1)).cell G0.out (fun h => h)
  have g1 := ((Kept.refl Nil W1)).cell G1.out (fun h => h)
  have g2 := ((Kept.refl Nil W1)).cell G2.out (fun h => h)
  have g3 := ((Kept.refl Nil W1)).cell G3.out (fun h => h)
  have q0 := ((Kept.refl Nil W1)).cell Q0.out (fun h => h)
  have q1 := ((Kept.refl Nil W1)).cell Q1.out (fun h => h)
  have q2 := ((Kept.refl Nil W1)).cell Q2.out (fun h => h)
  have q3 := ((Kept.refl Nil W1)).cell Q3.out (fun h => h)
  have z0 := ((Kept.refl Nil W1)).cell Z0.out (fun h => h)
  have z1 := ((Kept.refl Nil W1)).cell Z1.out (fun h => h)
  go_wp2_with fail
  refine hcall.mono ?_
  clear hcall
  rintro e w2 ⟨rfl, hk2⟩
  have HK2 := Lib.hid hk2
  have hz2 := hk2.size
  clear hk2 g0 g1 g2 g3 q0 q1 q2 q3 z0 z1
  obtain ⟨W3, hW⟩ : ∃ W, (w2.alloc (.cells #[.int .i64 F.1, .int .i64 F.2] 32)) = W := ⟨_, rfl⟩
  have hk : Kept Nil w2 W3 := by rw [← hW]; exact ((Kept.refl Nil w2).alloc _)
  have hsz : W3.heap.size = w2.heap.size + 1 := by rw [← hW]; simp
  have hb : W3.heap[w2.heap.size]? = some (.cells #[.int .i64 F.1, .int .i64 F.2] 32 (0, 0)) := by
    rw [← hW]
    have h9 := heap_new w2 (.cells #[.int .i64 F.1, .int .i64 F.2] 32)
    exact h9
  have F0 := Lib.hid (show W3.cell? ⟨w2.heap.size, 0, none⟩ = some (.int .i64 F.1) by rw [cell_of hb]; rfl)
  have F1 := Lib.hid (show W3.cell? ⟨w2.heap.size, 1, none⟩ = some (.int .i64 F.2) by rw [cell_of hb]; rfl)
  have FB := Lib.hid hb
  have hzf : w2.heap.size < W3.heap.size := by omega
  clear hb
  have HW3 := Lib.hid hW
  have HK3 := Lib.hid hk
  have HSZ3 := Lib.hid hsz
  clear hW hk hsz
  have HA3 := Lib.hid (show Kept Nil W1 W3 from HK2.out.step HK3.out)
  have hz3 : w2.heap.size < W3.heap.size := by have := HSZ3.out; omega
  have hsz1 : w.heap.size + 1 + 1 < W1.heap.size := by have := HSZ.out; omega
  by_cases hF0 : F.1 = 0
  · have fF : (F.1 != 0) = false := by simp [hF0]
    have hcheck : (mdCheck ⟨ver, pa, ps, pc, la, ls, lc, ea, es, ec⟩).1 = 0 := by rw [HF.out]; exact hF0
    have HR := Lib.hid (right_of hcheck)
    have HCK := Lib.hid hcheck
    clear hF0 hcheck
    have f0 := F0.out
    have f1 := F1.out
    have g0 := (HA3.out).cell G0.out (fun h => h)
    have g1 := (HA3.out).cell G1.out (fun h => h)
    have g2 := (HA3.out).cell G2.out (fun h => h)
    have g3 := (HA3.out).cell G3.out (fun h => h)
    have q0 := (HA3.out).cell Q0.out (fun h => h)
    have q1 := (HA3.out).cell Q1.out (fun h => h)
    have q2 := (HA3.out).cell Q2.out (fun h => h)
    have q3 := (HA3.out).cell Q3.out (fun h => h)
    have z0 := (HA3.out).cell Z0.out (fun h => h)
    have z1 := (HA3.out).cell Z1.out (fun h => h)
    go_upto_region 4 with fail
    rw [HW3.out]
    go_upto_region 5 with fail
    clear f0 f1 fF g0 g1 g2 g3 q0 q1 q2 q3 z0 z1
    obtain ⟨W4, hW⟩ : ∃ W, (W3.alloc (.cells #[.int .i64 0, .int .i64 0] 32)) = W := ⟨_, rfl⟩
    have hk : Kept Nil W3 W4 := by rw [← hW]; exact ((Kept.refl Nil W3).alloc _)
    have hsz : W4.heap.size = W3.heap.size + 1 := by rw [← hW]; simp
    have hb : W4.heap[W3.heap.size]? = some (.cells #[.int .i64 0, .int .i64 0] 32 (0, 0)) := by
      rw [← hW]
      have h9 := heap_new W3 (.cells #[.int .i64 0, .int .i64 0] 32)
      exact h9
    have T0 := Lib.hid (show W4.cell? ⟨W3.heap.size, 0, none⟩ = some (.int .i64 0) by rw [cell_of hb]; rfl)
    have T1 := Lib.hid (show W4.cell? ⟨W3.heap.size, 1, none⟩ = some (.int .i64 0) by rw [cell_of hb]; rfl)
    have TB := Lib.hid hb
    have hzt : W3.heap.size < W4.heap.size := by omega
    clear hb
    have HW4 := Lib.hid hW
    have HK4 := Lib.hid hk
    have HSZ4 := Lib.hid hsz
    clear hW hk hsz
    rw [HW4.out]
    have HA4 := Lib.hid (show Kept Nil W1 W4 from HA3.out.step HK4.out)
    have hz4 : W3.heap.size < W4.heap.size := by have := HSZ4.out; omega
    have g0 := (HA4.out).cell G0.out (fun h => h)
    have g1 := (HA4.out).cell G1.out (fun h => h)
    have g2 := (HA4.out).cell G2.out (fun h => h)
    have g3 := (HA4.out).cell G3.out (fun h => h)
    have q0 := (HA4.out).cell Q0.out (fun h => h)
    have q1 := (HA4.out).cell Q1.out (fun h => h)
    have q2 := (HA4.out).cell Q2.out (fun h => h)
    have q3 := (HA4.out).cell Q3.out (fun h => h)
    have z0 := (HA4.out).cell Z0.out (fun h => h)
    have z1 := (HA4.out).cell Z1.out (fun h => h)
    have gf0 : W4.frozen? ⟨w.heap.size, 0, none⟩ = false := HA4.out.frozen (p := ⟨w.heap.size, 0, none⟩) hzg (frozen_of GB.out 0) (fun h => h)
    have gf1 : W4.frozen? ⟨w.heap.size, 1, none⟩ = false := HA4.out.frozen (p := ⟨w.heap.size, 1, none⟩) hzg (frozen_of GB.out 1) (fun h => h)
    have gf2 : W4.frozen? ⟨w.heap.size, 2, none⟩ = false := HA4.out.frozen (p := ⟨w.heap.size, 2, none⟩) hzg (frozen_of GB.out 2) (fun h => h)
    have gf3 : W4.frozen? ⟨w.heap.size, 3, none⟩ = false := HA4.out.frozen (p := ⟨w.heap.size, 3, none⟩) hzg (frozen_of GB.out 3) (fun h => h)
    have qf0 : W4.frozen? ⟨w.heap.size + 1, 0, none⟩ = false := HA4.out.frozen (p := ⟨w.heap.size + 1, 0, none⟩) hzq (frozen_of QB.out 0) (fun h => h)
    have qf1 : W4.frozen? ⟨w.heap.size + 1, 1, none⟩ = false := HA4.out.frozen (p := ⟨w.heap.size + 1, 1, none⟩) hzq (frozen_of QB.out 1) (fun h => h)
    have qf2 : W4.frozen? ⟨w.heap.size + 1, 2, none⟩ = false := HA4.out.frozen (p := ⟨w.heap.size + 1, 2, none⟩) hzq (frozen_of QB.out 2) (fun h => h)
    have qf3 : W4.frozen? ⟨w.heap.size + 1, 3, none⟩ = false := HA4.out.frozen (p := ⟨w.heap.size + 1, 3, none⟩) hzq (frozen_of QB.out 3) (fun h => h)
    have zf0 : W4.frozen? ⟨w.heap.size + 1 + 1, 0, none⟩ = false := HA4.out.frozen (p := ⟨w.heap.size + 1 + 1, 0, none⟩) hzz (frozen_of ZB.out 0) (fun h => h)
    have zf1 : W4.frozen? ⟨w.heap.size + 1 + 1, 1, none⟩ = false := HA4.out.frozen (p := ⟨w.heap.size + 1 + 1, 1, none⟩) hzz (frozen_of ZB.out 1) (fun h => h)
    have t0 := T0.out
    have t1 := T1.out
    have hver : ver = 1 ∨ ver = 2 ∨ ver = 3 := by have := HR.out.v; simp only at this; omega
    rcases hver with rfl | rfl | rfl
    · have hd : ∀ l ∈ ls, 1 ≤ l.delay ∧ l.delay ≤ 1099511627776 := by
        intro l hl
        obtain ⟨j, hj, hl⟩ := List.mem_iff_getElem.1 hl
        have h9 := (HR.out.lk (j := j) (u := l) (by rw [← hl]; exact List.getElem?_eq_getElem _)).d
        omega
      have HD := Lib.hid hd
      have hcall := delays_is 1 ps ls es pa la ea pc lc ec W4 (HM.out.nil (HK.out.step HA4.out)).r.l HM.out.o.ln hll hpl hd
      clear hd
      go_wp2_with fail
      refine hcall.mono ?_
      clear hcall
      rintro e w5 hE
      have HKD := Lib.hid hE.k
      have hz5 := hE.k.size
      have HG5 := Lib.hid (HKD.out.heap (HA4.out.heap GB.out (fun h => h)) (fun h => h))
      have HT5 := Lib.hid (HKD.out.heap TB.out (fun h => h))
      clear g0 g1 g2 g3 q0 q1 q2 q3 z0 z1 gf0 gf1 gf2 gf3 qf0 qf1 qf2 qf3 zf0 zf1 t0 t1
      have g0 : w5.cell? ⟨w.heap.size, 0, none⟩ = some (.int .i64 1) := by rw [cell_of HG5.out]; rfl
      have g1 : w5.cell? ⟨w.heap.size, 1, none⟩ = some (.slice pa ps.length pc) := by rw [cell_of HG5.out]; rfl
      have g2 : w5.cell? ⟨w.heap.size, 2, none⟩ = some (.slice la ls.length lc) := by rw [cell_of HG5.out]; rfl
      have g3 : w5.cell? ⟨w.heap.size, 3, none⟩ = some (.slice ea es.length ec) := by rw [cell_of HG5.out]; rfl
      have gf0 : w5.frozen? ⟨w.heap.size, 0, none⟩ = false := frozen_of HG5.out 0
      have gf1 : w5.frozen? ⟨w.heap.size, 1, none⟩ = false := frozen_of HG5.out 1
      have gf2 : w5.frozen? ⟨w.heap.size, 2, none⟩ = false := frozen_of HG5.out 2
      have gf3 : w5.frozen? ⟨w.heap.size, 3, none⟩ = false := frozen_of HG5.out 3
      have t0 : w5.cell? ⟨W3.heap.size, 0, none⟩ = some (.int .i64 0) := by rw [cell_of HT5.out]; rfl
      have t1 : w5.cell? ⟨W3.heap.size, 1, none⟩ = some (.int .i64 0) := by rw [cell_of HT5.out]; rfl
      have tf0 : w5.frozen? ⟨W3.heap.size, 0, none⟩ = false := frozen_of HT5.out 0
      have tf1 : w5.frozen? ⟨W3.heap.size, 1, none⟩ = false := frozen_of HT5.out 1
      have htg : W3.heap.size ≠ w.heap.size := by omega
      by_cases hov : ∀ l ∈ ls, overB l = false
      · obtain ⟨A, c, rfl, hL, hA, hc, hfr⟩ := hE.ok hov
        have HOV := Lib.hid hov
        have HL := Lib.hid hL
        have HAN := Lib.hid hA
        have HFR := Lib.hid hfr
        clear hE hov hL hA hfr
        go_upto_region 11 with fail
        obtain ⟨wp, hwp⟩ : ∃ wp, ((((w5.setCell ⟨w.heap.size, 0, none⟩ (.int .i64 1)).setCell ⟨w.heap.size, 1, none⟩ (.slice pa ps.length pc)).setCell ⟨w.heap.size, 2, none⟩ (.slice A ls.length c)).setCell ⟨w.heap.size, 3, none⟩ (.slice ea es.length ec)) = wp := ⟨_, rfl⟩
        obtain ⟨W6, hW6⟩ : ∃ W6, ((wp.setCell ⟨W3.heap.size, 0, none⟩ (.int .i64 0)).setCell ⟨W3.heap.size, 1, none⟩ (.int .i64 0)) = W6 := ⟨_, rfl⟩
        simp only [hwp, hW6]
        have hgp : wp.heap[w.heap.size]? = some (.cells #[.int .i64 1, .slice pa ps.length pc, .slice A ls.length c, .slice ea es.length ec] 26 (0, 0)) := by rw [← hwp, heap_set (heap_set (heap_set (heap_set HG5.out 0 _) 1 _) 2 _) 3 _]; rfl
        have htp : wp.heap[W3.heap.size]? = some (.cells #[.int .i64 0, .int .i64 0] 32 (0, 0)) := by rw [← hwp, heap_set_other htg, heap_set_other htg, heap_set_other htg, heap_set_other htg]; exact HT5.out
        have hkp : Kept (fun i => i = w.heap.size ∨ i = W3.heap.size) w5 wp := by rw [← hwp]; exact ((((Kept.refl (fun i => i = w.heap.size ∨ i = W3.heap.size) w5).setCell (.inl (.inl rfl)) _).setCell (.inl (.inl rfl)) _).setCell (.inl (.inl rfl)) _).setCell (.inl (.inl rfl)) _
        have HG6 := Lib.hid (show W6.heap[w.heap.size]? = some (.cells #[.int .i64 1, .slice pa ps.length pc, .slice A ls.length c, .slice ea es.length ec] 26 (0, 0)) by rw [← hW6, heap_set_other (Ne.symm htg), heap_set_other (Ne.symm htg)]; exact hgp)
        have HT6 := Lib.hid (show W6.heap[W3.heap.size]? = some (.cells #[.int .i64 0, .int .i64 0] 32 (0, 0)) by rw [← hW6, heap_set (heap_set htp 0 _) 1 _]; rfl)
        have HK56 := Lib.hid (show Kept (fun i => i = w.heap.size ∨ i = W3.heap.size) w5 W6 by rw [← hW6]; exact (hkp.setCell (.inl (.inr rfl)) _).setCell (.inl (.inr rfl)) _)
        have hz6 := HK56.out.size
        clear hwp hgp htp hkp g0 g1 g2 g3 gf0 gf1 gf2 gf3 t0 t1 tf0 tf1 hW6
        have HR5 := Lib.hid (show RModel w5 ⟨2, pa, ps, pc, A, ls.map dlL, c, ea, es, ec⟩ from ⟨(HM.out.nil ((HK.out.step HA4.out).step HKD.out)).r.p, (HM.out.nil ((HK.out.step HA4.out).step HKD.out)).r.pp, HL.out, (HM.out.nil ((HK.out.step HA4.out).step HKD.out)).r.e, HM.out.r.pl, by simp only [List.length_map]; exact HM.out.r.ll, HM.out.r.el⟩)
        have HOUT := Lib.hid (show OutM (fun i => i = w.heap.size ∨ i = W3.heap.size) ⟨2, pa, ps, pc, A, ls.map dlL, c, ea, es, ec⟩ from ⟨fun g off hn e h => HM.out.r.low.p g off hn e (by omega), fun q hq => ⟨fun g off hn e h => (HM.out.r.low.pp q hq).v g off hn e (by omega), fun g off hn e h => (HM.out.r.low.pp q hq).s g off hn e (by omega)⟩, fun g off hn e h => by have h9 := HFR.out g off (fun h => hn (by simp only; rw [h]; rfl)) e; omega, fun g off hn e h => HM.out.r.low.e g off hn e (by omega)⟩)
        have HO5 := Lib.hid (show OkM ⟨2, pa, ps, pc, A, ls.map dlL, c, ea, es, ec⟩ from ⟨by simp only [Sc.I64]; omega, HM.out.o.p, fun l hl => by simp only [List.mem_map] at hl; obtain ⟨l, hl, rfl⟩ := hl; exact (HM.out.o.l l hl).dlo (HD.out l hl).1 (HOV.out l hl), HM.out.o.e, HM.out.o.pc, HM.out.o.pn, by simpa using hc, HAN.out, HM.out.o.ec, HM.out.o.en⟩)
        have HS5 := Lib.hid (show SmallM ⟨2, pa, ps, pc, A, ls.map dlL, c, ea, es, ec⟩ from HM.out.s.dl)
        have HUF := Lib.hid (show upF ⟨1, pa, ps, pc, la, ls, lc, ea, es, ec⟩ = (0, 0) by unfold upF; rw [if_neg (by rw [HCK.out]; simp), if_neg (by simp), if_pos rfl, over_none.2 HOV.out])
        clear hc
        have g0 : W6.cell? ⟨w.heap.size, 0, none⟩ = some (.int .i64 1) := by rw [cell_of HG6.out]; rfl
        have gf0 : W6.frozen? ⟨w.heap.size, 0, none⟩ = false := frozen_of HG6.out 0
        have t0 : W6.cell? ⟨W3.heap.size, 0, none⟩ = some (.int .i64 0) := by rw [cell_of HT6.out]; rfl
        go_upto_region 14 with fail
        obtain ⟨W7, hW7⟩ : ∃ W7, W6.setCell ⟨w.heap.size, 0, none⟩ (.int .i64 2) = W7 := ⟨_, rfl⟩
        rw [hW7]
        have hk67 : Kept (fun i => i = w.heap.size ∨ i = W3.heap.size) W6 W7 := by rw [← hW7]; exact (Kept.refl (fun i => i = w.heap.size ∨ i = W3.heap.size) W6).setCell (.inl (.inl rfl)) _
        have hg7 : W7.heap[w.heap.size]? = some (.cells #[.int .i64 2, .slice pa ps.length pc, .slice A ls.length c, .slice ea es.length ec] 26 (0, 0)) := by rw [← hW7, heap_set HG6.out 0 _]; rfl
        have HG7 := Lib.hid hg7
        have hk57 := HK56.out.trans hk67 (fun i h => .inl h)
        have HK57 := Lib.hid hk57
        have hz57 := hk57.size
        clear hW7 hk67 hg7 hk57 g0 gf0 t0
        have hr7 := HR5.out.out HOUT.out HK57.out
        have HR7 := Lib.hid hr7
        clear hr7
        have g0 : W7.cell? ⟨w.heap.size, 0, none⟩ = some (.int .i64 2) := by rw [cell_of HG7.out]; rfl
        have g1 : W7.cell? ⟨w.heap.size, 1, none⟩ = some (.slice pa ps.length pc) := by rw [cell_of HG7.out]; rfl
        have g2 : W7.cell? ⟨w.heap.size, 2, none⟩ = some (.slice A ls.length c) := by rw [cell_of HG7.out]; rfl
        have g3 : W7.cell? ⟨w.heap.size, 3, none⟩ = some (.slice ea es.length ec) := by rw [cell_of HG7.out]; rfl
        have hown := own_is 2 ps (ls.map dlL) es pa A ea pc c ec W7 HR7.out HO5.out HS5.out
        simp only [List.length_map] at hown
        go_wp2_with fail
        refine hown.mono ?_
        clear hown g0 g1 g2 g3
        rintro e w8 hE
        have hk8 := hE.k
        have hz8 := hk8.size
        obtain ⟨⟨v9, pa9, ps9, pc9, la9, ls9, lc9, ea9, es9, ec9⟩, e9, hr8, ho8, hs8, hf8⟩ := hE.ok
        simp only [List.length_map] at e9
        subst e9
        have HK8 := Lib.hid hk8
        have HR8 := Lib.hid hr8
        have HO8 := Lib.hid ho8
        have HS8 := Lib.hid hs8
        have HF8 := Lib.hid hf8
        clear hE hk8 hr8 ho8 hs8 hf8
        have HK17 := Lib.hid (show Kept (fun i => i = w.heap.size) W1 W7 from (HA4.out.step HKD.out).any.trans HK57.out (fun i h => by rcases h with h | h; exact .inl h; exact .inr (by omega)))
        have HQ8 := Lib.hid (HK8.out.heap (HK17.out.heap QB.out (by omega)) (fun h => h))
        have HZ8 := Lib.hid (HK8.out.heap (HK17.out.heap ZB.out (by omega)) (fun h => h))
        have q0 : w8.cell? ⟨w.heap.size + 1, 0, none⟩ = some (.int .i64 0) := by rw [cell_of HQ8.out]; rfl
        have q1 : w8.cell? ⟨w.heap.size + 1, 1, none⟩ = some (.slice none 0 0) := by rw [cell_of HQ8.out]; rfl
        have q2 : w8.cell? ⟨w.heap.size + 1, 2, none⟩ = some (.slice none 0 0) := by rw [cell_of HQ8.out]; rfl
        have q3 : w8.cell? ⟨w.heap.size + 1, 3, none⟩ = some (.slice none 0 0) := by rw [cell_of HQ8.out]; rfl
        have qf0 : w8.frozen? ⟨w.heap.size + 1, 0, none⟩ = false := frozen_of HQ8.out 0
        have qf1 : w8.frozen? ⟨w.heap.size + 1, 1, none⟩ = false := frozen_of HQ8.out 1
        have qf2 : w8.frozen? ⟨w.heap.size + 1, 2, none⟩ = false := frozen_of HQ8.out 2
        have qf3 : w8.frozen? ⟨w.heap.size + 1, 3, none⟩ = false := frozen_of HQ8.out 3
        have z0 : w8.cell? ⟨w.heap.size + 1 + 1, 0, none⟩ = some (.int .i64 0) := by rw [cell_of HZ8.out]; rfl
        have z1 : w8.cell? ⟨w.heap.size + 1 + 1, 1, none⟩ = some (.int .i64 0) := by rw [cell_of HZ8.out]; rfl
        have zf0 : w8.frozen? ⟨w.heap.size + 1 + 1, 0, none⟩ = false := frozen_of HZ8.out 0
        have zf1 : w8.frozen? ⟨w.heap.size + 1 + 1, 1, none⟩ = false := frozen_of HZ8.out 1
        go_wp2_with fail
        obtain ⟨wq, hwq⟩ : ∃ wq, ((((w8.setCell ⟨w.heap.size + 1, 0, none⟩ (.int .i64 2)).setCell ⟨w.heap.size + 1, 1, none⟩ (.slice pa9 ps.length pc9)).setCell ⟨w.heap.size + 1, 2, none⟩ (.slice la9 ls.length lc9)).setCell ⟨w.heap.size + 1, 3, none⟩ (.slice ea9 es.length ec9)) = wq := ⟨_, rfl⟩
        obtain ⟨we, hwe⟩ : ∃ we, ((wq.setCell ⟨w.heap.size + 1 + 1, 0, none⟩ (.int .i64 0)).setCell ⟨w.heap.size + 1 + 1, 1, none⟩ (.int .i64 0)) = we := ⟨_, rfl⟩
        simp only [hwq, hwe]
        have hqq : wq.heap[w.heap.size + 1]? = some (.cells #[.int .i64 2, .slice pa9 ps.length pc9, .slice la9 ls.length lc9, .slice ea9 es.length ec9] 26 (0, 0)) := by rw [← hwq, heap_set (heap_set (heap_set (heap_set HQ8.out 0 _) 1 _) 2 _) 3 _]; rfl
        have hzq : wq.heap[w.heap.size + 1 + 1]? = some (.cells #[.int .i64 0, .int .i64 0] 32 (0, 0)) := by rw [← hwq, heap_set_other (by simp), heap_set_other (by simp), heap_set_other (by simp), heap_set_other (by simp)]; exact HZ8.out
        have hqe : we.heap[w.heap.size + 1]? = some (.cells #[.int .i64 2, .slice pa9 ps.length pc9, .slice la9 ls.length lc9, .slice ea9 es.length ec9] 26 (0, 0)) := by rw [← hwe, heap_set_other (by simp), heap_set_other (by simp)]; exact hqq
        have hze : we.heap[w.heap.size + 1 + 1]? = some (.cells #[.int .i64 0, .int .i64 0] 32 (0, 0)) := by rw [← hwe, heap_set (heap_set hzq 0 _) 1 _]; rfl
        have hgk : Kept (fun b => b = w.heap.size + 1 ∨ b = w.heap.size + 1 + 1) w8 we := by rw [← hwe, ← hwq]; exact ((((((Kept.refl (fun b => b = w.heap.size + 1 ∨ b = w.heap.size + 1 + 1) w8).setCell (.inl (.inl rfl)) _).setCell (.inl (.inl rfl)) _).setCell (.inl (.inl rfl)) _).setCell (.inl (.inl rfl)) _).setCell (.inl (.inr rfl)) _).setCell (.inl (.inr rfl)) _
        have hke : Kept Nil w we := ((HK.out.trans HK17.out (fun i h => .inr (by omega))).step HK8.out).trans hgk (fun i hi => .inr (by omega))
        have s0 : we.cell? ⟨w.heap.size + 1, 0, none⟩ = some (.int .i64 2) := by rw [cell_of hqe]; rfl
        have s1 : we.cell? ⟨w.heap.size + 1, 1, none⟩ = some (.slice pa9 ps.length pc9) := by rw [cell_of hqe]; rfl
        have s2 : we.cell? ⟨w.heap.size + 1, 2, none⟩ = some (.slice la9 ls.length lc9) := by rw [cell_of hqe]; rfl
        have s3 : we.cell? ⟨w.heap.size + 1, 3, none⟩ = some (.slice ea9 es.length ec9) := by rw [cell_of hqe]; rfl
        have t0 : we.cell? ⟨w.heap.size + 1 + 1, 0, none⟩ = some (.int .i64 0) := by rw [cell_of hze]; rfl
        have t1 : we.cell? ⟨w.heap.size + 1 + 1, 1, none⟩ = some (.int .i64 0) := by rw [cell_of hze]; rfl
        refine bodyPost_ret (v := .tuple #[.agg #[.int .i64 2, .slice pa9 ps.length pc9, .slice la9 ls.length lc9, .slice ea9 es.length ec9], .agg #[.int .i64 0, .int .i64 0]]) (by simp [results, Try.results10, go_sem, s0, s1, s2, s3, t0, t1]) rfl ?_
        have hl1 := HS8.out.p.l
        have hl2 := HS8.out.l
        have hl3 := HS8.out.e
        have hl0 := HS8.out.v
        simp only [List.length_map] at hl0 hl1 hl2 hl3
        refine UpEnd.of_ok hke HUF.out (m' := ⟨v9, pa9, ps9, pc9, la9, ls9, lc9, ea9, es9, ec9⟩) ?_ ⟨HR8.out.fresh HF8.out hgk (fun i hi h => by omega), HO8.out, HS5.out.same HS8.out⟩ ?_ ?_
        · simp only [← hl0, ← hl1, ← hl2, ← hl3, List.length_map]
        · exact (show SameM (upM ⟨1, pa, ps, pc, la, ls, lc, ea, es, ec⟩) ⟨2, pa, ps, pc, A, ls.map dlL, c, ea, es, ec⟩ from by unfold upM; rw [if_pos rfl]; exact ⟨rfl, SamePs.refl _, rfl, rfl⟩).trans HS8.out
        · exact ⟨fun g off hn e => by have := HF8.out.p g off hn e; omega, fun q hq => ⟨fun g off hn e => by have := (HF8.out.pp q hq).v g off hn e; omega, fun g off hn e => by have := (HF8.out.pp q hq).s g off hn e; omega⟩, fun g off hn e => by have := HF8.out.l g off hn e; omega, fun g off hn e => by have := HF8.out.e g off hn e; omega⟩
      · obtain ⟨i, l, hi, hl, ho, hlow⟩ := overs_first hov
        have hE2 := hE.bad i l hl ho hlow
        subst hE2
        have HI := Lib.hid hi
        clear hE hov hi hl ho hlow
        go_upto_region 11 with fail
        obtain ⟨wp, hwp⟩ : ∃ wp, ((((w5.setCell ⟨w.heap.size, 0, none⟩ (.int .i64 0)).setCell ⟨w.heap.size, 1, none⟩ (.slice none 0 0)).setCell ⟨w.heap.size, 2, none⟩ (.slice none 0 0)).setCell ⟨w.heap.size, 3, none⟩ (.slice none 0 0)) = wp := ⟨_, rfl⟩
        obtain ⟨W6, hW6⟩ : ∃ W6, ((wp.setCell ⟨W3.heap.size, 0, none⟩ (.int .i64 30)).setCell ⟨W3.heap.size, 1, none⟩ (.int .i64 ((ps.length : Int) + (i : Int) + 1))) = W6 := ⟨_, rfl⟩
        simp only [hwp, hW6]
        have hgp : wp.heap[w.heap.size]? = some (.cells #[.int .i64 0, .slice none 0 0, .slice none 0 0, .slice none 0 0] 26 (0, 0)) := by rw [← hwp, heap_set (heap_set (heap_set (heap_set HG5.out 0 _) 1 _) 2 _) 3 _]; rfl
        have htp : wp.heap[W3.heap.size]? = some (.cells #[.int .i64 0, .int .i64 0] 32 (0, 0)) := by rw [← hwp, heap_set_other htg, heap_set_other htg, heap_set_other htg, heap_set_other htg]; exact HT5.out
        have hkp : Kept (fun i => i = w.heap.size ∨ i = W3.heap.size) w5 wp := by rw [← hwp]; exact ((((Kept.refl (fun i => i = w.heap.size ∨ i = W3.heap.size) w5).setCell (.inl (.inl rfl)) _).setCell (.inl (.inl rfl)) _).setCell (.inl (.inl rfl)) _).setCell (.inl (.inl rfl)) _
        have HG6 := Lib.hid (show W6.heap[w.heap.size]? = some (.cells #[.int .i64 0, .slice none 0 0, .slice none 0 0, .slice none 0 0] 26 (0, 0)) by rw [← hW6, heap_set_other (Ne.symm htg), heap_set_other (Ne.symm htg)]; exact hgp)
        have HT6 := Lib.hid (show W6.heap[W3.heap.size]? = some (.cells #[.int .i64 30, .int .i64 ((ps.length : Int) + (i : Int) + 1)] 32 (0, 0)) by rw [← hW6, heap_set (heap_set htp 0 _) 1 _]; rfl)
        have HK56 := Lib.hid (show Kept (fun i => i = w.heap.size ∨ i = W3.heap.size) w5 W6 by rw [← hW6]; exact (hkp.setCell (.inl (.inr rfl)) _).setCell (.inl (.inr rfl)) _)
        have hz6 := HK56.out.size
        clear hwp hgp htp hkp g0 g1 g2 g3 gf0 gf1 gf2 gf3 t0 t1 tf0 tf1 hW6
        have HK16 := Lib.hid (show Kept (fun i => i = w.heap.size) W1 W6 from (HA4.out.step HKD.out).any.trans HK56.out (fun i h => by rcases h with h | h; exact .inl h; exact .inr (by omega)))
        have HQ6 := Lib.hid (HK16.out.heap QB.out (by omega))
        have HZ6 := Lib.hid (HK16.out.heap ZB.out (by omega))
        have g0 : W6.cell? ⟨w.heap.size, 0, none⟩ = some (.int .i64 0) := by rw [cell_of HG6.out]; rfl
        have g1 : W6.cell? ⟨w.heap.size, 1, none⟩ = some (.slice none 0 0) := by rw [cell_of HG6.out]; rfl
        have g2 : W6.cell? ⟨w.heap.size, 2, none⟩ = some (.slice none 0 0) := by rw [cell_of HG6.out]; rfl
        have g3 : W6.cell? ⟨w.heap.size, 3, none⟩ = some (.slice none 0 0) := by rw [cell_of HG6.out]; rfl
        have t0 : W6.cell? ⟨W3.heap.size, 0, none⟩ = some (.int .i64 30) := by rw [cell_of HT6.out]; rfl
        have t1 : W6.cell? ⟨W3.heap.size, 1, none⟩ = some (.int .i64 ((ps.length : Int) + (i : Int) + 1)) := by rw [cell_of HT6.out]; rfl
        have q0 : W6.cell? ⟨w.heap.size + 1, 0, none⟩ = some (.int .i64 0) := by rw [cell_of HQ6.out]; rfl
        have q1 : W6.cell? ⟨w.heap.size + 1, 1, none⟩ = some (.slice none 0 0) := by rw [cell_of HQ6.out]; rfl
        have q2 : W6.cell? ⟨w.heap.size + 1, 2, none⟩ = some (.slice none 0 0) := by rw [cell_of HQ6.out]; rfl
        have q3 : W6.cell? ⟨w.heap.size + 1, 3, none⟩ = some (.slice none 0 0) := by rw [cell_of HQ6.out]; rfl
        have qf0 : W6.frozen? ⟨w.heap.size + 1, 0, none⟩ = false := frozen_of HQ6.out 0
        have qf1 : W6.frozen? ⟨w.heap.size + 1, 1, none⟩ = false := frozen_of HQ6.out 1
        have qf2 : W6.frozen? ⟨w.heap.size + 1, 2, none⟩ = false := frozen_of HQ6.out 2
        have qf3 : W6.frozen? ⟨w.heap.size + 1, 3, none⟩ = false := frozen_of HQ6.out 3
        have z0 : W6.cell? ⟨w.heap.size + 1 + 1, 0, none⟩ = some (.int .i64 0) := by rw [cell_of HZ6.out]; rfl
        have z1 : W6.cell? ⟨w.heap.size + 1 + 1, 1, none⟩ = some (.int .i64 0) := by rw [cell_of HZ6.out]; rfl
        have zf0 : W6.frozen? ⟨w.heap.size + 1 + 1, 0, none⟩ = false := frozen_of HZ6.out 0
        have zf1 : W6.frozen? ⟨w.heap.size + 1 + 1, 1, none⟩ = false := frozen_of HZ6.out 1
        go_upto_region 12 with fail
        go_region
        go_wp2_with fail
        obtain ⟨wq, hwq⟩ : ∃ wq, ((((W6.setCell ⟨w.heap.size + 1, 0, none⟩ (.int .i64 0)).setCell ⟨w.heap.size + 1, 1, none⟩ (.slice none 0 0)).setCell ⟨w.heap.size + 1, 2, none⟩ (.slice none 0 0)).setCell ⟨w.heap.size + 1, 3, none⟩ (.slice none 0 0)) = wq := ⟨_, rfl⟩
        obtain ⟨we, hwe⟩ : ∃ we, ((wq.setCell ⟨w.heap.size + 1 + 1, 0, none⟩ (.int .i64 30)).setCell ⟨w.heap.size + 1 + 1, 1, none⟩ (.int .i64 ((ps.length : Int) + (i : Int) + 1))).drew = we := ⟨_, rfl⟩
        simp only [hwq, hwe]
        have hqq : wq.heap[w.heap.size + 1]? = some (.cells #[.int .i64 0, .slice none 0 0, .slice none 0 0, .slice none 0 0] 26 (0, 0)) := by rw [← hwq, heap_set (heap_set (heap_set (heap_set HQ6.out 0 _) 1 _) 2 _) 3 _]; rfl
        have hzq : wq.heap[w.heap.size + 1 + 1]? = some (.cells #[.int .i64 0, .int .i64 0] 32 (0, 0)) := by rw [← hwq, heap_set_other (by simp), heap_set_other (by simp), heap_set_other (by simp), heap_set_other (by simp)]; exact HZ6.out
        have hqe : we.heap[w.heap.size + 1]? = some (.cells #[.int .i64 0, .slice none 0 0, .slice none 0 0, .slice none 0 0] 26 (0, 0)) := by rw [← hwe, heap_drew, heap_set_other (by simp), heap_set_other (by simp)]; exact hqq
        have hze : we.heap[w.heap.size + 1 + 1]? = some (.cells #[.int .i64 30, .int .i64 ((ps.length : Int) + (i : Int) + 1)] 32 (0, 0)) := by rw [← hwe, heap_drew, heap_set (heap_set hzq 0 _) 1 _]; rfl
        have hgk : Kept (fun b => b = w.heap.size + 1 ∨ b = w.heap.size + 1 + 1) W6 we := by rw [← hwe, ← hwq]; exact (((((((Kept.refl (fun b => b = w.heap.size + 1 ∨ b = w.heap.size + 1 + 1) W6).setCell (.inl (.inl rfl)) _).setCell (.inl (.inl rfl)) _).setCell (.inl (.inl rfl)) _).setCell (.inl (.inl rfl)) _).setCell (.inl (.inr rfl)) _).setCell (.inl (.inr rfl)) _).drew
        have hke : Kept Nil w we := (HK.out.trans HK16.out (fun i h => .inr (by omega))).trans hgk (fun i hi => .inr (by omega))
        have s0 : we.cell? ⟨w.heap.size + 1, 0, none⟩ = some (.int .i64 0) := by rw [cell_of hqe]; rfl
        have s1 : we.cell? ⟨w.heap.size + 1, 1, none⟩ = some (.slice none 0 0) := by rw [cell_of hqe]; rfl
        have s2 : we.cell? ⟨w.heap.size + 1, 2, none⟩ = some (.slice none 0 0) := by rw [cell_of hqe]; rfl
        have s3 : we.cell? ⟨w.heap.size + 1, 3, none⟩ = some (.slice none 0 0) := by rw [cell_of hqe]; rfl
        have t0 : we.cell? ⟨w.heap.size + 1 + 1, 0, none⟩ = some (.int .i64 30) := by rw [cell_of hze]; rfl
        have t1 : we.cell? ⟨w.heap.size + 1 + 1, 1, none⟩ = some (.int .i64 ((ps.length : Int) + (i : Int) + 1)) := by rw [cell_of hze]; rfl
        refine bodyPost_ret (v := .tuple #[.agg #[.int .i64 0, .slice none 0 0, .slice none 0 0, .slice none 0 0], .agg #[.int .i64 30, .int .i64 ((ps.length : Int) + (i : Int) + 1)]]) (by simp [results, Try.results10, go_sem, s0, s1, s2, s3, t0, t1]) rfl ?_
        exact UpEnd.of_bad hke (by unfold upF; rw [if_neg (by rw [HCK.out]; simp), if_neg (by simp), if_pos rfl, HI.out]) (by decide)
    · have hcall := weights_is 2 ps ls es pa la ea pc lc ec W4 (HM.out.nil (HK.out.step HA4.out)).r.p HM.out.o.pn (HM.out.nil (HK.out.step HA4.out)).r.l HM.out.o.ln hll hpl
      go_wp2_with fail
      refine hcall.mono ?_
      clear hcall
      rintro e w5 hE
      have HKD := Lib.hid hE.k
      have hz5 := hE.k.size
      have HG5 := Lib.hid (HKD.out.heap (HA4.out.heap GB.out (fun h => h)) (fun h => h))
      have HT5 := Lib.hid (HKD.out.heap TB.out (fun h => h))
      clear g0 g1 g2 g3 q0 q1 q2 q3 z0 z1 gf0 gf1 gf2 gf3 qf0 qf1 qf2 qf3 zf0 zf1 t0 t1
      have g0 : w5.cell? ⟨w.heap.size, 0, none⟩ = some (.int .i64 2) := by rw [cell_of HG5.out]; rfl
      have g1 : w5.cell? ⟨w.heap.size, 1, none⟩ = some (.slice pa ps.length pc) := by rw [cell_of HG5.out]; rfl
      have g2 : w5.cell? ⟨w.heap.size, 2, none⟩ = some (.slice la ls.length lc) := by rw [cell_of HG5.out]; rfl
      have g3 : w5.cell? ⟨w.heap.size, 3, none⟩ = some (.slice ea es.length ec) := by rw [cell_of HG5.out]; rfl
      have gf0 : w5.frozen? ⟨w.heap.size, 0, none⟩ = false := frozen_of HG5.out 0
      have gf1 : w5.frozen? ⟨w.heap.size, 1, none⟩ = false := frozen_of HG5.out 1
      have gf2 : w5.frozen? ⟨w.heap.size, 2, none⟩ = false := frozen_of HG5.out 2
      have gf3 : w5.frozen? ⟨w.heap.size, 3, none⟩ = false := frozen_of HG5.out 3
      have t0 : w5.cell? ⟨W3.heap.size, 0, none⟩ = some (.int .i64 0) := by rw [cell_of HT5.out]; rfl
      have t1 : w5.cell? ⟨W3.heap.size, 1, none⟩ = some (.int .i64 0) := by rw [cell_of HT5.out]; rfl
      have tf0 : w5.frozen? ⟨W3.heap.size, 0, none⟩ = false := frozen_of HT5.out 0
      have tf1 : w5.frozen? ⟨W3.heap.size, 1, none⟩ = false := frozen_of HT5.out 1
      have htg : W3.heap.size ≠ w.heap.size := by omega
      obtain ⟨A, c, B, d, rfl, hP, hL, hA, hB, hc, hd, hfa, hfb⟩ := hE.ok
      have HP := Lib.hid hP
      have HL := Lib.hid hL
      have HAN := Lib.hid hA
      have HBN := Lib.hid hB
      have HFA := Lib.hid hfa
      have HFB := Lib.hid hfb
      clear hE hP hL hA hB hfa hfb
      go_upto_region 11 with fail
      obtain ⟨wp, hwp⟩ : ∃ wp, ((((w5.setCell ⟨w.heap.size, 0, none⟩ (.int .i64 2)).setCell ⟨w.heap.size, 1, none⟩ (.slice A ps.length c)).setCell ⟨w.heap.size, 2, none⟩ (.slice B ls.length d)).setCell ⟨w.heap.size, 3, none⟩ (.slice ea es.length ec)) = wp := ⟨_, rfl⟩
      obtain ⟨W6, hW6⟩ : ∃ W6, W6 = wp := ⟨_, rfl⟩
      simp only [hwp, ← hW6]
      have hgp : wp.heap[w.heap.size]? = some (.cells #[.int .i64 2, .slice A ps.length c, .slice B ls.length d, .slice ea es.length ec] 26 (0, 0)) := by rw [← hwp, heap_set (heap_set (heap_set (heap_set HG5.out 0 _) 1 _) 2 _) 3 _]; rfl
      have htp : wp.heap[W3.heap.size]? = some (.cells #[.int .i64 0, .int .i64 0] 32 (0, 0)) := by rw [← hwp, heap_set_other htg, heap_set_other htg, heap_set_other htg, heap_set_other htg]; exact HT5.out
      have hkp : Kept (fun i => i = w.heap.size ∨ i = W3.heap.size) w5 wp := by rw [← hwp]; exact ((((Kept.refl (fun i => i = w.heap.size ∨ i = W3.heap.size) w5).setCell (.inl (.inl rfl)) _).setCell (.inl (.inl rfl)) _).setCell (.inl (.inl rfl)) _).setCell (.inl (.inl rfl)) _
      subst hW6
      have HG6 := Lib.hid hgp
      have HT6 := Lib.hid htp
      have HK56 := Lib.hid hkp
      have hz6 := HK56.out.size
      clear hwp hgp htp hkp g0 g1 g2 g3 gf0 gf1 gf2 gf3 t0 t1 tf0 tf1
      have HR5 := Lib.hid (show RModel w5 ⟨3, A, ps.map wtP, c, B, ls.map wtL, d, ea, es, ec⟩ from ⟨HP.out, fun q hq => by simp only [List.mem_map] at hq; obtain ⟨p, hp, rfl⟩ := hq; have h9 := (HM.out.nil ((HK.out.step HA4.out).step HKD.out)).r.pp p hp; exact ⟨h9.v, h9.s, h9.vl, h9.sl, h9.si⟩, HL.out, (HM.out.nil ((HK.out.step HA4.out).step HKD.out)).r.e, by simp only [List.length_map]; exact HM.out.r.pl, by simp only [List.length_map]; exact HM.out.r.ll, HM.out.r.el⟩)
      have HOUT := Lib.hid (show OutM (fun i => i = w.heap.size ∨ i = W3.heap.size) ⟨3, A, ps.map wtP, c, B, ls.map wtL, d, ea, es, ec⟩ from ⟨fun g off hn e h => by have h9 := HFA.out g off (fun h => hn (by simp only; rw [h]; rfl)) e; omega, fun q hq => by simp only [List.mem_map] at hq; obtain ⟨p, hp, rfl⟩ := hq; exact ⟨fun g off hn e h => (HM.out.r.low.pp p hp).v g off hn e (by omega), fun g off hn e h => (HM.out.r.low.pp p hp).s g off hn e (by omega)⟩, fun g off hn e h => by have h9 := HFB.out g off (fun h => hn (by simp only; rw [h]; rfl)) e; omega, fun g off hn e h => HM.out.r.low.e g off hn e (by omega)⟩)
      have HO5 := Lib.hid (show OkM ⟨3, A, ps.map wtP, c, B, ls.map wtL, d, ea, es, ec⟩ from ⟨by simp only [Sc.I64]; omega, fun q hq => by simp only [List.mem_map] at hq; obtain ⟨p, hp, rfl⟩ := hq; exact (HM.out.o.p p hp).wt, fun l hl => by simp only [List.mem_map] at hl; obtain ⟨l, hl, rfl⟩ := hl; exact (HM.out.o.l l hl).wt, HM.out.o.e, by simpa using hc, HAN.out, by simpa using hd, HBN.out, HM.out.o.ec, HM.out.o.en⟩)
      have HS5 := Lib.hid (show SmallM ⟨3, A, ps.map wtP, c, B, ls.map wtL, d, ea, es, ec⟩ from HM.out.s.wt)
      have HUF := Lib.hid (show upF ⟨2, pa, ps, pc, la, ls, lc, ea, es, ec⟩ = (0, 0) by unfold upF; rw [if_neg (by rw [HCK.out]; simp), if_neg (by simp), if_neg (by simp)])
      clear hc hd
      have g0 : W6.cell? ⟨w.heap.size, 0, none⟩ = some (.int .i64 2) := by rw [cell_of HG6.out]; rfl
      have gf0 : W6.frozen? ⟨w.heap.size, 0, none⟩ = false := frozen_of HG6.out 0
      have t0 : W6.cell? ⟨W3.heap.size, 0, none⟩ = some (.int .i64 0) := by rw [cell_of HT6.out]; rfl
      go_upto_region 14 with fail
      obtain ⟨W7, hW7⟩ : ∃ W7, W6.setCell ⟨w.heap.size, 0, none⟩ (.int .i64 3) = W7 := ⟨_, rfl⟩
      rw [hW7]
      have hk67 : Kept (fun i => i = w.heap.size ∨ i = W3.heap.size) W6 W7 := by rw [← hW7]; exact (Kept.refl (fun i => i = w.heap.size ∨ i = W3.heap.size) W6).setCell (.inl (.inl rfl)) _
      have hg7 : W7.heap[w.heap.size]? = some (.cells #[.int .i64 3, .slice A ps.length c, .slice B ls.length d, .slice ea es.length ec] 26 (0, 0)) := by rw [← hW7, heap_set HG6.out 0 _]; rfl
      have HG7 := Lib.hid hg7
      have hk57 := HK56.out.trans hk67 (fun i h => .inl h)
      have HK57 := Lib.hid hk57
      have hz57 := hk57.size
      clear hW7 hk67 hg7 hk57 g0 gf0 t0
      have hr7 := HR5.out.out HOUT.out HK57.out
      have HR7 := Lib.hid hr7
      clear hr7
      have g0 : W7.cell? ⟨w.heap.size, 0, none⟩ = some (.int .i64 3) := by rw [cell_of HG7.out]; rfl
      have g1 : W7.cell? ⟨w.heap.size, 1, none⟩ = some (.slice A ps.length c) := by rw [cell_of HG7.out]; rfl
      have g2 : W7.cell? ⟨w.heap.size, 2, none⟩ = some (.slice B ls.length d) := by rw [cell_of HG7.out]; rfl
      have g3 : W7.cell? ⟨w.heap.size, 3, none⟩ = some (.slice ea es.length ec) := by rw [cell_of HG7.out]; rfl
      have hown := own_is 3 (ps.map wtP) (ls.map wtL) es A B ea c d ec W7 HR7.out HO5.out HS5.out
      simp only [List.length_map] at hown
      go_wp2_with fail
      refine hown.mono ?_
      clear hown g0 g1 g2 g3
      rintro e w8 hE
      have hk8 := hE.k
      have hz8 := hk8.size
      obtain ⟨⟨v9, pa9, ps9, pc9, la9, ls9, lc9, ea9, es9, ec9⟩, e9, hr8, ho8, hs8, hf8⟩ := hE.ok
      simp only [List.length_map] at e9
      subst e9
      have HK8 := Lib.hid hk8
      have HR8 := Lib.hid hr8
      have HO8 := Lib.hid ho8
      have HS8 := Lib.hid hs8
      have HF8 := Lib.hid hf8
      clear hE hk8 hr8 ho8 hs8 hf8
      have HK17 := Lib.hid (show Kept (fun i => i = w.heap.size) W1 W7 from (HA4.out.step HKD.out).any.trans HK57.out (fun i h => by rcases h with h | h; exact .inl h; exact .inr (by omega)))
      have HQ8 := Lib.hid (HK8.out.heap (HK17.out.heap QB.out (by omega)) (fun h => h))
      have HZ8 := Lib.hid (HK8.out.heap (HK17.out.heap ZB.out (by omega)) (fun h => h))
      have q0 : w8.cell? ⟨w.heap.size + 1, 0, none⟩ = some (.int .i64 0) := by rw [cell_of HQ8.out]; rfl
      have q1 : w8.cell? ⟨w.heap.size + 1, 1, none⟩ = some (.slice none 0 0) := by rw [cell_of HQ8.out]; rfl
      have q2 : w8.cell? ⟨w.heap.size + 1, 2, none⟩ = some (.slice none 0 0) := by rw [cell_of HQ8.out]; rfl
      have q3 : w8.cell? ⟨w.heap.size + 1, 3, none⟩ = some (.slice none 0 0) := by rw [cell_of HQ8.out]; rfl
      have qf0 : w8.frozen? ⟨w.heap.size + 1, 0, none⟩ = false := frozen_of HQ8.out 0
      have qf1 : w8.frozen? ⟨w.heap.size + 1, 1, none⟩ = false := frozen_of HQ8.out 1
      have qf2 : w8.frozen? ⟨w.heap.size + 1, 2, none⟩ = false := frozen_of HQ8.out 2
      have qf3 : w8.frozen? ⟨w.heap.size + 1, 3, none⟩ = false := frozen_of HQ8.out 3
      have z0 : w8.cell? ⟨w.heap.size + 1 + 1, 0, none⟩ = some (.int .i64 0) := by rw [cell_of HZ8.out]; rfl
      have z1 : w8.cell? ⟨w.heap.size + 1 + 1, 1, none⟩ = some (.int .i64 0) := by rw [cell_of HZ8.out]; rfl
      have zf0 : w8.frozen? ⟨w.heap.size + 1 + 1, 0, none⟩ = false := frozen_of HZ8.out 0
      have zf1 : w8.frozen? ⟨w.heap.size + 1 + 1, 1, none⟩ = false := frozen_of HZ8.out 1
      go_wp2_with fail
      obtain ⟨wq, hwq⟩ : ∃ wq, ((((w8.setCell ⟨w.heap.size + 1, 0, none⟩ (.int .i64 3)).setCell ⟨w.heap.size + 1, 1, none⟩ (.slice pa9 ps.length pc9)).setCell ⟨w.heap.size + 1, 2, none⟩ (.slice la9 ls.length lc9)).setCell ⟨w.heap.size + 1, 3, none⟩ (.slice ea9 es.length ec9)) = wq := ⟨_, rfl⟩
      obtain ⟨we, hwe⟩ : ∃ we, ((wq.setCell ⟨w.heap.size + 1 + 1, 0, none⟩ (.int .i64 0)).setCell ⟨w.heap.size + 1 + 1, 1, none⟩ (.int .i64 0)) = we := ⟨_, rfl⟩
      simp only [hwq, hwe]
      have hqq : wq.heap[w.heap.size + 1]? = some (.cells #[.int .i64 3, .slice pa9 ps.length pc9, .slice la9 ls.length lc9, .slice ea9 es.length ec9] 26 (0, 0)) := by rw [← hwq, heap_set (heap_set (heap_set (heap_set HQ8.out 0 _) 1 _) 2 _) 3 _]; rfl
      have hzq : wq.heap[w.heap.size + 1 + 1]? = some (.cells #[.int .i64 0, .int .i64 0] 32 (0, 0)) := by rw [← hwq, heap_set_other (by simp), heap_set_other (by simp), heap_set_other (by simp), heap_set_other (by simp)]; exact HZ8.out
      have hqe : we.heap[w.heap.size + 1]? = some (.cells #[.int .i64 3, .slice pa9 ps.length pc9, .slice la9 ls.length lc9, .slice ea9 es.length ec9] 26 (0, 0)) := by rw [← hwe, heap_set_other (by simp), heap_set_other (by simp)]; exact hqq
      have hze : we.heap[w.heap.size + 1 + 1]? = some (.cells #[.int .i64 0, .int .i64 0] 32 (0, 0)) := by rw [← hwe, heap_set (heap_set hzq 0 _) 1 _]; rfl
      have hgk : Kept (fun b => b = w.heap.size + 1 ∨ b = w.heap.size + 1 + 1) w8 we := by rw [← hwe, ← hwq]; exact ((((((Kept.refl (fun b => b = w.heap.size + 1 ∨ b = w.heap.size + 1 + 1) w8).setCell (.inl (.inl rfl)) _).setCell (.inl (.inl rfl)) _).setCell (.inl (.inl rfl)) _).setCell (.inl (.inl rfl)) _).setCell (.inl (.inr rfl)) _).setCell (.inl (.inr rfl)) _
      have hke : Kept Nil w we := ((HK.out.trans HK17.out (fun i h => .inr (by omega))).step HK8.out).trans hgk (fun i hi => .inr (by omega))
      have s0 : we.cell? ⟨w.heap.size + 1, 0, none⟩ = some (.int .i64 3) := by rw [cell_of hqe]; rfl
      have s1 : we.cell? ⟨w.heap.size + 1, 1, none⟩ = some (.slice pa9 ps.length pc9) := by rw [cell_of hqe]; rfl
      have s2 : we.cell? ⟨w.heap.size + 1, 2, none⟩ = some (.slice la9 ls.length lc9) := by rw [cell_of hqe]; rfl
      have s3 : we.cell? ⟨w.heap.size + 1, 3, none⟩ = some (.slice ea9 es.length ec9) := by rw [cell_of hqe]; rfl
      have t0 : we.cell? ⟨w.heap.size + 1 + 1, 0, none⟩ = some (.int .i64 0) := by rw [cell_of hze]; rfl
      have t1 : we.cell? ⟨w.heap.size + 1 + 1, 1, none⟩ = some (.int .i64 0) := by rw [cell_of hze]; rfl
      refine bodyPost_ret (v := .tuple #[.agg #[.int .i64 3, .slice pa9 ps.length pc9, .slice la9 ls.length lc9, .slice ea9 es.length ec9], .agg #[.int .i64 0, .int .i64 0]]) (by simp [results, Try.results10, go_sem, s0, s1, s2, s3, t0, t1]) rfl ?_
      have hl1 := HS8.out.p.l
      have hl2 := HS8.out.l
      have hl3 := HS8.out.e
      have hl0 := HS8.out.v
      simp only [List.length_map] at hl0 hl1 hl2 hl3
      refine UpEnd.of_ok hke HUF.out (m' := ⟨v9, pa9, ps9, pc9, la9, ls9, lc9, ea9, es9, ec9⟩) ?_ ⟨HR8.out.fresh HF8.out hgk (fun i hi h => by omega), HO8.out, HS5.out.same HS8.out⟩ ?_ ?_
      · simp only [← hl0, ← hl1, ← hl2, ← hl3, List.length_map]
      · exact (show SameM (upM ⟨2, pa, ps, pc, la, ls, lc, ea, es, ec⟩) ⟨3, A, ps.map wtP, c, B, ls.map wtL, d, ea, es, ec⟩ from by unfold upM; rw [if_neg (by simp)]; exact ⟨rfl, SamePs.refl _, rfl, rfl⟩).trans HS8.out
      · exact ⟨fun g off hn e => by have := HF8.out.p g off hn e; omega, fun q hq => ⟨fun g off hn e => by have := (HF8.out.pp q hq).v g off hn e; omega, fun g off hn e => by have := (HF8.out.pp q hq).s g off hn e; omega⟩, fun g off hn e => by have := HF8.out.l g off hn e; omega, fun g off hn e => by have := HF8.out.e g off hn e; omega⟩
    · go_wp2_with fail
      obtain ⟨wq, hwq⟩ : ∃ wq, ((((W4.setCell ⟨w.heap.size + 1, 0, none⟩ (.int .i64 0)).setCell ⟨w.heap.size + 1, 1, none⟩ (.slice none 0 0)).setCell ⟨w.heap.size + 1, 2, none⟩ (.slice none 0 0)).setCell ⟨w.heap.size + 1, 3, none⟩ (.slice none 0 0)) = wq := ⟨_, rfl⟩
      obtain ⟨we, hwe⟩ : ∃ we, ((wq.setCell ⟨w.heap.size + 1 + 1, 0, none⟩ (.int .i64 43)).setCell ⟨w.heap.size + 1 + 1, 1, none⟩ (.int .i64 0)) = we := ⟨_, rfl⟩
      simp only [hwq, hwe]
      have hqq : wq.heap[w.heap.size + 1]? = some (.cells #[.int .i64 0, .slice none 0 0, .slice none 0 0, .slice none 0 0] 26 (0, 0)) := by rw [← hwq, heap_set (heap_set (heap_set (heap_set (HA4.out.heap QB.out (fun h => h)) 0 _) 1 _) 2 _) 3 _]; rfl
      have hzq : wq.heap[w.heap.size + 1 + 1]? = some (.cells #[.int .i64 0, .int .i64 0] 32 (0, 0)) := by rw [← hwq, heap_set_other (by simp), heap_set_other (by simp), heap_set_other (by simp), heap_set_other (by simp)]; exact (HA4.out.heap ZB.out (fun h => h))
      have hqe : we.heap[w.heap.size + 1]? = some (.cells #[.int .i64 0, .slice none 0 0, .slice none 0 0, .slice none 0 0] 26 (0, 0)) := by rw [← hwe, heap_set_other (by simp), heap_set_other (by simp)]; exact hqq
      have hze : we.heap[w.heap.size + 1 + 1]? = some (.cells #[.int .i64 43, .int .i64 0] 32 (0, 0)) := by rw [← hwe, heap_set (heap_set hzq 0 _) 1 _]; rfl
      have hgk : Kept (fun b => b = w.heap.size + 1 ∨ b = w.heap.size + 1 + 1) W4 we := by rw [← hwe, ← hwq]; exact ((((((Kept.refl (fun b => b = w.heap.size + 1 ∨ b = w.heap.size + 1 + 1) W4).setCell (.inl (.inl rfl)) _).setCell (.inl (.inl rfl)) _).setCell (.inl (.inl rfl)) _).setCell (.inl (.inl rfl)) _).setCell (.inl (.inr rfl)) _).setCell (.inl (.inr rfl)) _
      have hke : Kept Nil w we := (HK.out.step HA4.out).trans hgk (fun i hi => .inr (by omega))
      have s0 : we.cell? ⟨w.heap.size + 1, 0, none⟩ = some (.int .i64 0) := by rw [cell_of hqe]; rfl
      have s1 : we.cell? ⟨w.heap.size + 1, 1, none⟩ = some (.slice none 0 0) := by rw [cell_of hqe]; rfl
      have s2 : we.cell? ⟨w.heap.size + 1, 2, none⟩ = some (.slice none 0 0) := by rw [cell_of hqe]; rfl
      have s3 : we.cell? ⟨w.heap.size + 1, 3, none⟩ = some (.slice none 0 0) := by rw [cell_of hqe]; rfl
      have t0 : we.cell? ⟨w.heap.size + 1 + 1, 0, none⟩ = some (.int .i64 43) := by rw [cell_of hze]; rfl
      have t1 : we.cell? ⟨w.heap.size + 1 + 1, 1, none⟩ = some (.int .i64 0) := by rw [cell_of hze]; rfl
      refine bodyPost_ret (v := .tuple #[.agg #[.int .i64 0, .slice none 0 0, .slice none 0 0, .slice none 0 0], .agg #[.int .i64 43, .int .i64 0]]) (by simp [results, Try.results10, go_sem, s0, s1, s2, s3, t0, t1]) rfl ?_
      exact UpEnd.of_bad hke (by unfold upF; rw [if_neg (by rw [HCK.out]; simp), if_pos rfl]) (by decide)
  · have fF : (F.1 != 0) = true := by simp [hF0]
    have HF0 := Lib.hid hF0
    clear hF0
    have f0 := F0.out
    have f1 := F1.out
    have g0 := (HA3.out).cell G0.out (fun h => h)
    have g1 := (HA3.out).cell G1.out (fun h => h)
    have g2 := (HA3.out).cell G2.out (fun h => h)
    have g3 := (HA3.out).cell G3.out (fun h => h)
    have q0 := (HA3.out).cell Q0.out (fun h => h)
    have q1 := (HA3.out).cell Q1.out (fun h => h)
    have q2 := (HA3.out).cell Q2.out (fun h => h)
    have q3 := (HA3.out).cell Q3.out (fun h => h)
    have z0 := (HA3.out).cell Z0.out (fun h => h)
    have z1 := (HA3.out).cell Z1.out (fun h => h)
    have qf0 : W3.frozen? ⟨w.heap.size + 1, 0, none⟩ = false := HA3.out.frozen (p := ⟨w.heap.size + 1, 0, none⟩) hzq (frozen_of QB.out 0) (fun h => h)
    have qf1 : W3.frozen? ⟨w.heap.size + 1, 1, none⟩ = false := HA3.out.frozen (p := ⟨w.heap.size + 1, 1, none⟩) hzq (frozen_of QB.out 1) (fun h => h)
    have qf2 : W3.frozen? ⟨w.heap.size + 1, 2, none⟩ = false := HA3.out.frozen (p := ⟨w.heap.size + 1, 2, none⟩) hzq (frozen_of QB.out 2) (fun h => h)
    have qf3 : W3.frozen? ⟨w.heap.size + 1, 3, none⟩ = false := HA3.out.frozen (p := ⟨w.heap.size + 1, 3, none⟩) hzq (frozen_of QB.out 3) (fun h => h)
    have zf0 : W3.frozen? ⟨w.heap.size + 1 + 1, 0, none⟩ = false := HA3.out.frozen (p := ⟨w.heap.size + 1 + 1, 0, none⟩) hzz (frozen_of ZB.out 0) (fun h => h)
    have zf1 : W3.frozen? ⟨w.heap.size + 1 + 1, 1, none⟩ = false := HA3.out.frozen (p := ⟨w.heap.size + 1 + 1, 1, none⟩) hzz (frozen_of ZB.out 1) (fun h => h)
    go_upto_region 3 with fail
    rw [HW3.out]
    go_region
    go_wp2_with fail
    obtain ⟨wq, hwq⟩ : ∃ wq, ((((W3.setCell ⟨w.heap.size + 1, 0, none⟩ (.int .i64 0)).setCell ⟨w.heap.size + 1, 1, none⟩ (.slice none 0 0)).setCell ⟨w.heap.size + 1, 2, none⟩ (.slice none 0 0)).setCell ⟨w.heap.size + 1, 3, none⟩ (.slice none 0 0)) = wq := ⟨_, rfl⟩
    obtain ⟨we, hwe⟩ : ∃ we, ((wq.setCell ⟨w.heap.size + 1 + 1, 0, none⟩ (.int .i64 F.1)).setCell ⟨w.heap.size + 1 + 1, 1, none⟩ (.int .i64 F.2)).drew = we := ⟨_, rfl⟩
    simp only [hwq, hwe]
    have hqq : wq.heap[w.heap.size + 1]? = some (.cells #[.int .i64 0, .slice none 0 0, .slice none 0 0, .slice none 0 0] 26 (0, 0)) := by rw [← hwq, heap_set (heap_set (heap_set (heap_set (HA3.out.heap QB.out (fun h => h)) 0 _) 1 _) 2 _) 3 _]; rfl
    have hzq : wq.heap[w.heap.size + 1 + 1]? = some (.cells #[.int .i64 0, .int .i64 0] 32 (0, 0)) := by rw [← hwq, heap_set_other (by simp), heap_set_other (by simp), heap_set_other (by simp), heap_set_other (by simp)]; exact (HA3.out.heap ZB.out (fun h => h))
    have hqe : we.heap[w.heap.size + 1]? = some (.cells #[.int .i64 0, .slice none 0 0, .slice none 0 0, .slice none 0 0] 26 (0, 0)) := by rw [← hwe, heap_drew, heap_set_other (by simp), heap_set_other (by simp)]; exact hqq
    have hze : we.heap[w.heap.size + 1 + 1]? = some (.cells #[.int .i64 F.1, .int .i64 F.2] 32 (0, 0)) := by rw [← hwe, heap_drew, heap_set (heap_set hzq 0 _) 1 _]; rfl
    have hgk : Kept (fun b => b = w.heap.size + 1 ∨ b = w.heap.size + 1 + 1) W3 we := by rw [← hwe, ← hwq]; exact (((((((Kept.refl (fun b => b = w.heap.size + 1 ∨ b = w.heap.size + 1 + 1) W3).setCell (.inl (.inl rfl)) _).setCell (.inl (.inl rfl)) _).setCell (.inl (.inl rfl)) _).setCell (.inl (.inl rfl)) _).setCell (.inl (.inr rfl)) _).setCell (.inl (.inr rfl)) _).drew
    have hke : Kept Nil w we := (HK.out.step HA3.out).trans hgk (fun i hi => .inr (by omega))
    have s0 : we.cell? ⟨w.heap.size + 1, 0, none⟩ = some (.int .i64 0) := by rw [cell_of hqe]; rfl
    have s1 : we.cell? ⟨w.heap.size + 1, 1, none⟩ = some (.slice none 0 0) := by rw [cell_of hqe]; rfl
    have s2 : we.cell? ⟨w.heap.size + 1, 2, none⟩ = some (.slice none 0 0) := by rw [cell_of hqe]; rfl
    have s3 : we.cell? ⟨w.heap.size + 1, 3, none⟩ = some (.slice none 0 0) := by rw [cell_of hqe]; rfl
    have t0 : we.cell? ⟨w.heap.size + 1 + 1, 0, none⟩ = some (.int .i64 F.1) := by rw [cell_of hze]; rfl
    have t1 : we.cell? ⟨w.heap.size + 1 + 1, 1, none⟩ = some (.int .i64 F.2) := by rw [cell_of hze]; rfl
    refine bodyPost_ret (v := .tuple #[.agg #[.int .i64 0, .slice none 0 0, .slice none 0 0, .slice none 0 0], .agg #[.int .i64 F.1, .int .i64 F.2]]) (by simp [results, Try.results10, go_sem, s0, s1, s2, s3, t0, t1]) rfl ?_
    exact UpEnd.of_bad hke (by unfold upF; rw [if_pos (by rw [HF.out]; exact HF0.out), HF.out]) HF0.out
end Go.Proofs.Ythgbahlkflmgiaa.Mo
