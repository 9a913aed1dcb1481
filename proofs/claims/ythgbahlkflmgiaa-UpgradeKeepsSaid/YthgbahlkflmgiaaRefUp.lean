/- The walks of sandtableref20.Up and .Latest. -/
import Derived.Test.YthgbahlkflmgiaaCopy
import Derived.Test.YthgbahlkflmgiaaWaysC
section
namespace Go.Proofs.Ythgbahlkflmgiaa.Mo
open Go Go.RowKit Go.Maps Go.Proofs.Ythgbahlkflmgiaa.Lb
set_option linter.unusedVariables false
set_option linter.unusedSimpArgs false
set_option maxRecDepth 8000
theorem one_is (n : Int) (w : World) (hn : 0 ≤ n) : Calls Try.prog 24 #[.int .i64 n] w fun e w' => e = .returned (.int .i64 (wtI n)) ∧ w' = w := by
  by_cases h : n = 0
  · subst h
    go_enter Try.func24, Try.ntmps24
    go_wp2
    go_ret
    exact ⟨rfl, rfl⟩
  · have hb : (n == 0) = false := by simp [h]
    have hw : wtI n = n := by unfold wtI; rw [if_neg (by omega)]
    rw [hw]
    clear hw
    go_enter Try.func24, Try.ntmps24
    go_wp2
    go_ret
    exact ⟨rfl, rfl⟩
structure RefUpEnd (m : Md) (w : World) (e : Ending) (w' : World) : Prop where
  k : Kept Nil w w'
  bad : (upF m).1 ≠ 0 → e = .returned (.tuple #[.agg #[.int .i64 0, .slice none 0 0, .slice none 0 0, .slice none 0 0], .int .i64 (upF m).1, .int .i64 (upF m).2])
  ok : (upF m).1 = 0 → ∃ m' : Md, e = .returned (.tuple #[.agg #[.int .i64 m'.version, .slice m'.pa m'.ps.length m'.pc, .slice m'.la m'.ls.length m'.lc, .slice m'.ea m'.es.length m'.ec], .int .i64 0, .int .i64 0]) ∧ HeldM w' m' ∧ SameM (upM m) m' ∧ FreshM w.heap.size m'
theorem RefUpEnd.of_bad {m : Md} {w w' : World} {c d : Int} (hk : Kept Nil w w') (hF : upF m = (c, d)) (hc : c ≠ 0) : RefUpEnd m w (.returned (.tuple #[.agg #[.int .i64 0, .slice none 0 0, .slice none 0 0, .slice none 0 0], .int .i64 c, .int .i64 d])) w' :=
  ⟨hk, fun _ => by rw [hF], fun h => by rw [hF] at h; exact absurd h hc⟩
theorem RefUpEnd.of_ok {m m' : Md} {w w' : World} {e : Ending} (hk : Kept Nil w w') (hF : upF m = (0, 0)) (he : e = .returned (.tuple #[.agg #[.int .i64 m'.version, .slice m'.pa m'.ps.length m'.pc, .slice m'.la m'.ls.length m'.lc, .slice m'.ea m'.es.length m'.ec], .int .i64 0, .int .i64 0])) (hh : HeldM w' m') (hs : SameM (upM m) m') (hf : FreshM w.heap.size m') : RefUpEnd m w e w' :=
  ⟨hk, fun h => by rw [hF] at h; exact absurd rfl h, fun _ => ⟨m', he, hh, hs, hf⟩⟩
theorem up_bad {m : Md} (hc : (mdCheck m).1 = 0) (hv : m.version = 1) {i : Nat} {l : Lk} (hl : m.ls[i]? = some l) (ho : overB l = true) (hlow : ∀ (j : Nat) (u : Lk), j < i → m.ls[j]? = some u → overB u = false) : upF m = (30, (m.ps.length : Int) + (i : Int) + 1) := by
  have hi : m.ls.findIdx? overB = some i := by
    obtain ⟨h1, h2⟩ := List.getElem?_eq_some_iff.1 hl
    rw [List.findIdx?_eq_some_iff_getElem]
    refine ⟨h1, by rw [h2]; exact ho, fun j hj => ?_⟩
    have := hlow j m.ls[j] hj (List.getElem?_eq_getElem _)
    simp [this]
  unfold upF
  rw [if_neg (by rw [hc]; simp), if_neg (by rw [hv]; simp), if_pos hv, hi]
theorem wt_nonneg {m : Md} (h : MdRight m) : (∀ p ∈ m.ps, 0 ≤ p.weight) ∧ ∀ l ∈ m.ls, 0 ≤ l.weight := by
  have hw : ∀ {v n : Int}, wtB v n = true → 0 ≤ n := by
    intro v n hn
    unfold wtB at hn
    simp only [Bool.or_eq_true, Bool.and_eq_true, decide_eq_true_eq, beq_iff_eq] at hn
    omega
  refine ⟨fun p hp => ?_, fun l hl => ?_⟩
  · obtain ⟨j, hj, rfl⟩ := List.mem_iff_getElem.1 hp
    exact hw (h.pr (List.getElem?_eq_getElem hj)).w
  · obtain ⟨j, hj, rfl⟩ := List.mem_iff_getElem.1 hl
    exact hw (h.lk (List.getElem?_eq_getElem hj)).w
set_option maxHeartbeats 16000000 in
theorem RefUp_is (ver : Int) (ps : List Pr) (ls : List Lk) (es : List Ev) (pa la ea : Option Addr) (pc lc ec : Nat) (w : World) (hm : HeldM w ⟨ver, pa, ps, pc, la, ls, lc, ea, es, ec⟩) :
    Calls Try.prog 11 #[.agg #[.int .i64 ver, .slice pa ps.length pc, .slice la ls.length lc, .slice ea es.length ec]] w fun e w' => RefUpEnd ⟨ver, pa, ps, pc, la, ls, lc, ea, es, ec⟩ w e w' := by
  have HM := Lib.hid hm
  have hpl : ps.length ≤ 100000 := hm.s.p
  have hll : ls.length ≤ 100000 := hm.s.l
  clear hm
  obtain ⟨F, hF⟩ : ∃ F, mdCheck ⟨ver, pa, ps, pc, la, ls, lc, ea, es, ec⟩ = F := ⟨_, rfl⟩
  have HF := Lib.hid hF
  obtain ⟨W1, hW⟩ : ∃ W, ((w.alloc (.cells #[.int .i64 ver, .slice pa ps.length pc, .slice la ls.length lc, .slice ea es.length ec] 26)).alloc (.cells #[.int .i64 0, .slice none 0 0, .slice none 0 0, .slice none 0 0] 26)) = W := ⟨_, rfl⟩
  have hk : Kept Nil w W1 := by rw [← hW]; exact (((Kept.refl Nil w).alloc _).alloc _)
  have hsz : W1.heap.size = w.heap.size + 2 := by rw [← hW]; simp
  have hb : W1.heap[w.heap.size]? = some (.cells #[.int .i64 ver, .slice pa ps.length pc, .slice la ls.length lc, .slice ea es.length ec] 26 (0, 0)) := by
    rw [← hW]
    rw [heap_old _ _ (by simp only [World.size_alloc]; omega)]
    have h9 := heap_new w (.cells #[.int .i64 ver, .slice pa ps.length pc, .slice la ls.length lc, .slice ea es.length ec] 26)
    exact h9
  have G0 := Lib.hid (show W1.cell? ⟨w.heap.size, 0, none⟩ = some (.int .i64 ver) by rw [cell_of hb]; rfl)
  have G1 := Lib.hid (show W1.cell? ⟨w.heap.size, 1, none⟩ = some (.slice pa ps.length pc) by rw [cell_of hb]; rfl)
  have G2 := Lib.hid (show W1.cell? ⟨w.heap.size, 2, none⟩ = some (.slice la ls.length lc) by rw [cell_of hb]; rfl)
  have G3 := Lib.hid (show W1.cell? ⟨w.heap.size, 3, none⟩ = some (.slice ea es.length ec) by rw [cell_of hb]; rfl)
  have GB := Lib.hid hb
  have hzg : w.heap.size < W1.heap.size := by omega
  clear hb
  have hb : W1.heap[w.heap.size + 1]? = some (.cells #[.int .i64 0, .slice none 0 0, .slice none 0 0, .slice none 0 0] 26 (0, 0)) := by
    rw [← hW]
    have h9 := heap_new (w.alloc (.cells #[.int .i64 ver, .slice pa ps.length pc, .slice la ls.length lc, .slice ea es.length ec] 26)) (.cells #[.int .i64 0, .slice none 0 0, .slice none 0 0, .slice none 0 0] 26)
    simp only [World.size_alloc] at h9
    exact h9
  have Q0 := Lib.hid (show W1.cell? ⟨w.heap.size + 1, 0, none⟩ = some (.int .i64 0) by rw [cell_of hb]; rfl)
  have Q1 := Lib.hid (show W1.cell? ⟨w.heap.size + 1, 1, none⟩ = some (.slice none 0 0) by rw [cell_of hb]; rfl)
  have Q2 := Lib.hid (show W1.cell? ⟨w.heap.size + 1, 2, none⟩ = some (.slice none 0 0) by rw [cell_of hb]; rfl)
  have Q3 := Lib.hid (show W1.cell? ⟨w.heap.size + 1, 3, none⟩ = some (.slice none 0 0) by rw [cell_of hb]; rfl)
  have QB := Lib.hid hb
  have hzq : w.heap.size + 1 < W1.heap.size := by omega
  clear hb
  have HW := Lib.hid hW
  have HK := Lib.hid hk
  have HSZ := Lib.hid hsz
  clear hW hk hsz
  have hcall := RefCheck_h W1 (HM.out.nil HK.out)
  rw [hF] at hcall
  clear hF
  go_enter Try.func11, Try.ntmps11
  go_wp2_with fail
  rw [HW.out]
  have g0 := ((Kept.refl Nil W1)).cell G0.out (fun h => h)
  have g1 := ((Kept.refl Nil W1)).cell G1.out (fun h => h)
  have g2 := ((Kept.refl Nil W1)).cell G2.out (fun h => h)
  have g3 := ((Kept.refl Nil W1)).cell G3.out (fun h => h)
  have q0 := ((Kept.refl Nil W1)).cell Q0.out (fun h => h)
  have q1 := ((Kept.refl Nil W1)).cell Q1.out (fun h => h)
  have q2 := ((Kept.refl Nil W1)).cell Q2.out (fun h => h)
  have q3 := ((Kept.refl Nil W1)).cell Q3.out (fun h => h)
  go_wp2_with fail
  refine hcall.mono ?_
  clear hcall
  rintro e w2 ⟨rfl, hk2⟩
  have HK2 := Lib.hid hk2
  have hz2 := hk2.size
  have HG2 := Lib.hid (hk2.heap GB.out (fun h => h))
  have HQ2 := Lib.hid (hk2.heap QB.out (fun h => h))
  clear hk2 g0 g1 g2 g3 q0 q1 q2 q3
  have hsz1 : w.heap.size + 1 < W1.heap.size := by have := HSZ.out; omega
  have HKW2 := Lib.hid (show Kept Nil w w2 from HK.out.step HK2.out)
  have hx1 : w.heap.size < w2.heap.size := by omega
  have hx2 : w.heap.size + 1 < w2.heap.size := by omega
  by_cases hF0 : F.1 = 0
  · have fF : (F.1 != 0) = false := by simp [hF0]
    have hcheck : (mdCheck ⟨ver, pa, ps, pc, la, ls, lc, ea, es, ec⟩).1 = 0 := by rw [HF.out]; exact hF0
    have HR := Lib.hid (right_of hcheck)
    have HCK := Lib.hid hcheck
    have hver : ver = 1 ∨ ver = 2 ∨ ver = 3 := by have := HR.out.v; simp only at this; omega
    have hwv : IntKind.i64.wrap (ver + 1) = ver + 1 := by rw [IntKind.wrap_i64]; omega
    have HVER := Lib.hid hver
    clear hF0 hcheck hver
    have g0 : w2.cell? ⟨w.heap.size, 0, none⟩ = some (.int .i64 ver) := by rw [cell_of HG2.out]; rfl
    have g1 : w2.cell? ⟨w.heap.size, 1, none⟩ = some (.slice pa ps.length pc) := by rw [cell_of HG2.out]; rfl
    have g2 : w2.cell? ⟨w.heap.size, 2, none⟩ = some (.slice la ls.length lc) := by rw [cell_of HG2.out]; rfl
    have g3 : w2.cell? ⟨w.heap.size, 3, none⟩ = some (.slice ea es.length ec) := by rw [cell_of HG2.out]; rfl
    have hcopy := Copy_is ver ps ls es pa la ea pc lc ec w2 (HM.out.nil HKW2.out)
    go_wp2_with fail
    refine hcopy.mono ?_
    clear hcopy fF g0 g1 g2 g3
    rintro e w4 hE
    have HK4 := Lib.hid hE.k
    have hz4 := hE.k.size
    obtain ⟨⟨v4, pa4, ps4, pc4, la4, ls4, lc4, ea4, es4, ec4⟩, e4, hh4, hs4, hf4, hn4⟩ := hE.ok
    obtain rfl : ver = v4 := hs4.v
    obtain rfl : ls = ls4 := hs4.l
    obtain rfl : es = es4 := hs4.e
    subst e4
    have hpl4 : ps4.length = ps.length := hs4.p.l.symm
    have HPL4 := Lib.hid hpl4
    have hpl5 : ps4.length ≤ 100000 := by omega
    have HS4 := Lib.hid hs4
    have HN4 := Lib.hid (show HoldN w2.heap.size w4 ⟨ver, pa4, ps4, pc4, la4, ls, lc4, ea4, es, ec4⟩ from ⟨hh4, hn4, hf4⟩)
    clear hE hh4 hs4 hf4 hn4 hpl4
    obtain ⟨W5, hW⟩ : ∃ W, (w4.alloc (.cells #[.int .i64 ver, .slice pa4 ps4.length pc4, .slice la4 ls.length lc4, .slice ea4 es.length ec4] 26)) = W := ⟨_, rfl⟩
    have hk : Kept Nil w4 W5 := by rw [← hW]; exact ((Kept.refl Nil w4).alloc _)
    have hsz : W5.heap.size = w4.heap.size + 1 := by rw [← hW]; simp
    have hb : W5.heap[w4.heap.size]? = some (.cells #[.int .i64 ver, .slice pa4 ps4.length pc4, .slice la4 ls.length lc4, .slice ea4 es.length ec4] 26 (0, 0)) := by
      rw [← hW]
      have h9 := heap_new w4 (.cells #[.int .i64 ver, .slice pa4 ps4.length pc4, .slice la4 ls.length lc4, .slice ea4 es.length ec4] 26)
      exact h9
    have X0 := Lib.hid (show W5.cell? ⟨w4.heap.size, 0, none⟩ = some (.int .i64 ver) by rw [cell_of hb]; rfl)
    have X1 := Lib.hid (show W5.cell? ⟨w4.heap.size, 1, none⟩ = some (.slice pa4 ps4.length pc4) by rw [cell_of hb]; rfl)
    have X2 := Lib.hid (show W5.cell? ⟨w4.heap.size, 2, none⟩ = some (.slice la4 ls.length lc4) by rw [cell_of hb]; rfl)
    have X3 := Lib.hid (show W5.cell? ⟨w4.heap.size, 3, none⟩ = some (.slice ea4 es.length ec4) by rw [cell_of hb]; rfl)
    have XB := Lib.hid hb
    have hzx : w4.heap.size < W5.heap.size := by omega
    clear hb
    have HW5 := Lib.hid hW
    have HK5 := Lib.hid hk
    have HSZ5 := Lib.hid hsz
    clear hW hk hsz
    go_upto_region 5 with fail
    rw [HW5.out]
    have x0 := X0.out
    have xf0 : W5.frozen? ⟨w4.heap.size, 0, none⟩ = false := frozen_of XB.out 0
    have HG5 := Lib.hid (HK5.out.heap (HK4.out.heap HG2.out (fun h => h)) (fun h => h))
    have g0 : W5.cell? ⟨w.heap.size, 0, none⟩ = some (.int .i64 ver) := by rw [cell_of HG5.out]; rfl
    have hz5 : w4.heap.size < W5.heap.size := by have := HSZ5.out; omega
    have hx51 : w.heap.size < W5.heap.size := by omega
    go_upto_region 6 with fail
    obtain ⟨W6, hW6⟩ : ∃ W6, W5.setCell ⟨w4.heap.size, 0, none⟩ (.int .i64 (ver + 1)) = W6 := ⟨_, rfl⟩
    rw [hW6]
    have hk6 : Kept Nil w4 W6 := by rw [← hW6]; exact HK5.out.setCell (.inr (Nat.le_refl _)) _
    have HX6 := Lib.hid (show W6.heap[w4.heap.size]? = some (.cells #[.int .i64 (ver + 1), .slice pa4 ps4.length pc4, .slice la4 ls.length lc4, .slice ea4 es.length ec4] 26 (0, 0)) by rw [← hW6, heap_set XB.out 0 _]; rfl)
    have HK6 := Lib.hid hk6
    have hz6 := hk6.size
    have hz65 : w4.heap.size < W6.heap.size := (Array.getElem?_eq_some_iff.1 HX6.out).1
    clear hW6 hk6 x0 xf0 g0 hwv
    have HG6 := Lib.hid (HK6.out.heap (HK4.out.heap HG2.out (fun h => h)) (fun h => h))
    have HQ6 := Lib.hid (HK6.out.heap (HK4.out.heap HQ2.out (fun h => h)) (fun h => h))
    have HKW6 := Lib.hid (show Kept Nil w W6 from (HKW2.out.step HK4.out).step HK6.out)
    have HN6 := Lib.hid ((HN4.out.nil HK6.out).ver (v' := ver + 1) (by rcases HVER.out with rfl | rfl | rfl <;> (unfold Sc.I64; omega)))
    have hrow : ∃ g, g < w4.heap.size ∧ w2.heap.size ≤ g + (if ls = [] then w2.heap.size else 0) ∧ (ls ≠ [] → la4 = some ⟨g, 0, none⟩ ∧ RowAt W6 g 48 5 lkCells ls) := by
      by_cases hls : ls = []
      · exact ⟨0, by omega, by rw [if_pos hls]; omega, fun h => absurd hls h⟩
      · obtain ⟨g, hb, e, hr⟩ := HN4.out.n.l hls
        exact ⟨g, hr.lt, by omega, fun _ => ⟨e, hr.kept HK6.out (fun h => h)⟩⟩
    obtain ⟨gg, hgx, hgb, hrow⟩ := hrow
    have HROW := Lib.hid hrow
    have HGB := Lib.hid hgb
    clear hrow hgb
    have hver := HVER.out
    rcases hver with rfl | rfl | rfl
    · skip
      have g0 : W6.cell? ⟨w.heap.size, 0, none⟩ = some (.int .i64 1) := by rw [cell_of HG6.out]; rfl
      have hx61 : w.heap.size < W6.heap.size := by omega
      go_upto_region 8 with fail
      clear g0
      go_wp2_with fail
      go_loopw [8] (fun i wr => ∃ k : Nat, k ≤ ls.length ∧ i = .int .i64 k ∧ (ls ≠ [] → RowAt wr gg 48 5 lkCells (partG dlL ls k)) ∧ Kept (fun b => ls ≠ [] ∧ b = gg) W6 wr ∧ (∀ (j : Nat) (u : Lk), j < k → ls[j]? = some u → overB u = false)) (fun i _ => ls.length - (intOf i).toNat)
      case atStart => exact ⟨0, Nat.zero_le _, rfl, fun h => by rw [partG_zero]; exact (HROW.out h).2, Kept.refl _ _, fun j u hj => by omega⟩
      case round =>
        obtain ⟨k, hk, rfl, hrk, hK, hall⟩ := hrel
        have HALL := Lib.hid hall
        clear hall
        have HRK := Lib.hid hrk
        have HKR := Lib.hid hK
        have hzr := hK.size
        have hng : ∀ i, (i < w2.heap.size ∨ w4.heap.size ≤ i) → ¬ (ls ≠ [] ∧ i = gg) := fun i hi h => by have h8 := HGB.out; rw [if_neg h.1] at h8; omega
        have HNG := Lib.hid hng
        have HGR := Lib.hid (hK.heap HG6.out (hng _ (.inl hx1)))
        have HQR := Lib.hid (hK.heap HQ6.out (hng _ (.inl hx2)))
        have HXR := Lib.hid (hK.heap HX6.out (hng _ (.inr (Nat.le_refl _))))
        have hy1 : w.heap.size < wr.heap.size := by omega
        have hy2 : w.heap.size + 1 < wr.heap.size := by omega
        have hy3 : w4.heap.size < wr.heap.size := by omega
        clear hrk hK hng
        have g0 : wr.cell? ⟨w.heap.size, 0, none⟩ = some (.int .i64 1) := by rw [cell_of HGR.out]; rfl
        have g1 : wr.cell? ⟨w.heap.size, 1, none⟩ = some (.slice pa ps.length pc) := by rw [cell_of HGR.out]; rfl
        have x0 : wr.cell? ⟨w4.heap.size, 0, none⟩ = some (.int .i64 2) := by rw [cell_of HXR.out]; rfl
        have x1 : wr.cell? ⟨w4.heap.size, 1, none⟩ = some (.slice pa4 ps4.length pc4) := by rw [cell_of HXR.out]; rfl
        have x2 : wr.cell? ⟨w4.heap.size, 2, none⟩ = some (.slice la4 ls.length lc4) := by rw [cell_of HXR.out]; rfl
        have x3 : wr.cell? ⟨w4.heap.size, 3, none⟩ = some (.slice ea4 es.length ec4) := by rw [cell_of HXR.out]; rfl
        by_cases hlt : k < ls.length
        · obtain ⟨l, el⟩ : ∃ l, ls[k]? = some l := ⟨_, List.getElem?_eq_getElem hlt⟩
          have hne : ls ≠ [] := by intro h; rw [h] at hlt; simp at hlt
          have hA := (HROW.out hne).1
          have hrw := HRK.out hne
          have cw : wr.cell? ⟨gg, k * 5 + 3, none⟩ = some (.int .i64 l.delay) := hrw.cell (partG_get dlL ls el) (c := 3) (by decide)
          have fw : wr.frozen? ⟨gg, k * 5 + 3, none⟩ = false := hrw.frozen _
          have hgl := hrw.lt
          have HRW2 := Lib.hid hrw
          have EL := Lib.hid el
          have hlt2 : (k : Int) < (ls.length : Int) := by omega
          have hw : IntKind.i64.wrap ((k : Int) + 1) = (k : Int) + 1 := by rw [IntKind.wrap_i64]; omega
          have HNE := Lib.hid hne
          have hdl := (HR.out.lk (j := k) (u := l) el).d
          obtain ⟨d, hd⟩ : ∃ d, l.delay = d := ⟨_, rfl⟩
          rw [hd] at cw hdl
          have HDD := Lib.hid hd
          clear el hrw hne hd
          subst hA
          by_cases hov : 1099511627 < d
          · have hob : overB l = true := by unfold overB; rw [HDD.out]; exact decide_eq_true hov
            have HOB := Lib.hid hob
            have w1 : IntKind.i64.wrap ((ps.length : Int) + (k : Int)) = (ps.length : Int) + (k : Int) := by rw [IntKind.wrap_i64]; omega
            have w2' : IntKind.i64.wrap ((ps.length : Int) + (k : Int) + 1) = (ps.length : Int) + (k : Int) + 1 := by rw [IntKind.wrap_i64]; omega
            have b1 : decide (1099511627 < d) = true := decide_eq_true hov
            clear hob hov hdl
            have q0 : wr.cell? ⟨w.heap.size + 1, 0, none⟩ = some (.int .i64 0) := by rw [cell_of HQR.out]; rfl
            have q1 : wr.cell? ⟨w.heap.size + 1, 1, none⟩ = some (.slice none 0 0) := by rw [cell_of HQR.out]; rfl
            have q2 : wr.cell? ⟨w.heap.size + 1, 2, none⟩ = some (.slice none 0 0) := by rw [cell_of HQR.out]; rfl
            have q3 : wr.cell? ⟨w.heap.size + 1, 3, none⟩ = some (.slice none 0 0) := by rw [cell_of HQR.out]; rfl
            have qf0 : wr.frozen? ⟨w.heap.size + 1, 0, none⟩ = false := frozen_of HQR.out 0
            have qf1 : wr.frozen? ⟨w.heap.size + 1, 1, none⟩ = false := frozen_of HQR.out 1
            have qf2 : wr.frozen? ⟨w.heap.size + 1, 2, none⟩ = false := frozen_of HQR.out 2
            have qf3 : wr.frozen? ⟨w.heap.size + 1, 3, none⟩ = false := frozen_of HQR.out 3
            go_upto_region 13 with fail
            go_region
            all_goals (go_wp2_with fail)
            obtain ⟨we, hwe⟩ : ∃ we, ((((wr.setCell ⟨w.heap.size + 1, 0, none⟩ (.int .i64 0)).setCell ⟨w.heap.size + 1, 1, none⟩ (.slice none 0 0)).setCell ⟨w.heap.size + 1, 2, none⟩ (.slice none 0 0)).setCell ⟨w.heap.size + 1, 3, none⟩ (.slice none 0 0)).drew = we := ⟨_, rfl⟩
            simp only [hwe]
            have hqe : we.heap[w.heap.size + 1]? = some (.cells #[.int .i64 0, .slice none 0 0, .slice none 0 0, .slice none 0 0] 26 (0, 0)) := by rw [← hwe, heap_drew, heap_set (heap_set (heap_set (heap_set HQR.out 0 _) 1 _) 2 _) 3 _]; rfl
            have hgk : Kept (fun b => b = w.heap.size + 1) wr we := by rw [← hwe]; exact (((((Kept.refl (fun b => b = w.heap.size + 1) wr).setCell (.inl rfl) _).setCell (.inl rfl) _).setCell (.inl rfl) _).setCell (.inl rfl) _).drew
            have hke : Kept Nil w we := (HKW6.out.trans HKR.out (fun i h => .inr (by have h8 := HGB.out; rw [if_neg h.1] at h8; omega))).trans hgk (fun i hi => .inr (by omega))
            have s0 : we.cell? ⟨w.heap.size + 1, 0, none⟩ = some (.int .i64 0) := by rw [cell_of hqe]; rfl
            have s1 : we.cell? ⟨w.heap.size + 1, 1, none⟩ = some (.slice none 0 0) := by rw [cell_of hqe]; rfl
            have s2 : we.cell? ⟨w.heap.size + 1, 2, none⟩ = some (.slice none 0 0) := by rw [cell_of hqe]; rfl
            have s3 : we.cell? ⟨w.heap.size + 1, 3, none⟩ = some (.slice none 0 0) := by rw [cell_of hqe]; rfl
            refine bodyPost_ret (v := .tuple #[.agg #[.int .i64 0, .slice none 0 0, .slice none 0 0, .slice none 0 0], .int .i64 (30), .int .i64 ((ps.length : Int) + (k : Int) + 1)]) (by simp [results, Try.results11, go_sem, s0, s1, s2, s3]) rfl ?_
            exact RefUpEnd.of_bad hke (up_bad HCK.out rfl EL.out HOB.out HALL.out) (by decide)
          · have hob : overB l = false := by unfold overB; rw [HDD.out]; exact decide_eq_false hov
            have HOB := Lib.hid hob
            have b1 : decide (1099511627 < d) = false := decide_eq_false hov
            have w1 : IntKind.i64.wrap (1000 * d) = d * 1000 := by rw [IntKind.wrap_i64]; omega
            clear hob hov hdl
            go_upto_region 14 with fail
            go_region
            go_wp2_with fail
            go_round
            refine ⟨k + 1, by omega, rfl, fun _ => ?_, (HKR.out.setCell (.inl ⟨HNE.out, rfl⟩) _).drew, fun j u hj hu => ?_⟩
            · have h9 := rowAt_drew (HRW2.out.set lkCells_len (partG_get dlL ls EL.out) (o' := dlL l) (c := 3) (by decide) (u := .int .i64 (d * 1000)) (by rw [← HDD.out]; rfl))
              rw [partG_next dlL ls EL.out] at h9; exact h9
            · by_cases e : j = k
              · rw [e, EL.out] at hu; cases hu; exact HOB.out
              · exact HALL.out j u (by omega) hu
            case measure => (simp [intOf] <;> omega)
        · have hkl : k = ls.length := by omega
          subst hkl
          obtain ⟨wa, h⟩ : ∃ x, x = wr := ⟨_, rfl⟩
          subst h
          have hla : ls ≠ [] → la4 = some ⟨gg, 0, none⟩ ∧ RowAt wa gg 48 5 lkCells (ls.map dlL) := fun h => ⟨(HROW.out h).1, by have h9 := HRK.out h; rw [partG_all] at h9; exact h9⟩
          have hov : ∀ l ∈ ls, overB l = false := fun l hl => by
            obtain ⟨j, hj, rfl⟩ := List.mem_iff_getElem.1 hl
            exact HALL.out j _ hj (List.getElem?_eq_getElem hj)
          have HOV := Lib.hid hov
          clear hov
          have HNA := Lib.hid (HN6.out.links (ls' := ls.map dlL) hla HKR.out (by simp) (fun l hl => by obtain ⟨u, hu, rfl⟩ := List.mem_map.1 hl; exact (HM.out.o.l u hu).dlo (by obtain ⟨j, hj, rfl⟩ := List.mem_iff_getElem.1 hu; have := (HR.out.lk (j := j) (List.getElem?_eq_getElem hj)).d; omega) (HOV.out u hu)))
          have HKWA := Lib.hid (show Kept Nil w wa from HKW6.out.trans HKR.out (fun i h => .inr (by have h8 := HGB.out; rw [if_neg h.1] at h8; omega)))
          clear hla
          have y1 := x1
          clear y1
          clear x0 x1 x2 x3
          have x1 : wa.cell? ⟨w4.heap.size, 1, none⟩ = some (.slice pa4 ps4.length pc4) := by rw [cell_of HXR.out]; rfl
          have x2 : wa.cell? ⟨w4.heap.size, 2, none⟩ = some (.slice la4 ls.length lc4) := by rw [cell_of HXR.out]; rfl
          go_wp2_with fail
          clear x2
          go_loopw [9] (fun i wr => ∃ k : Nat, k ≤ ps4.length ∧ i = .int .i64 k ∧ wr = wa) (fun i _ => ps4.length - (intOf i).toNat)
          case atStart => exact ⟨0, Nat.zero_le _, rfl, rfl⟩
          case round =>
            obtain ⟨k, hk, rfl, rfl⟩ := hrel
            by_cases hlt : k < ps4.length
            · have hlt2 : (k : Int) < (ps4.length : Int) := by omega
              have hw : IntKind.i64.wrap ((k : Int) + 1) = (k : Int) + 1 := by rw [IntKind.wrap_i64]; omega
              go_wp2_with fail
              go_round
              exact ⟨k + 1, by omega, rfl, trivial⟩
              case measure => (simp [intOf] <;> omega)
            · have hkl : k = ps4.length := by omega
              subst hkl
              clear x1 g0 g1
              have x0 : wr.cell? ⟨w4.heap.size, 0, none⟩ = some (.int .i64 2) := by rw [cell_of HXR.out]; rfl
              have x1 : wr.cell? ⟨w4.heap.size, 1, none⟩ = some (.slice pa4 ps4.length pc4) := by rw [cell_of HXR.out]; rfl
              have x2 : wr.cell? ⟨w4.heap.size, 2, none⟩ = some (.slice la4 ls.length lc4) := by rw [cell_of HXR.out]; rfl
              have x3 : wr.cell? ⟨w4.heap.size, 3, none⟩ = some (.slice ea4 es.length ec4) := by rw [cell_of HXR.out]; rfl
              have q0 : wr.cell? ⟨w.heap.size + 1, 0, none⟩ = some (.int .i64 0) := by rw [cell_of HQR.out]; rfl
              have q1 : wr.cell? ⟨w.heap.size + 1, 1, none⟩ = some (.slice none 0 0) := by rw [cell_of HQR.out]; rfl
              have q2 : wr.cell? ⟨w.heap.size + 1, 2, none⟩ = some (.slice none 0 0) := by rw [cell_of HQR.out]; rfl
              have q3 : wr.cell? ⟨w.heap.size + 1, 3, none⟩ = some (.slice none 0 0) := by rw [cell_of HQR.out]; rfl
              have qf0 : wr.frozen? ⟨w.heap.size + 1, 0, none⟩ = false := frozen_of HQR.out 0
              have qf1 : wr.frozen? ⟨w.heap.size + 1, 1, none⟩ = false := frozen_of HQR.out 1
              have qf2 : wr.frozen? ⟨w.heap.size + 1, 2, none⟩ = false := frozen_of HQR.out 2
              have qf3 : wr.frozen? ⟨w.heap.size + 1, 3, none⟩ = false := frozen_of HQR.out 3
              go_wp2_with fail
              obtain ⟨we, hwe⟩ : ∃ we, ((((wr.setCell ⟨w.heap.size + 1, 0, none⟩ (.int .i64 2)).setCell ⟨w.heap.size + 1, 1, none⟩ (.slice pa4 ps4.length pc4)).setCell ⟨w.heap.size + 1, 2, none⟩ (.slice la4 ls.length lc4)).setCell ⟨w.heap.size + 1, 3, none⟩ (.slice ea4 es.length ec4)) = we := ⟨_, rfl⟩
              simp only [hwe]
              have hqe : we.heap[w.heap.size + 1]? = some (.cells #[.int .i64 2, .slice pa4 ps4.length pc4, .slice la4 ls.length lc4, .slice ea4 es.length ec4] 26 (0, 0)) := by rw [← hwe, heap_set (heap_set (heap_set (heap_set HQR.out 0 _) 1 _) 2 _) 3 _]; rfl
              have hgk : Kept (fun b => b = w.heap.size + 1) wr we := by rw [← hwe]; exact ((((Kept.refl (fun b => b = w.heap.size + 1) wr).setCell (.inl rfl) _).setCell (.inl rfl) _).setCell (.inl rfl) _).setCell (.inl rfl) _
              have hke : Kept Nil w we := (HKWA.out).trans hgk (fun i hi => .inr (by omega))
              have s0 : we.cell? ⟨w.heap.size + 1, 0, none⟩ = some (.int .i64 2) := by rw [cell_of hqe]; rfl
              have s1 : we.cell? ⟨w.heap.size + 1, 1, none⟩ = some (.slice pa4 ps4.length pc4) := by rw [cell_of hqe]; rfl
              have s2 : we.cell? ⟨w.heap.size + 1, 2, none⟩ = some (.slice la4 ls.length lc4) := by rw [cell_of hqe]; rfl
              have s3 : we.cell? ⟨w.heap.size + 1, 3, none⟩ = some (.slice ea4 es.length ec4) := by rw [cell_of hqe]; rfl
              refine bodyPost_ret (v := .tuple #[.agg #[.int .i64 2, .slice pa4 ps4.length pc4, .slice la4 ls.length lc4, .slice ea4 es.length ec4], .int .i64 (0), .int .i64 (0)]) (by simp [results, Try.results11, go_sem, s0, s1, s2, s3]) rfl ?_
              have hnE := HNA.out.fresh hgk (fun i hi h => by omega)
              refine RefUpEnd.of_ok (m' := ⟨2, pa4, ps4, pc4, la4, ls.map dlL, lc4, ea4, es, ec4⟩) hke (by unfold upF; rw [if_neg (by rw [HCK.out]; simp), if_neg (by simp), if_pos rfl, over_none.2 HOV.out]) (by simp only [List.length_map]) hnE.h ?_ (hnE.f.mono (by omega))
              unfold upM
              rw [if_pos rfl]
              exact ⟨rfl, HS4.out.p, rfl, rfl⟩
    · skip
      have g0 : W6.cell? ⟨w.heap.size, 0, none⟩ = some (.int .i64 2) := by rw [cell_of HG6.out]; rfl
      have hx61 : w.heap.size < W6.heap.size := by omega
      go_upto_region 8 with fail
      clear g0
      go_wp2_with fail
      go_loopw [8] (fun i wr => ∃ k : Nat, k ≤ ls.length ∧ i = .int .i64 k ∧ (ls ≠ [] → RowAt wr gg 48 5 lkCells (partG wtL ls k)) ∧ Kept (fun b => ls ≠ [] ∧ b = gg) W6 wr) (fun i _ => ls.length - (intOf i).toNat)
      case atStart => exact ⟨0, Nat.zero_le _, rfl, fun h => by rw [partG_zero]; exact (HROW.out h).2, Kept.refl _ _⟩
      case round =>
        obtain ⟨k, hk, rfl, hrk, hK⟩ := hrel
        have HRK := Lib.hid hrk
        have HKR := Lib.hid hK
        have hzr := hK.size
        have hng : ∀ i, (i < w2.heap.size ∨ w4.heap.size ≤ i) → ¬ (ls ≠ [] ∧ i = gg) := fun i hi h => by have h8 := HGB.out; rw [if_neg h.1] at h8; omega
        have HNG := Lib.hid hng
        have HGR := Lib.hid (hK.heap HG6.out (hng _ (.inl hx1)))
        have HQR := Lib.hid (hK.heap HQ6.out (hng _ (.inl hx2)))
        have HXR := Lib.hid (hK.heap HX6.out (hng _ (.inr (Nat.le_refl _))))
        have hy1 : w.heap.size < wr.heap.size := by omega
        have hy2 : w.heap.size + 1 < wr.heap.size := by omega
        have hy3 : w4.heap.size < wr.heap.size := by omega
        clear hrk hK hng
        have g0 : wr.cell? ⟨w.heap.size, 0, none⟩ = some (.int .i64 2) := by rw [cell_of HGR.out]; rfl
        have g1 : wr.cell? ⟨w.heap.size, 1, none⟩ = some (.slice pa ps.length pc) := by rw [cell_of HGR.out]; rfl
        have x0 : wr.cell? ⟨w4.heap.size, 0, none⟩ = some (.int .i64 3) := by rw [cell_of HXR.out]; rfl
        have x1 : wr.cell? ⟨w4.heap.size, 1, none⟩ = some (.slice pa4 ps4.length pc4) := by rw [cell_of HXR.out]; rfl
        have x2 : wr.cell? ⟨w4.heap.size, 2, none⟩ = some (.slice la4 ls.length lc4) := by rw [cell_of HXR.out]; rfl
        have x3 : wr.cell? ⟨w4.heap.size, 3, none⟩ = some (.slice ea4 es.length ec4) := by rw [cell_of HXR.out]; rfl
        by_cases hlt : k < ls.length
        · obtain ⟨l, el⟩ : ∃ l, ls[k]? = some l := ⟨_, List.getElem?_eq_getElem hlt⟩
          have hne : ls ≠ [] := by intro h; rw [h] at hlt; simp at hlt
          have hA := (HROW.out hne).1
          have hrw := HRK.out hne
          have cw : wr.cell? ⟨gg, k * 5 + 4, none⟩ = some (.int .i64 l.weight) := hrw.cell (partG_get wtL ls el) (c := 4) (by decide)
          have fw : wr.frozen? ⟨gg, k * 5 + 4, none⟩ = false := hrw.frozen _
          have hgl := hrw.lt
          have HRW2 := Lib.hid hrw
          have EL := Lib.hid el
          have hlt2 : (k : Int) < (ls.length : Int) := by omega
          have hw : IntKind.i64.wrap ((k : Int) + 1) = (k : Int) + 1 := by rw [IntKind.wrap_i64]; omega
          have HNE := Lib.hid hne
          have hln := (wt_nonneg HR.out).2 l (List.mem_of_getElem? el)
          clear el hrw hne
          subst hA
          go_upto_region 15 with fail
          go_region_with (first | (go_at_call 24; with_reducible refine (one_is l.weight _ hln).mono ?_; rintro e w9 ⟨rfl, rfl⟩))
          all_goals (go_wp2_with fail)
          all_goals (exact ⟨⟨k + 1, by omega, rfl, fun _ => (by have h9 := rowAt_drew (HRW2.out.set lkCells_len (partG_get wtL ls EL.out) (o' := wtL l) (c := 4) (by decide) (u := .int .i64 (wtI l.weight)) rfl); rw [partG_next wtL ls EL.out] at h9; exact h9), (HKR.out.setCell (.inl ⟨HNE.out, rfl⟩) _).drew⟩, by simp [intOf]; omega⟩)
        · have hkl : k = ls.length := by omega
          subst hkl
          obtain ⟨wa, h⟩ : ∃ x, x = wr := ⟨_, rfl⟩
          subst h
          have hla : ls ≠ [] → la4 = some ⟨gg, 0, none⟩ ∧ RowAt wa gg 48 5 lkCells (ls.map wtL) := fun h => ⟨(HROW.out h).1, by have h9 := HRK.out h; rw [partG_all] at h9; exact h9⟩
          have HNA := Lib.hid (HN6.out.links (ls' := ls.map wtL) hla HKR.out (by simp) (fun l hl => by obtain ⟨u, hu, rfl⟩ := List.mem_map.1 hl; exact (HM.out.o.l u hu).wt))
          have HKWA := Lib.hid (show Kept Nil w wa from HKW6.out.trans HKR.out (fun i h => .inr (by have h8 := HGB.out; rw [if_neg h.1] at h8; omega)))
          clear hla
          have hrow : ∃ g, g < w4.heap.size ∧ w2.heap.size ≤ g + (if ps4 = [] then w2.heap.size else 0) ∧ (ps4 ≠ [] → pa4 = some ⟨g, 0, none⟩ ∧ RowAt wa g 52 4 prCells ps4) := by
            by_cases hps : ps4 = []
            · exact ⟨0, by omega, by rw [if_pos hps]; omega, fun h => absurd hps h⟩
            · obtain ⟨g, hb, e, hr⟩ := HNA.out.n.p hps
              obtain ⟨g2, hb2, e2, hr2⟩ := HN4.out.n.p hps
              simp only at e e2
              rw [e] at e2; cases e2
              exact ⟨g, hr2.lt, by omega, fun _ => ⟨e, hr⟩⟩
          obtain ⟨gp, hpx, hpb, hrow⟩ := hrow
          have HROP := Lib.hid hrow
          have HPB := Lib.hid hpb
          clear hrow hpb
          have HXA := Lib.hid HXR.out
          have HGA := Lib.hid HGR.out
          have HQA := Lib.hid HQR.out
          go_wp2_with fail
          clear x0 x1 x2 x3 g0 g1 HXR HGR HQR HKR HRK
          go_loopw [9] (fun i wr => ∃ k : Nat, k ≤ ps4.length ∧ i = .int .i64 k ∧ (ps4 ≠ [] → RowAt wr gp 52 4 prCells (partG wtP ps4 k)) ∧ Kept (fun b => ps4 ≠ [] ∧ b = gp) wa wr) (fun i _ => ps4.length - (intOf i).toNat)
          case atStart => exact ⟨0, Nat.zero_le _, rfl, fun h => by rw [partG_zero]; exact (HROP.out h).2, Kept.refl _ _⟩
          case round =>
            obtain ⟨k, hk, rfl, hrk, hK⟩ := hrel
            have HRK := Lib.hid hrk
            have HKR := Lib.hid hK
            have hzr2 := hK.size
            have hng : ∀ i, (i < w2.heap.size ∨ w4.heap.size ≤ i) → ¬ (ps4 ≠ [] ∧ i = gp) := fun i hi h => by have h8 := HPB.out; rw [if_neg h.1] at h8; omega
            have HGR := Lib.hid (hK.heap HGA.out (hng _ (.inl hx1)))
            have HQR := Lib.hid (hK.heap HQA.out (hng _ (.inl hx2)))
            have HXR := Lib.hid (hK.heap HXA.out (hng _ (.inr (Nat.le_refl _))))
            have hy1 : w.heap.size < wr.heap.size := by omega
            have hy2 : w.heap.size + 1 < wr.heap.size := by omega
            have hy3 : w4.heap.size < wr.heap.size := by omega
            clear hrk hK hng
            have g0 : wr.cell? ⟨w.heap.size, 0, none⟩ = some (.int .i64 2) := by rw [cell_of HGR.out]; rfl
            have g1 : wr.cell? ⟨w.heap.size, 1, none⟩ = some (.slice pa ps.length pc) := by rw [cell_of HGR.out]; rfl
            have x0 : wr.cell? ⟨w4.heap.size, 0, none⟩ = some (.int .i64 3) := by rw [cell_of HXR.out]; rfl
            have x1 : wr.cell? ⟨w4.heap.size, 1, none⟩ = some (.slice pa4 ps4.length pc4) := by rw [cell_of HXR.out]; rfl
            have x2 : wr.cell? ⟨w4.heap.size, 2, none⟩ = some (.slice la4 ls.length lc4) := by rw [cell_of HXR.out]; rfl
            have x3 : wr.cell? ⟨w4.heap.size, 3, none⟩ = some (.slice ea4 es.length ec4) := by rw [cell_of HXR.out]; rfl
            by_cases hlt : k < ps4.length
            · obtain ⟨l, el⟩ : ∃ l, ps4[k]? = some l := ⟨_, List.getElem?_eq_getElem hlt⟩
              have hne : ps4 ≠ [] := by intro h; rw [h] at hlt; simp at hlt
              have hA := (HROP.out hne).1
              have hrw := HRK.out hne
              have cw : wr.cell? ⟨gp, k * 4 + 1, none⟩ = some (.int .i64 l.weight) := hrw.cell (partG_get wtP ps4 el) (c := 1) (by decide)
              have fw : wr.frozen? ⟨gp, k * 4 + 1, none⟩ = false := hrw.frozen _
              have hgl := hrw.lt
              have HRW2 := Lib.hid hrw
              have EL := Lib.hid el
              have hlt2 : (k : Int) < (ps4.length : Int) := by omega
              have hw : IntKind.i64.wrap ((k : Int) + 1) = (k : Int) + 1 := by rw [IntKind.wrap_i64]; omega
              have HNE := Lib.hid hne
              have hln : 0 ≤ l.weight := (wt_nonneg (HR.out.same HS4.out)).1 l (List.mem_of_getElem? el)
              clear el hrw hne
              subst hA
              go_upto_region 20 with fail
              go_region_with (first | (go_at_call 24; with_reducible refine (one_is l.weight _ hln).mono ?_; rintro e w9 ⟨rfl, rfl⟩))
              all_goals (go_wp2_with fail)
              all_goals (exact ⟨⟨k + 1, by omega, rfl, fun _ => (by have h9 := rowAt_drew (HRW2.out.set prCells_len (partG_get wtP ps4 EL.out) (o' := wtP l) (c := 1) (by decide) (u := .int .i64 (wtI l.weight)) rfl); rw [partG_next wtP ps4 EL.out] at h9; exact h9), (HKR.out.setCell (.inl ⟨HNE.out, rfl⟩) _).drew⟩, by simp [intOf]; omega⟩)
            · have hkl : k = ps4.length := by omega
              subst hkl
              clear x0 x1 x2 x3 g0 g1
              have hpa : ps4 ≠ [] → pa4 = some ⟨gp, 0, none⟩ ∧ RowAt wr gp 52 4 prCells (ps4.map wtP) := fun h => ⟨(HROP.out h).1, by have h9 := HRK.out h; rw [partG_all] at h9; exact h9⟩
              have HNB := Lib.hid (HNA.out.procs hpa HKR.out (fun l hl => by obtain ⟨u, hu, rfl⟩ := List.mem_map.1 hl; exact (HNA.out.h.o.p u hu).wt))
              have HKWB := Lib.hid (show Kept Nil w wr from HKWA.out.trans HKR.out (fun i h => .inr (by have h8 := HPB.out; rw [if_neg h.1] at h8; omega)))
              clear hpa
              have x0 : wr.cell? ⟨w4.heap.size, 0, none⟩ = some (.int .i64 3) := by rw [cell_of HXR.out]; rfl
              have x1 : wr.cell? ⟨w4.heap.size, 1, none⟩ = some (.slice pa4 ps4.length pc4) := by rw [cell_of HXR.out]; rfl
              have x2 : wr.cell? ⟨w4.heap.size, 2, none⟩ = some (.slice la4 ls.length lc4) := by rw [cell_of HXR.out]; rfl
              have x3 : wr.cell? ⟨w4.heap.size, 3, none⟩ = some (.slice ea4 es.length ec4) := by rw [cell_of HXR.out]; rfl
              have q0 : wr.cell? ⟨w.heap.size + 1, 0, none⟩ = some (.int .i64 0) := by rw [cell_of HQR.out]; rfl
              have q1 : wr.cell? ⟨w.heap.size + 1, 1, none⟩ = some (.slice none 0 0) := by rw [cell_of HQR.out]; rfl
              have q2 : wr.cell? ⟨w.heap.size + 1, 2, none⟩ = some (.slice none 0 0) := by rw [cell_of HQR.out]; rfl
              have q3 : wr.cell? ⟨w.heap.size + 1, 3, none⟩ = some (.slice none 0 0) := by rw [cell_of HQR.out]; rfl
              have qf0 : wr.frozen? ⟨w.heap.size + 1, 0, none⟩ = false := frozen_of HQR.out 0
              have qf1 : wr.frozen? ⟨w.heap.size + 1, 1, none⟩ = false := frozen_of HQR.out 1
              have qf2 : wr.frozen? ⟨w.heap.size + 1, 2, none⟩ = false := frozen_of HQR.out 2
              have qf3 : wr.frozen? ⟨w.heap.size + 1, 3, none⟩ = false := frozen_of HQR.out 3
              go_wp2_with fail
              obtain ⟨we, hwe⟩ : ∃ we, ((((wr.setCell ⟨w.heap.size + 1, 0, none⟩ (.int .i64 3)).setCell ⟨w.heap.size + 1, 1, none⟩ (.slice pa4 ps4.length pc4)).setCell ⟨w.heap.size + 1, 2, none⟩ (.slice la4 ls.length lc4)).setCell ⟨w.heap.size + 1, 3, none⟩ (.slice ea4 es.length ec4)) = we := ⟨_, rfl⟩
              simp only [hwe]
              have hqe : we.heap[w.heap.size + 1]? = some (.cells #[.int .i64 3, .slice pa4 ps4.length pc4, .slice la4 ls.length lc4, .slice ea4 es.length ec4] 26 (0, 0)) := by rw [← hwe, heap_set (heap_set (heap_set (heap_set HQR.out 0 _) 1 _) 2 _) 3 _]; rfl
              have hgk : Kept (fun b => b = w.heap.size + 1) wr we := by rw [← hwe]; exact ((((Kept.refl (fun b => b = w.heap.size + 1) wr).setCell (.inl rfl) _).setCell (.inl rfl) _).setCell (.inl rfl) _).setCell (.inl rfl) _
              have hke : Kept Nil w we := (HKWB.out).trans hgk (fun i hi => .inr (by omega))
              have s0 : we.cell? ⟨w.heap.size + 1, 0, none⟩ = some (.int .i64 3) := by rw [cell_of hqe]; rfl
              have s1 : we.cell? ⟨w.heap.size + 1, 1, none⟩ = some (.slice pa4 ps4.length pc4) := by rw [cell_of hqe]; rfl
              have s2 : we.cell? ⟨w.heap.size + 1, 2, none⟩ = some (.slice la4 ls.length lc4) := by rw [cell_of hqe]; rfl
              have s3 : we.cell? ⟨w.heap.size + 1, 3, none⟩ = some (.slice ea4 es.length ec4) := by rw [cell_of hqe]; rfl
              refine bodyPost_ret (v := .tuple #[.agg #[.int .i64 3, .slice pa4 ps4.length pc4, .slice la4 ls.length lc4, .slice ea4 es.length ec4], .int .i64 (0), .int .i64 (0)]) (by simp [results, Try.results11, go_sem, s0, s1, s2, s3]) rfl ?_
              have hnE := HNB.out.fresh hgk (fun i hi h => by omega)
              refine RefUpEnd.of_ok (m' := ⟨3, pa4, ps4.map wtP, pc4, la4, ls.map wtL, lc4, ea4, es, ec4⟩) hke (by unfold upF; rw [if_neg (by rw [HCK.out]; simp), if_neg (by simp), if_neg (by simp)]) (by simp only [List.length_map]) hnE.h ?_ (hnE.f.mono (by omega))
              unfold upM
              rw [if_neg (by simp)]
              exact ⟨rfl, HS4.out.p.mapS _ (fun _ _ => wtP_same), rfl, rfl⟩
    · have g0 : W6.cell? ⟨w.heap.size, 0, none⟩ = some (.int .i64 3) := by rw [cell_of HG6.out]; rfl
      have hx61 : w.heap.size < W6.heap.size := by omega
      have hx62 : w.heap.size + 1 < W6.heap.size := by omega
      have q0 : W6.cell? ⟨w.heap.size + 1, 0, none⟩ = some (.int .i64 0) := by rw [cell_of HQ6.out]; rfl
      have q1 : W6.cell? ⟨w.heap.size + 1, 1, none⟩ = some (.slice none 0 0) := by rw [cell_of HQ6.out]; rfl
      have q2 : W6.cell? ⟨w.heap.size + 1, 2, none⟩ = some (.slice none 0 0) := by rw [cell_of HQ6.out]; rfl
      have q3 : W6.cell? ⟨w.heap.size + 1, 3, none⟩ = some (.slice none 0 0) := by rw [cell_of HQ6.out]; rfl
      have qf0 : W6.frozen? ⟨w.heap.size + 1, 0, none⟩ = false := frozen_of HQ6.out 0
      have qf1 : W6.frozen? ⟨w.heap.size + 1, 1, none⟩ = false := frozen_of HQ6.out 1
      have qf2 : W6.frozen? ⟨w.heap.size + 1, 2, none⟩ = false := frozen_of HQ6.out 2
      have qf3 : W6.frozen? ⟨w.heap.size + 1, 3, none⟩ = false := frozen_of HQ6.out 3
      go_wp2_with fail
      obtain ⟨we, hwe⟩ : ∃ we, ((((W6.setCell ⟨w.heap.size + 1, 0, none⟩ (.int .i64 0)).setCell ⟨w.heap.size + 1, 1, none⟩ (.slice none 0 0)).setCell ⟨w.heap.size + 1, 2, none⟩ (.slice none 0 0)).setCell ⟨w.heap.size + 1, 3, none⟩ (.slice none 0 0)) = we := ⟨_, rfl⟩
      simp only [hwe]
      have hqe : we.heap[w.heap.size + 1]? = some (.cells #[.int .i64 0, .slice none 0 0, .slice none 0 0, .slice none 0 0] 26 (0, 0)) := by rw [← hwe, heap_set (heap_set (heap_set (heap_set HQ6.out 0 _) 1 _) 2 _) 3 _]; rfl
      have hgk : Kept (fun b => b = w.heap.size + 1) W6 we := by rw [← hwe]; exact ((((Kept.refl (fun b => b = w.heap.size + 1) W6).setCell (.inl rfl) _).setCell (.inl rfl) _).setCell (.inl rfl) _).setCell (.inl rfl) _
      have hke : Kept Nil w we := (HKW6.out).trans hgk (fun i hi => .inr (by omega))
      have s0 : we.cell? ⟨w.heap.size + 1, 0, none⟩ = some (.int .i64 0) := by rw [cell_of hqe]; rfl
      have s1 : we.cell? ⟨w.heap.size + 1, 1, none⟩ = some (.slice none 0 0) := by rw [cell_of hqe]; rfl
      have s2 : we.cell? ⟨w.heap.size + 1, 2, none⟩ = some (.slice none 0 0) := by rw [cell_of hqe]; rfl
      have s3 : we.cell? ⟨w.heap.size + 1, 3, none⟩ = some (.slice none 0 0) := by rw [cell_of hqe]; rfl
      refine bodyPost_ret (v := .tuple #[.agg #[.int .i64 0, .slice none 0 0, .slice none 0 0, .slice none 0 0], .int .i64 (43), .int .i64 (0)]) (by simp [results, Try.results11, go_sem, s0, s1, s2, s3]) rfl ?_
      exact RefUpEnd.of_bad hke (by unfold upF; rw [if_neg (by rw [HCK.out]; simp), if_pos rfl]) (by decide)
  · have fF : (F.1 != 0) = true := by simp [hF0]
    have HF0 := Lib.hid hF0
    clear hF0
    have q0 : w2.cell? ⟨w.heap.size + 1, 0, none⟩ = some (.int .i64 0) := by rw [cell_of HQ2.out]; rfl
    have q1 : w2.cell? ⟨w.heap.size + 1, 1, none⟩ = some (.slice none 0 0) := by rw [cell_of HQ2.out]; rfl
    have q2 : w2.cell? ⟨w.heap.size + 1, 2, none⟩ = some (.slice none 0 0) := by rw [cell_of HQ2.out]; rfl
    have q3 : w2.cell? ⟨w.heap.size + 1, 3, none⟩ = some (.slice none 0 0) := by rw [cell_of HQ2.out]; rfl
    have qf0 : w2.frozen? ⟨w.heap.size + 1, 0, none⟩ = false := frozen_of HQ2.out 0
    have qf1 : w2.frozen? ⟨w.heap.size + 1, 1, none⟩ = false := frozen_of HQ2.out 1
    have qf2 : w2.frozen? ⟨w.heap.size + 1, 2, none⟩ = false := frozen_of HQ2.out 2
    have qf3 : w2.frozen? ⟨w.heap.size + 1, 3, none⟩ = false := frozen_of HQ2.out 3
    go_wp2_with fail
    obtain ⟨we, hwe⟩ : ∃ we, ((((w2.setCell ⟨w.heap.size + 1, 0, none⟩ (.int .i64 0)).setCell ⟨w.heap.size + 1, 1, none⟩ (.slice none 0 0)).setCell ⟨w.heap.size + 1, 2, none⟩ (.slice none 0 0)).setCell ⟨w.heap.size + 1, 3, none⟩ (.slice none 0 0)) = we := ⟨_, rfl⟩
    simp only [hwe]
    have hqe : we.heap[w.heap.size + 1]? = some (.cells #[.int .i64 0, .slice none 0 0, .slice none 0 0, .slice none 0 0] 26 (0, 0)) := by rw [← hwe, heap_set (heap_set (heap_set (heap_set HQ2.out 0 _) 1 _) 2 _) 3 _]; rfl
    have hgk : Kept (fun b => b = w.heap.size + 1) w2 we := by rw [← hwe]; exact ((((Kept.refl (fun b => b = w.heap.size + 1) w2).setCell (.inl rfl) _).setCell (.inl rfl) _).setCell (.inl rfl) _).setCell (.inl rfl) _
    have hke : Kept Nil w we := (HKW2.out).trans hgk (fun i hi => .inr (by omega))
    have s0 : we.cell? ⟨w.heap.size + 1, 0, none⟩ = some (.int .i64 0) := by rw [cell_of hqe]; rfl
    have s1 : we.cell? ⟨w.heap.size + 1, 1, none⟩ = some (.slice none 0 0) := by rw [cell_of hqe]; rfl
    have s2 : we.cell? ⟨w.heap.size + 1, 2, none⟩ = some (.slice none 0 0) := by rw [cell_of hqe]; rfl
    have s3 : we.cell? ⟨w.heap.size + 1, 3, none⟩ = some (.slice none 0 0) := by rw [cell_of hqe]; rfl
    refine bodyPost_ret (v := .tuple #[.agg #[.int .i64 0, .slice none 0 0, .slice none 0 0, .slice none 0 0], .int .i64 (F.1), .int .i64 (F.2)]) (by simp [results, Try.results11, go_sem, s0, s1, s2, s3]) rfl ?_
    exact RefUpEnd.of_bad hke (by unfold upF; rw [if_pos (by rw [HF.out]; exact HF0.out), HF.out]) HF0.out
end Go.Proofs.Ythgbahlkflmgiaa.Mo
end
section
namespace Go.Proofs.Ythgbahlkflmgiaa.Mo
open Go Go.RowKit Go.Proofs.Ythgbahlkflmgiaa.Lb
set_option linter.unusedVariables false
set_option linter.unusedSimpArgs false
set_option maxRecDepth 8000
structure RefLatEnd (m : Md) (w : World) (e : Ending) (w' : World) : Prop where
  k : Kept Nil w w'
  bad : (latF m).1 ≠ 0 → e = .returned (.tuple #[.agg #[.int .i64 0, .slice none 0 0, .slice none 0 0, .slice none 0 0], .int .i64 (latF m).1, .int .i64 (latF m).2])
  ok : (latF m).1 = 0 → ∃ m' : Md, e = .returned (.tuple #[.agg #[.int .i64 m'.version, .slice m'.pa m'.ps.length m'.pc, .slice m'.la m'.ls.length m'.lc, .slice m'.ea m'.es.length m'.ec], .int .i64 0, .int .i64 0]) ∧ HeldM w' m' ∧ SameM (latM m) m'
theorem RefLatEnd.of_bad {m : Md} {w w' : World} {c d : Int} (hk : Kept Nil w w') (hF : latF m = (c, d)) (hc : c ≠ 0) : RefLatEnd m w (.returned (.tuple #[.agg #[.int .i64 0, .slice none 0 0, .slice none 0 0, .slice none 0 0], .int .i64 c, .int .i64 d])) w' :=
  ⟨hk, fun _ => by rw [hF], fun h => by rw [hF] at h; exact absurd h hc⟩
theorem RefLatEnd.of_ok {m m' : Md} {w w' : World} {e : Ending} (hk : Kept Nil w w') (hF : latF m = (0, 0)) (he : e = .returned (.tuple #[.agg #[.int .i64 m'.version, .slice m'.pa m'.ps.length m'.pc, .slice m'.la m'.ls.length m'.lc, .slice m'.ea m'.es.length m'.ec], .int .i64 0, .int .i64 0])) (hh : HeldM w' m') (hs : SameM (latM m) m') : RefLatEnd m w e w' :=
  ⟨hk, fun h => by rw [hF] at h; exact absurd rfl h, fun _ => ⟨m', he, hh, hs⟩⟩
theorem FreshM.outB {b : Nat} {m : Md} {K : Nat → Prop} (h : FreshM b m) (hK : ∀ i, K i → i < b) : OutM K m := h.out.mono hK
set_option maxHeartbeats 16000000 in
theorem RefLatest_is (ver : Int) (ps : List Pr) (ls : List Lk) (es : List Ev) (pa la ea : Option Addr) (pc lc ec : Nat) (w : World) (hm : HeldM w ⟨ver, pa, ps, pc, la, ls, lc, ea, es, ec⟩) :
    Calls Try.prog 13 #[.agg #[.int .i64 ver, .slice pa ps.length pc, .slice la ls.length lc, .slice ea es.length ec]] w fun e w' => RefLatEnd ⟨ver, pa, ps, pc, la, ls, lc, ea, es, ec⟩ w e w' := by
  have HM := Lib.hid hm
  clear hm
  obtain ⟨F, hF⟩ : ∃ F, mdCheck ⟨ver, pa, ps, pc, la, ls, lc, ea, es, ec⟩ = F := ⟨_, rfl⟩
  have HF := Lib.hid hF
  obtain ⟨W1, hW⟩ : ∃ W, ((w.alloc (.cells #[.int .i64 ver, .slice pa ps.length pc, .slice la ls.length lc, .slice ea es.length ec] 26)).alloc (.cells #[.int .i64 0, .slice none 0 0, .slice none 0 0, .slice none 0 0] 26)) = W := ⟨_, rfl⟩
  have hk : Kept Nil w W1 := by rw [← hW]; exact (((Kept.refl Nil w).alloc _).alloc _)
  have hsz : W1.heap.size = w.heap.size + 2 := by rw [← hW]; simp
  have hb : W1.heap[w.heap.size]? = some (.cells #[.int .i64 ver, .slice pa ps.length pc, .slice la ls.length lc, .slice ea es.length ec] 26 (0, 0)) := by
    rw [← hW]
    rw [heap_old _ _ (by simp only [World.size_alloc]; omega)]
    have h9 := heap_new w (.cells #[.int .i64 ver, .slice pa ps.length pc, .slice la ls.length lc, .slice ea es.length ec] 26)
    exact h9
  have G0 := Lib.hid (show W1.cell? ⟨w.heap.size, 0, none⟩ = some (.int .i64 ver) by rw [cell_of hb]; rfl)
  have G1 := Lib.hid (show W1.cell? ⟨w.heap.size, 1, none⟩ = some (.slice pa ps.length pc) by rw [cell_of hb]; rfl)
  have G2 := Lib.hid (show W1.cell? ⟨w.heap.size, 2, none⟩ = some (.slice la ls.length lc) by rw [cell_of hb]; rfl)
  have G3 := Lib.hid (show W1.cell? ⟨w.heap.size, 3, none⟩ = some (.slice ea es.length ec) by rw [cell_of hb]; rfl)
  have GB := Lib.hid hb
  have hzg : w.heap.size < W1.heap.size := by omega
  clear hb
  have hb : W1.heap[w.heap.size + 1]? = some (.cells #[.int .i64 0, .slice none 0 0, .slice none 0 0, .slice none 0 0] 26 (0, 0)) := by
    rw [← hW]
    have h9 := heap_new (w.alloc (.cells #[.int .i64 ver, .slice pa ps.length pc, .slice la ls.length lc, .slice ea es.length ec] 26)) (.cells #[.int .i64 0, .slice none 0 0, .slice none 0 0, .slice none 0 0] 26)
    simp only [World.size_alloc] at h9
    exact h9
  have Q0 := Lib.hid (show W1.cell? ⟨w.heap.size + 1, 0, none⟩ = some (.int .i64 0) by rw [cell_of hb]; rfl)
  have Q1 := Lib.hid (show W1.cell? ⟨w.heap.size + 1, 1, none⟩ = some (.slice none 0 0) by rw [cell_of hb]; rfl)
  have Q2 := Lib.hid (show W1.cell? ⟨w.heap.size + 1, 2, none⟩ = some (.slice none 0 0) by rw [cell_of hb]; rfl)
  have Q3 := Lib.hid (show W1.cell? ⟨w.heap.size + 1, 3, none⟩ = some (.slice none 0 0) by rw [cell_of hb]; rfl)
  have QB := Lib.hid hb
  have hzq : w.heap.size + 1 < W1.heap.size := by omega
  clear hb
  have HW := Lib.hid hW
  have HK := Lib.hid hk
  have HSZ := Lib.hid hsz
  clear hW hk hsz
  have hcall := RefCheck_h W1 (HM.out.nil HK.out)
  rw [hF] at hcall
  clear hF
  go_enter Try.func13, Try.ntmps13
  go_wp2_with fail
  rw [HW.out]
  have g0 := ((Kept.refl Nil W1)).cell G0.out (fun h => h)
  have g1 := ((Kept.refl Nil W1)).cell G1.out (fun h => h)
  have g2 := ((Kept.refl Nil W1)).cell G2.out (fun h => h)
  have g3 := ((Kept.refl Nil W1)).cell G3.out (fun h => h)
  have q0 := ((Kept.refl Nil W1)).cell Q0.out (fun h => h)
  have q1 := ((Kept.refl Nil W1)).cell Q1.out (fun h => h)
  have q2 := ((Kept.refl Nil W1)).cell Q2.out (fun h => h)
  have q3 := ((Kept.refl Nil W1)).cell Q3.out (fun h => h)
  go_wp2_with fail
  refine hcall.mono ?_
  clear hcall
  rintro e w2 ⟨rfl, hk2⟩
  have HK2 := Lib.hid hk2
  have hz2 := hk2.size
  have HG2 := Lib.hid (hk2.heap GB.out (fun h => h))
  have HQ2 := Lib.hid (hk2.heap QB.out (fun h => h))
  clear hk2 g0 g1 g2 g3 q0 q1 q2 q3
  have hsz1 : w.heap.size + 1 < W1.heap.size := by have := HSZ.out; omega
  have hsz2 := HSZ.out
  have HSZ1 := Lib.hid (show W1.heap.size ≤ w.heap.size + 2 by omega)
  clear hsz2
  have HKW2 := Lib.hid (show Kept Nil w w2 from HK.out.step HK2.out)
  have hx1 : w.heap.size < w2.heap.size := by omega
  have hx2 : w.heap.size + 1 < w2.heap.size := by omega
  by_cases hF0 : F.1 = 0
  · have fF : (F.1 != 0) = false := by simp [hF0]
    have hcheck : (mdCheck ⟨ver, pa, ps, pc, la, ls, lc, ea, es, ec⟩).1 = 0 := by rw [HF.out]; exact hF0
    have HR := Lib.hid (right_of hcheck)
    have HCK := Lib.hid hcheck
    have HV := Lib.hid (show 1 ≤ ver from by have := HR.out.v; simp only at this; omega)
    clear hF0 hcheck
    go_upto_region 4 with fail
    go_loopw [23] (fun _ wr => ∃ (k : Nat) (v6 : Int) (pa6 la6 ea6 : Option Addr) (ps6 : List Pr) (ls6 : List Lk) (es6 : List Ev) (pc6 lc6 ec6 : Nat), wr.heap[w.heap.size]? = some (.cells #[.int .i64 v6, .slice pa6 ps6.length pc6, .slice la6 ls6.length lc6, .slice ea6 es6.length ec6] 26 (0, 0)) ∧ HeldM wr ⟨v6, pa6, ps6, pc6, la6, ls6, lc6, ea6, es6, ec6⟩ ∧ OutM (fun i => i = w.heap.size ∨ i = w.heap.size + 1) ⟨v6, pa6, ps6, pc6, la6, ls6, lc6, ea6, es6, ec6⟩ ∧ Between ⟨ver, pa, ps, pc, la, ls, lc, ea, es, ec⟩ ⟨v6, pa6, ps6, pc6, la6, ls6, lc6, ea6, es6, ec6⟩ k ∧ Kept (fun b => b = w.heap.size) w2 wr) (fun _ wr => (3 - intOf ((wr.cell? ⟨w.heap.size, 0, none⟩).getD (.int .i64 0))).toNat)
    case atStart => exact ⟨3, _, _, _, _, _, _, _, _, _, _, HG2.out, HM.out.nil HKW2.out, HM.out.r.low.mono (fun i h => by omega), Between.start HR.out (SameM.rfl' _), Kept.refl _ _⟩
    case round =>
      obtain ⟨k, v6, pa6, la6, ea6, ps6, ls6, es6, pc6, lc6, ec6, hg6, hh6, hf6, hb6, hK⟩ := hrel
      have HG6 := Lib.hid hg6
      have HH6 := Lib.hid hh6
      have HF6 := Lib.hid hf6
      have HB6 := Lib.hid hb6
      have HKR := Lib.hid hK
      have hzr := hK.size
      have HQR := Lib.hid (hK.heap HQ2.out (by omega))
      have hy1 : w.heap.size < wr.heap.size := by omega
      have hy2 : w.heap.size + 1 < wr.heap.size := by omega
      have g0 : wr.cell? ⟨w.heap.size, 0, none⟩ = some (.int .i64 v6) := by rw [cell_of hg6]; rfl
      have g1 : wr.cell? ⟨w.heap.size, 1, none⟩ = some (.slice pa6 ps6.length pc6) := by rw [cell_of hg6]; rfl
      have g2 : wr.cell? ⟨w.heap.size, 2, none⟩ = some (.slice la6 ls6.length lc6) := by rw [cell_of hg6]; rfl
      have g3 : wr.cell? ⟨w.heap.size, 3, none⟩ = some (.slice ea6 es6.length ec6) := by rw [cell_of hg6]; rfl
      clear hg6 hh6 hf6 hb6 hK
      by_cases hlt : v6 < 3
      · have hup := RefUp_is v6 ps6 ls6 es6 pa6 la6 ea6 pc6 lc6 ec6 wr HH6.out
        obtain ⟨u, hu⟩ : ∃ u, upF ⟨v6, pa6, ps6, pc6, la6, ls6, lc6, ea6, es6, ec6⟩ = u := ⟨_, rfl⟩
        have HU := Lib.hid hu
        clear hu
        have HLT := Lib.hid hlt
        go_wp2_with fail
        refine hup.mono ?_
        clear hup hlt g0 g1 g2 g3
        rintro e w7 hE
        have HK7 := Lib.hid hE.k
        have hz7 := hE.k.size
        have HQ7 := Lib.hid (HK7.out.heap HQR.out (fun h => h))
        have HG7 := Lib.hid (HK7.out.heap HG6.out (fun h => h))
        by_cases hu0 : u.1 = 0
        · have fu : (u.1 != 0) = false := by simp [hu0]
          obtain ⟨⟨v8, pa8, ps8, pc8, la8, ls8, lc8, ea8, es8, ec8⟩, e8, hh8, hs8, hf8⟩ := hE.ok (by rw [HU.out]; exact hu0)
          subst e8
          have HH8 := Lib.hid hh8
          have HS8 := Lib.hid hs8
          have HF8 := Lib.hid hf8
          have HU0 := Lib.hid hu0
          clear hE hh8 hs8 hf8 hu0 fu
          obtain ⟨W8, hW⟩ : ∃ W, (w7.alloc (.cells #[.int .i64 v8, .slice pa8 ps8.length pc8, .slice la8 ls8.length lc8, .slice ea8 es8.length ec8] 26)) = W := ⟨_, rfl⟩
          have hk : Kept Nil w7 W8 := by rw [← hW]; exact ((Kept.refl Nil w7).alloc _)
          have hsz : W8.heap.size = w7.heap.size + 1 := by rw [← hW]; simp
          have hb : W8.heap[w7.heap.size]? = some (.cells #[.int .i64 v8, .slice pa8 ps8.length pc8, .slice la8 ls8.length lc8, .slice ea8 es8.length ec8] 26 (0, 0)) := by
            rw [← hW]
            have h9 := heap_new w7 (.cells #[.int .i64 v8, .slice pa8 ps8.length pc8, .slice la8 ls8.length lc8, .slice ea8 es8.length ec8] 26)
            exact h9
          have N0 := Lib.hid (show W8.cell? ⟨w7.heap.size, 0, none⟩ = some (.int .i64 v8) by rw [cell_of hb]; rfl)
          have N1 := Lib.hid (show W8.cell? ⟨w7.heap.size, 1, none⟩ = some (.slice pa8 ps8.length pc8) by rw [cell_of hb]; rfl)
          have N2 := Lib.hid (show W8.cell? ⟨w7.heap.size, 2, none⟩ = some (.slice la8 ls8.length lc8) by rw [cell_of hb]; rfl)
          have N3 := Lib.hid (show W8.cell? ⟨w7.heap.size, 3, none⟩ = some (.slice ea8 es8.length ec8) by rw [cell_of hb]; rfl)
          have NB := Lib.hid hb
          have hzn : w7.heap.size < W8.heap.size := by omega
          clear hb
          have HW8 := Lib.hid hW
          have HK8 := Lib.hid hk
          have HSZ8 := Lib.hid hsz
          clear hW hk hsz
          have hz8 : w7.heap.size < W8.heap.size := by have := HSZ8.out; omega
          go_upto_region 6 with fail
          rw [HW8.out]
          have n0 := N0.out
          have n1 := N1.out
          have n2 := N2.out
          have n3 := N3.out
          have HG8 := Lib.hid (HK8.out.heap HG7.out (fun h => h))
          have g0 : W8.cell? ⟨w.heap.size, 0, none⟩ = some (.int .i64 v6) := by rw [cell_of HG8.out]; rfl
          have g1 : W8.cell? ⟨w.heap.size, 1, none⟩ = some (.slice pa6 ps6.length pc6) := by rw [cell_of HG8.out]; rfl
          have g2 : W8.cell? ⟨w.heap.size, 2, none⟩ = some (.slice la6 ls6.length lc6) := by rw [cell_of HG8.out]; rfl
          have g3 : W8.cell? ⟨w.heap.size, 3, none⟩ = some (.slice ea6 es6.length ec6) := by rw [cell_of HG8.out]; rfl
          have gf0 : W8.frozen? ⟨w.heap.size, 0, none⟩ = false := frozen_of HG8.out 0
          have gf1 : W8.frozen? ⟨w.heap.size, 1, none⟩ = false := frozen_of HG8.out 1
          have gf2 : W8.frozen? ⟨w.heap.size, 2, none⟩ = false := frozen_of HG8.out 2
          have gf3 : W8.frozen? ⟨w.heap.size, 3, none⟩ = false := frozen_of HG8.out 3
          go_wp2_with fail
          obtain ⟨W9, hW9⟩ : ∃ W9, ((((W8.setCell ⟨w.heap.size, 0, none⟩ (.int .i64 v8)).setCell ⟨w.heap.size, 1, none⟩ (.slice pa8 ps8.length pc8)).setCell ⟨w.heap.size, 2, none⟩ (.slice la8 ls8.length lc8)).setCell ⟨w.heap.size, 3, none⟩ (.slice ea8 es8.length ec8)) = W9 := ⟨_, rfl⟩
          simp only [hW9]
          have hk9 : Kept (fun b => b = w.heap.size) W8 W9 := by rw [← hW9]; exact ((((Kept.refl (fun b => b = w.heap.size) W8).setCell (.inl rfl) _).setCell (.inl rfl) _).setCell (.inl rfl) _).setCell (.inl rfl) _
          have hg9 : W9.heap[w.heap.size]? = some (.cells #[.int .i64 v8, .slice pa8 ps8.length pc8, .slice la8 ls8.length lc8, .slice ea8 es8.length ec8] 26 (0, 0)) := by rw [← hW9, heap_set (heap_set (heap_set (heap_set HG8.out 0 _) 1 _) 2 _) 3 _]; rfl
          obtain ⟨j, hj, hb⟩ := HB6.out.next HV.out HLT.out (by rw [HU.out]; exact HU0.out) HS8.out
          have hvv : v6 + 1 = v8 := by have h1 := HB6.out.n; have h2 := hb.n; simp only at h1 h2; omega
          go_round
          refine ⟨j, v8, pa8, la8, ea8, ps8, ls8, es8, pc8, lc8, ec8, hg9, (HH8.out.nil HK8.out).fresh HF8.out hk9 (fun i hi h => by omega), HF8.out.outB (fun i h => by omega), hb, (HKR.out.step (HK7.out.step HK8.out)).trans hk9 (fun i h => .inl h)⟩
          case measure => (have hc9 : W9.cell? ⟨w.heap.size, 0, none⟩ = some (.int .i64 v8) := by rw [cell_of hg9]; rfl); (have hc6 : wr.cell? ⟨w.heap.size, 0, none⟩ = some (.int .i64 v6) := by rw [cell_of HG6.out]; rfl); rw [hc9, hc6]; have := HLT.out; simp [intOf]; omega
        · have fu : (u.1 != 0) = true := by simp [hu0]
          have e8 := hE.bad (by rw [HU.out]; exact hu0)
          rw [HU.out] at e8
          subst e8
          have HU0 := Lib.hid hu0
          clear hE hu0
          obtain ⟨W8, hW⟩ : ∃ W, (w7.alloc (.cells #[.int .i64 0, .slice none 0 0, .slice none 0 0, .slice none 0 0] 26)) = W := ⟨_, rfl⟩
          have hk : Kept Nil w7 W8 := by rw [← hW]; exact ((Kept.refl Nil w7).alloc _)
          have hsz : W8.heap.size = w7.heap.size + 1 := by rw [← hW]; simp
          have hb : W8.heap[w7.heap.size]? = some (.cells #[.int .i64 0, .slice none 0 0, .slice none 0 0, .slice none 0 0] 26 (0, 0)) := by
            rw [← hW]
            have h9 := heap_new w7 (.cells #[.int .i64 0, .slice none 0 0, .slice none 0 0, .slice none 0 0] 26)
            exact h9
          have N0 := Lib.hid (show W8.cell? ⟨w7.heap.size, 0, none⟩ = some (.int .i64 0) by rw [cell_of hb]; rfl)
          have N1 := Lib.hid (show W8.cell? ⟨w7.heap.size, 1, none⟩ = some (.slice none 0 0) by rw [cell_of hb]; rfl)
          have N2 := Lib.hid (show W8.cell? ⟨w7.heap.size, 2, none⟩ = some (.slice none 0 0) by rw [cell_of hb]; rfl)
          have N3 := Lib.hid (show W8.cell? ⟨w7.heap.size, 3, none⟩ = some (.slice none 0 0) by rw [cell_of hb]; rfl)
          have NB := Lib.hid hb
          have hzn : w7.heap.size < W8.heap.size := by omega
          clear hb
          have HW8 := Lib.hid hW
          have HK8 := Lib.hid hk
          have HSZ8 := Lib.hid hsz
          clear hW hk hsz
          have hz8 : w7.heap.size < W8.heap.size := by have := HSZ8.out; omega
          go_upto_region 6 with fail
          rw [HW8.out]
          have HQ8 := Lib.hid (HK8.out.heap HQ7.out (fun h => h))
          have q0 : W8.cell? ⟨w.heap.size + 1, 0, none⟩ = some (.int .i64 0) := by rw [cell_of HQ8.out]; rfl
          have q1 : W8.cell? ⟨w.heap.size + 1, 1, none⟩ = some (.slice none 0 0) := by rw [cell_of HQ8.out]; rfl
          have q2 : W8.cell? ⟨w.heap.size + 1, 2, none⟩ = some (.slice none 0 0) := by rw [cell_of HQ8.out]; rfl
          have q3 : W8.cell? ⟨w.heap.size + 1, 3, none⟩ = some (.slice none 0 0) := by rw [cell_of HQ8.out]; rfl
          have qf0 : W8.frozen? ⟨w.heap.size + 1, 0, none⟩ = false := frozen_of HQ8.out 0
          have qf1 : W8.frozen? ⟨w.heap.size + 1, 1, none⟩ = false := frozen_of HQ8.out 1
          have qf2 : W8.frozen? ⟨w.heap.size + 1, 2, none⟩ = false := frozen_of HQ8.out 2
          have qf3 : W8.frozen? ⟨w.heap.size + 1, 3, none⟩ = false := frozen_of HQ8.out 3
          go_wp2_with fail
          obtain ⟨we, hwe⟩ : ∃ we, ((((W8.setCell ⟨w.heap.size + 1, 0, none⟩ (.int .i64 0)).setCell ⟨w.heap.size + 1, 1, none⟩ (.slice none 0 0)).setCell ⟨w.heap.size + 1, 2, none⟩ (.slice none 0 0)).setCell ⟨w.heap.size + 1, 3, none⟩ (.slice none 0 0)) = we := ⟨_, rfl⟩
          simp only [hwe]
          have hqe : we.heap[w.heap.size + 1]? = some (.cells #[.int .i64 0, .slice none 0 0, .slice none 0 0, .slice none 0 0] 26 (0, 0)) := by rw [← hwe, heap_set (heap_set (heap_set (heap_set HQ8.out 0 _) 1 _) 2 _) 3 _]; rfl
          have hgk : Kept (fun b => b = w.heap.size + 1) W8 we := by rw [← hwe]; exact ((((Kept.refl (fun b => b = w.heap.size + 1) W8).setCell (.inl rfl) _).setCell (.inl rfl) _).setCell (.inl rfl) _).setCell (.inl rfl) _
          have hke : Kept Nil w we := (((HKW2.out.trans HKR.out (fun i hi => .inr (by omega))).step HK7.out).step HK8.out).trans hgk (fun i hi => .inr (by omega))
          have s0 : we.cell? ⟨w.heap.size + 1, 0, none⟩ = some (.int .i64 0) := by rw [cell_of hqe]; rfl
          have s1 : we.cell? ⟨w.heap.size + 1, 1, none⟩ = some (.slice none 0 0) := by rw [cell_of hqe]; rfl
          have s2 : we.cell? ⟨w.heap.size + 1, 2, none⟩ = some (.slice none 0 0) := by rw [cell_of hqe]; rfl
          have s3 : we.cell? ⟨w.heap.size + 1, 3, none⟩ = some (.slice none 0 0) := by rw [cell_of hqe]; rfl
          refine bodyPost_ret (v := .tuple #[.agg #[.int .i64 0, .slice none 0 0, .slice none 0 0, .slice none 0 0], .int .i64 (u.1), .int .i64 (u.2)]) (by simp [results, Try.results13, go_sem, s0, s1, s2, s3]) rfl ?_
          exact RefLatEnd.of_bad hke (by rw [HB6.out.bad HV.out HCK.out HLT.out (by rw [HU.out]; exact HU0.out), HU.out]) HU0.out
      · have HNL := Lib.hid hlt
        have q0 : wr.cell? ⟨w.heap.size + 1, 0, none⟩ = some (.int .i64 0) := by rw [cell_of HQR.out]; rfl
        have q1 : wr.cell? ⟨w.heap.size + 1, 1, none⟩ = some (.slice none 0 0) := by rw [cell_of HQR.out]; rfl
        have q2 : wr.cell? ⟨w.heap.size + 1, 2, none⟩ = some (.slice none 0 0) := by rw [cell_of HQR.out]; rfl
        have q3 : wr.cell? ⟨w.heap.size + 1, 3, none⟩ = some (.slice none 0 0) := by rw [cell_of HQR.out]; rfl
        have qf0 : wr.frozen? ⟨w.heap.size + 1, 0, none⟩ = false := frozen_of HQR.out 0
        have qf1 : wr.frozen? ⟨w.heap.size + 1, 1, none⟩ = false := frozen_of HQR.out 1
        have qf2 : wr.frozen? ⟨w.heap.size + 1, 2, none⟩ = false := frozen_of HQR.out 2
        have qf3 : wr.frozen? ⟨w.heap.size + 1, 3, none⟩ = false := frozen_of HQR.out 3
        go_wp2_with fail
        obtain ⟨we, hwe⟩ : ∃ we, ((((wr.setCell ⟨w.heap.size + 1, 0, none⟩ (.int .i64 v6)).setCell ⟨w.heap.size + 1, 1, none⟩ (.slice pa6 ps6.length pc6)).setCell ⟨w.heap.size + 1, 2, none⟩ (.slice la6 ls6.length lc6)).setCell ⟨w.heap.size + 1, 3, none⟩ (.slice ea6 es6.length ec6)) = we := ⟨_, rfl⟩
        simp only [hwe]
        have hqe : we.heap[w.heap.size + 1]? = some (.cells #[.int .i64 v6, .slice pa6 ps6.length pc6, .slice la6 ls6.length lc6, .slice ea6 es6.length ec6] 26 (0, 0)) := by rw [← hwe, heap_set (heap_set (heap_set (heap_set HQR.out 0 _) 1 _) 2 _) 3 _]; rfl
        have hgk : Kept (fun b => b = w.heap.size + 1) wr we := by rw [← hwe]; exact ((((Kept.refl (fun b => b = w.heap.size + 1) wr).setCell (.inl rfl) _).setCell (.inl rfl) _).setCell (.inl rfl) _).setCell (.inl rfl) _
        have hke : Kept Nil w we := (HKW2.out.trans HKR.out (fun i hi => .inr (by omega))).trans hgk (fun i hi => .inr (by omega))
        have s0 : we.cell? ⟨w.heap.size + 1, 0, none⟩ = some (.int .i64 v6) := by rw [cell_of hqe]; rfl
        have s1 : we.cell? ⟨w.heap.size + 1, 1, none⟩ = some (.slice pa6 ps6.length pc6) := by rw [cell_of hqe]; rfl
        have s2 : we.cell? ⟨w.heap.size + 1, 2, none⟩ = some (.slice la6 ls6.length lc6) := by rw [cell_of hqe]; rfl
        have s3 : we.cell? ⟨w.heap.size + 1, 3, none⟩ = some (.slice ea6 es6.length ec6) := by rw [cell_of hqe]; rfl
        refine bodyPost_ret (v := .tuple #[.agg #[.int .i64 v6, .slice pa6 ps6.length pc6, .slice la6 ls6.length lc6, .slice ea6 es6.length ec6], .int .i64 (0), .int .i64 (0)]) (by simp [results, Try.results13, go_sem, s0, s1, s2, s3]) rfl ?_
        have hd := HB6.out.done HCK.out (by have := HNL.out; simp only; omega)
        exact RefLatEnd.of_ok (m' := ⟨v6, pa6, ps6, pc6, la6, ls6, lc6, ea6, es6, ec6⟩) hke hd.1 rfl (HH6.out.out (HF6.out.mono (fun i h => .inr h)) hgk) hd.2
  · have fF : (F.1 != 0) = true := by simp [hF0]
    have HF0 := Lib.hid hF0
    clear hF0
    have q0 : w2.cell? ⟨w.heap.size + 1, 0, none⟩ = some (.int .i64 0) := by rw [cell_of HQ2.out]; rfl
    have q1 : w2.cell? ⟨w.heap.size + 1, 1, none⟩ = some (.slice none 0 0) := by rw [cell_of HQ2.out]; rfl
    have q2 : w2.cell? ⟨w.heap.size + 1, 2, none⟩ = some (.slice none 0 0) := by rw [cell_of HQ2.out]; rfl
    have q3 : w2.cell? ⟨w.heap.size + 1, 3, none⟩ = some (.slice none 0 0) := by rw [cell_of HQ2.out]; rfl
    have qf0 : w2.frozen? ⟨w.heap.size + 1, 0, none⟩ = false := frozen_of HQ2.out 0
    have qf1 : w2.frozen? ⟨w.heap.size + 1, 1, none⟩ = false := frozen_of HQ2.out 1
    have qf2 : w2.frozen? ⟨w.heap.size + 1, 2, none⟩ = false := frozen_of HQ2.out 2
    have qf3 : w2.frozen? ⟨w.heap.size + 1, 3, none⟩ = false := frozen_of HQ2.out 3
    go_wp2_with fail
    obtain ⟨we, hwe⟩ : ∃ we, ((((w2.setCell ⟨w.heap.size + 1, 0, none⟩ (.int .i64 0)).setCell ⟨w.heap.size + 1, 1, none⟩ (.slice none 0 0)).setCell ⟨w.heap.size + 1, 2, none⟩ (.slice none 0 0)).setCell ⟨w.heap.size + 1, 3, none⟩ (.slice none 0 0)) = we := ⟨_, rfl⟩
    simp only [hwe]
    have hqe : we.heap[w.heap.size + 1]? = some (.cells #[.int .i64 0, .slice none 0 0, .slice none 0 0, .slice none 0 0] 26 (0, 0)) := by rw [← hwe, heap_set (heap_set (heap_set (heap_set HQ2.out 0 _) 1 _) 2 _) 3 _]; rfl
    have hgk : Kept (fun b => b = w.heap.size + 1) w2 we := by rw [← hwe]; exact ((((Kept.refl (fun b => b = w.heap.size + 1) w2).setCell (.inl rfl) _).setCell (.inl rfl) _).setCell (.inl rfl) _).setCell (.inl rfl) _
    have hke : Kept Nil w we := (HKW2.out).trans hgk (fun i hi => .inr (by omega))
    have s0 : we.cell? ⟨w.heap.size + 1, 0, none⟩ = some (.int .i64 0) := by rw [cell_of hqe]; rfl
    have s1 : we.cell? ⟨w.heap.size + 1, 1, none⟩ = some (.slice none 0 0) := by rw [cell_of hqe]; rfl
    have s2 : we.cell? ⟨w.heap.size + 1, 2, none⟩ = some (.slice none 0 0) := by rw [cell_of hqe]; rfl
    have s3 : we.cell? ⟨w.heap.size + 1, 3, none⟩ = some (.slice none 0 0) := by rw [cell_of hqe]; rfl
    refine bodyPost_ret (v := .tuple #[.agg #[.int .i64 0, .slice none 0 0, .slice none 0 0, .slice none 0 0], .int .i64 (F.1), .int .i64 (F.2)]) (by simp [results, Try.results13, go_sem, s0, s1, s2, s3]) rfl ?_
    exact RefLatEnd.of_bad hke (by unfold latF; rw [if_pos (by rw [HF.out]; exact HF0.out), HF.out]) HF0.out
end Go.Proofs.Ythgbahlkflmgiaa.Mo
end
