/- The walk of the statement UpgradeWays. -/
import Derived.Test.YthgbahlkflmgiaaUpH
import Derived.Deep.RegionHeld3
namespace Go.Proofs.Ythgbahlkflmgiaa.Mo
open Go Go.RowKit Go.Proofs.Ythgbahlkflmgiaa.Lb
set_option linter.unusedVariables false
set_option linter.unusedSimpArgs false
set_option maxRecDepth 8000
theorem ways_cells {w : World} {base n : Nat} {v : Value} {ws : List Md} (h : w.ownsRow base 26 4 v n (ws.flatMap mdCells)) : ∃ A c, v = .slice A ws.length c ∧ n = ws.length ∧ (∀ g off, A = some ⟨g, off, none⟩ → base ≤ g ∧ g < w.heap.size) ∧ RowOf w A 4 mdCells ws := by
  obtain ⟨A, c, e, hn, hr, hb, _, _⟩ := rowOf_own h mdCells_len (by decide)
  refine ⟨A, c, e, hn, fun g off ha => ⟨hb g off ha, ?_⟩, hr⟩
  subst e
  exact (h.lt g (by rw [ha]; rfl)).2
theorem rowOf_at {w : World} {A : Option Addr} {ws : List Md} (h : RowOf w A 4 mdCells ws) {k : Nat} {x : Md} (hk : ws[k]? = some x) : ∃ g off, A = some ⟨g, off, none⟩ ∧ w.cell? ⟨g, off + k * 4, none⟩ = some (.int .i64 x.version) ∧ w.cell? ⟨g, off + k * 4 + 1, none⟩ = some (.slice x.pa x.ps.length x.pc) ∧ w.cell? ⟨g, off + k * 4 + 2, none⟩ = some (.slice x.la x.ls.length x.lc) ∧ w.cell? ⟨g, off + k * 4 + 3, none⟩ = some (.slice x.ea x.es.length x.ec) := by
  rcases h with rfl | ⟨g, off, e, hc⟩
  · simp at hk
  · exact ⟨g, off, e, hc k x hk 0 (by decide), hc k x hk 1 (by decide), hc k x hk 2 (by decide), hc k x hk 3 (by decide)⟩
set_option maxHeartbeats 16000000 in
theorem UpgradeWays_calls (m : Md) (w : World) (hm : RModel w m) (ho : OkM m) :
    Calls Try.prog 6 #[m.val] w fun e w' => e = .returned (.bool true) ∧ Kept Nil w w' := by
  have hfd : ∀ (x y : Int) (w : World), (Instr.field 32 (.agg #[.int .i64 x, .int .i64 y]) 0).run Try.prog w = .ok (.int .i64 x) w := fun _ _ _ => by kernel_rfl
  have HM := Lib.hid hm
  have HO := Lib.hid ho
  obtain ⟨ver, pa, ps, pc, la, ls, lc, ea, es, ec⟩ := m
  clear hm ho
  unfold Md.val
  simp only at *
  obtain ⟨W1, hW⟩ : ∃ W, (w.alloc (.cells #[.int .i64 ver, .slice pa ps.length pc, .slice la ls.length lc, .slice ea es.length ec] 26)) = W := ⟨_, rfl⟩
  have hk : Kept Nil w W1 := by rw [← hW]; exact ((Kept.refl Nil w).alloc _)
  have hsz : W1.heap.size = w.heap.size + 1 := by rw [← hW]; simp
  have hb : W1.heap[w.heap.size]? = some (.cells #[.int .i64 ver, .slice pa ps.length pc, .slice la ls.length lc, .slice ea es.length ec] 26 (0, 0)) := by
    rw [← hW]
    have h9 := heap_new w (.cells #[.int .i64 ver, .slice pa ps.length pc, .slice la ls.length lc, .slice ea es.length ec] 26)
    exact h9
  have G0 := Lib.hid (show W1.cell? ⟨w.heap.size, 0, none⟩ = some (.int .i64 ver) by rw [cell_of hb]; rfl)
  have G1 := Lib.hid (show W1.cell? ⟨w.heap.size, 1, none⟩ = some (.slice pa ps.length pc) by rw [cell_of hb]; rfl)
  have G2 := Lib.hid (show W1.cell? ⟨w.heap.size, 2, none⟩ = some (.slice la ls.length lc) by rw [cell_of hb]; rfl)
  have G3 := Lib.hid (show W1.cell? ⟨w.heap.size, 3, none⟩ = some (.slice ea es.length ec) by rw [cell_of hb]; rfl)
  have GB := Lib.hid hb
  have hzg : w.heap.size < W1.heap.size := by omega
  clear hb
  have HW := Lib.hid hW
  have HK := Lib.hid hk
  have HSZ := Lib.hid hsz
  clear hW hk hsz
  have HM1 := Lib.hid (HM.out.nil HK.out)
  go_enter Try.func6, Try.ntmps6
  go_wp2_with fail
  rw [HW.out]
  refine (alive_is W1).mono ?_
  rintro e w1 ⟨rfl, hk1⟩
  have HK1 := Lib.hid hk1
  have hz1 := hk1.size
  clear hk1
  have g0 := (HK1.out).cell G0.out (fun h => h)
  have g1 := (HK1.out).cell G1.out (fun h => h)
  have g2 := (HK1.out).cell G2.out (fun h => h)
  have g3 := (HK1.out).cell G3.out (fun h => h)
  have hg1 : w.heap.size < w1.heap.size := by omega
  go_wp2_with fail
  refine (Few_h w1 (HM1.out.nil HK1.out)).mono ?_
  rintro e w2 ⟨b, rfl, hbb, hk2⟩
  have HBB := Lib.hid hbb
  have HK2 := Lib.hid (HK1.out.step hk2)
  have hz2 := hk2.size
  have hg2 : w.heap.size < w2.heap.size := by omega
  clear hbb hk2 g0 g1 g2 g3
  have g0 := (HK2.out).cell G0.out (fun h => h)
  have g1 := (HK2.out).cell G1.out (fun h => h)
  have g2 := (HK2.out).cell G2.out (fun h => h)
  have g3 := (HK2.out).cell G3.out (fun h => h)
  cases b with
  | false =>
    go_wp2_with fail
    go_ret
    exact ⟨rfl, HK.out.step HK2.out⟩
  | true =>
    have HF := Lib.hid (HBB.out rfl)
    have HHM := Lib.hid (held_of_few (HM1.out.nil HK2.out) HO.out HF.out)
    have hpl := HF.out.pl
    have hll := HF.out.ll
    have hel := HF.out.el
    simp only at hpl hll hel
    have hcall := Check_h w2 HHM.out
    obtain ⟨F, hF⟩ : ∃ F, mdCheck ⟨ver, pa, ps, pc, la, ls, lc, ea, es, ec⟩ = F := ⟨_, rfl⟩
    rw [hF] at hcall
    have HCK := Lib.hid hF
    clear hF
    go_wp2_with fail
    refine hcall.mono ?_
    clear hcall g0 g1 g2 g3
    rintro e w3 ⟨rfl, hk3⟩
    have HK3 := Lib.hid (HK2.out.step hk3)
    have HH3 := Lib.hid (HHM.out.nil hk3)
    have hz3 := hk3.size
    have hg3 : w.heap.size < w3.heap.size := by omega
    clear hk3
    by_cases hF0 : F.1 = 0
    · have fF : (F.1 != 0) = false := by simp [hF0]
      have HRM := Lib.hid (right_of (show (mdCheck ⟨ver, pa, ps, pc, la, ls, lc, ea, es, ec⟩).1 = 0 by rw [HCK.out]; exact hF0))
      clear hF0
      have g0 := (HK3.out).cell G0.out (fun h => h)
      have g1 := (HK3.out).cell G1.out (fun h => h)
      have g2 := (HK3.out).cell G2.out (fun h => h)
      have g3 := (HK3.out).cell G3.out (fun h => h)
      have hver : 1 ≤ ver ∧ ver ≤ 3 := by have := HRM.out.v; simp only at this; omega
      have HVER := Lib.hid hver
      clear hver
      go_upto_region 5 with fail
      clear fF
      go_wp2_with fail
      clear g0 g1 g2 g3
      go_loopw [24] (fun i wr => ∃ k : Nat, k ≤ ls.length ∧ i = .int .i64 k ∧ (∀ (j : Nat) (l : Lk), j < k → ls[j]? = some l → l.delay ≤ 1073741824) ∧ Kept Nil w3 wr) (fun i _ => ls.length - (intOf i).toNat)
      case atStart => exact ⟨0, Nat.zero_le _, rfl, fun j l h => by omega, Kept.refl _ _⟩
      case round =>
        obtain ⟨k, hk, rfl, hall, hK⟩ := hrel
        have HALL := Lib.hid hall
        have HKR := Lib.hid hK
        have HKL := Lib.hid (HK3.out.step hK)
        have hzr := hK.size
        have hg5 : w.heap.size < wr.heap.size := by omega
        clear hK hall
        by_cases hlt : k < ls.length
        · obtain ⟨l, el⟩ : ∃ l, ls[k]? = some l := ⟨_, List.getElem?_eq_getElem hlt⟩
          obtain ⟨bb, off, e1, c0, c1, c2, c3, c4⟩ := (HM1.out.nil HKL.out).l.at el
          have HEL := Lib.hid el
          simp only at e1
          have hlt2 : (k : Int) < (ls.length : Int) := by omega
          have hw : IntKind.i64.wrap ((k : Int) + 1) = (k : Int) + 1 := by rw [IntKind.wrap_i64]; omega
          have hbs : bb < wr.heap.size := World.block_lt_of_cell? _ _ c0
          clear el
          subst e1
          by_cases hdl : 1073741824 < l.delay
          · have b1 : decide (1073741824 < l.delay) = true := decide_eq_true hdl
            clear hdl
            go_wp2_with fail
            go_ret
            exact ⟨rfl, HK.out.step (HKL.out.alloc _)⟩
          · have b1 : decide (1073741824 < l.delay) = false := decide_eq_false hdl
            have HDL := Lib.hid (show l.delay ≤ 1073741824 by omega)
            clear hdl
            go_wp2_with fail
            go_round
            refine ⟨k + 1, by omega, by go_num, fun j u hj hu => ?_, HKR.out.alloc _⟩
            · by_cases e : j = k
              · rw [e, HEL.out] at hu; cases hu; exact HDL.out
              · exact HALL.out j u (by omega) hu
            case measure => (simp [intOf] <;> omega)
        · have hkl : k = ls.length := by omega
          subst hkl
          obtain ⟨wl, h⟩ : ∃ x, x = wr := ⟨_, rfl⟩
          subst h
          have hfull := waysL_full HRM.out (over_small HALL.out)
          have HFULL := Lib.hid hfull
          clear hfull
          have HH4 := Lib.hid (HH3.out.nil HKR.out)
          have g0 := (HKL.out).cell G0.out (fun h => h)
          have g1 := (HKL.out).cell G1.out (fun h => h)
          have g2 := (HKL.out).cell G2.out (fun h => h)
          have g3 := (HKL.out).cell G3.out (fun h => h)
          have hways := ways_is ver ps ls es pa la ea pc lc ec 9 wl HH4.out
          go_wp2_with fail
          refine hways.mono ?_
          clear hways g0 g1 g2 g3
          rintro e w4 hE
          have HK4 := Lib.hid (HKL.out.step hE.k)
          have HK44 := Lib.hid hE.k
          have hz4 := hE.k.size
          obtain ⟨ws, v4, e4, ho4, hs4, hw4, hl4⟩ := hE.ok
          subst e4
          have hs5 : SameMs (waysL ⟨ver, pa, ps, pc, la, ls, lc, ea, es, ec⟩) ws := by
            have h9 := hs4
            rw [List.take_of_length_le (by have := waysL_len ⟨ver, pa, ps, pc, la, ls, lc, ea, es, ec⟩; simp only [Int.reduceToNat]; omega)] at h9
            exact h9
          obtain ⟨A4, c4, rfl, -, hA4, hrow4⟩ := ways_cells ho4
          have hn4 : (ws.length : Int) = 4 - ver := by rw [← hs5.l]; exact HFULL.out.1
          have HS5 := Lib.hid hs5
          have HW4 := Lib.hid hw4
          have HA4 := Lib.hid hA4
          have HROW := Lib.hid hrow4
          have HN4 := Lib.hid hn4
          clear hE ho4 hs4 hw4 hl4 hs5 hA4 hrow4 hn4
          have hg4 : w.heap.size < w4.heap.size := by omega
          have HHM4 := Lib.hid (HH4.out.nil HK44.out)
          have g0 := (HK4.out).cell G0.out (fun h => h)
          have g1 := (HK4.out).cell G1.out (fun h => h)
          have g2 := (HK4.out).cell G2.out (fun h => h)
          have g3 := (HK4.out).cell G3.out (fun h => h)
          have hlat := Latest_is ver ps ls es pa la ea pc lc ec w4 HHM4.out
          go_wp2_with fail
          refine hlat.mono ?_
          clear hlat g0 g1 g2 g3
          rintro e w5 hE
          have HK55 := Lib.hid hE.k
          have hz5 := hE.k.size
          obtain ⟨⟨ver6, pa6, ps6, pc6, la6, ls6, lc6, ea6, es6, ec6⟩, e6, hh6, hs6, hf6, hv6, hr6⟩ := hE.ok (by rw [HFULL.out.2.1])
          subst e6
          have HH6 := Lib.hid hh6
          have HS6 := Lib.hid hs6
          clear hE hh6 hs6 hf6 hv6 hr6
          obtain ⟨W6, hW⟩ : ∃ W, ((w5.alloc (.cells #[.int .i64 ver6, .slice pa6 ps6.length pc6, .slice la6 ls6.length lc6, .slice ea6 es6.length ec6] 26)).alloc (.cells #[.int .i64 0, .int .i64 0] 32)) = W := ⟨_, rfl⟩
          have hk : Kept Nil w5 W6 := by rw [← hW]; exact (((Kept.refl Nil w5).alloc _).alloc _)
          have hsz : W6.heap.size = w5.heap.size + 2 := by rw [← hW]; simp
          have hb : W6.heap[w5.heap.size]? = some (.cells #[.int .i64 ver6, .slice pa6 ps6.length pc6, .slice la6 ls6.length lc6, .slice ea6 es6.length ec6] 26 (0, 0)) := by
            rw [← hW]
            rw [heap_old _ _ (by simp only [World.size_alloc]; omega)]
            have h9 := heap_new w5 (.cells #[.int .i64 ver6, .slice pa6 ps6.length pc6, .slice la6 ls6.length lc6, .slice ea6 es6.length ec6] 26)
            exact h9
          have B0 := Lib.hid (show W6.cell? ⟨w5.heap.size, 0, none⟩ = some (.int .i64 ver6) by rw [cell_of hb]; rfl)
          have B1 := Lib.hid (show W6.cell? ⟨w5.heap.size, 1, none⟩ = some (.slice pa6 ps6.length pc6) by rw [cell_of hb]; rfl)
          have B2 := Lib.hid (show W6.cell? ⟨w5.heap.size, 2, none⟩ = some (.slice la6 ls6.length lc6) by rw [cell_of hb]; rfl)
          have B3 := Lib.hid (show W6.cell? ⟨w5.heap.size, 3, none⟩ = some (.slice ea6 es6.length ec6) by rw [cell_of hb]; rfl)
          have BB := Lib.hid hb
          have hzb : w5.heap.size < W6.heap.size := by omega
          clear hb
          have hb : W6.heap[w5.heap.size + 1]? = some (.cells #[.int .i64 0, .int .i64 0] 32 (0, 0)) := by
            rw [← hW]
            have h9 := heap_new (w5.alloc (.cells #[.int .i64 ver6, .slice pa6 ps6.length pc6, .slice la6 ls6.length lc6, .slice ea6 es6.length ec6] 26)) (.cells #[.int .i64 0, .int .i64 0] 32)
            simp only [World.size_alloc] at h9
            exact h9
          have F0 := Lib.hid (show W6.cell? ⟨w5.heap.size + 1, 0, none⟩ = some (.int .i64 0) by rw [cell_of hb]; rfl)
          have F1 := Lib.hid (show W6.cell? ⟨w5.heap.size + 1, 1, none⟩ = some (.int .i64 0) by rw [cell_of hb]; rfl)
          have FB := Lib.hid hb
          have hzf : w5.heap.size + 1 < W6.heap.size := by omega
          clear hb
          have HW6 := Lib.hid hW
          have HK6 := Lib.hid hk
          have HSZ6 := Lib.hid hsz
          clear hW hk hsz
          have hz6 : w5.heap.size + 1 < W6.heap.size := by have := HSZ6.out; omega
          go_upto_region 13 with fail
          rw [HW6.out]
          have HK46 := Lib.hid (show Kept Nil w4 W6 from HK55.out.step HK6.out)
          have HKA := Lib.hid (HK4.out.step HK46.out)
          have hgA : w.heap.size < W6.heap.size := by omega
          have f0 := F0.out
          have g0 := (HKA.out).cell G0.out (fun h => h)
          have g1 := (HKA.out).cell G1.out (fun h => h)
          have g2 := (HKA.out).cell G2.out (fun h => h)
          have g3 := (HKA.out).cell G3.out (fun h => h)
          obtain ⟨n, hn⟩ : ∃ n, ws.length = n := ⟨_, rfl⟩
          rw [hn]
          have HN := Lib.hid hn
          have hnv : (n : Int) = 4 - ver := by rw [← hn]; exact HN4.out
          have hwv : IntKind.i64.wrap (4 - ver) = (n : Int) := by rw [IntKind.wrap_i64]; have := HVER.out; omega
          have HNV := Lib.hid hnv
          clear hn hnv
          go_upto_region 15 with fail
          go_wp2_with fail
          clear f0 hwv g0 g1 g2 g3
          go_loopw [52] (fun i wr => ∃ k : Nat, k ≤ n ∧ i = .int .i64 k ∧ Kept Nil W6 wr) (fun i _ => n - (intOf i).toNat)
          case atStart => exact ⟨0, Nat.zero_le _, rfl, Kept.refl _ _⟩
          case round =>
            obtain ⟨k, hk, rfl, hK⟩ := hrel
            have HKS := Lib.hid hK
            have HKB := Lib.hid (HKA.out.step hK)
            have HK4B := Lib.hid (HK46.out.step hK)
            have hzs := hK.size
            have hg7 : w.heap.size < wr.heap.size := by omega
            clear hK
            have g0 := (HKB.out).cell G0.out (fun h => h)
            have g1 := (HKB.out).cell G1.out (fun h => h)
            have g2 := (HKB.out).cell G2.out (fun h => h)
            have g3 := (HKB.out).cell G3.out (fun h => h)
            by_cases hlt : k < n
            · obtain ⟨x, ex⟩ : ∃ x, ws[k]? = some x := ⟨_, List.getElem?_eq_getElem (by rw [HN.out]; exact hlt)⟩
              obtain ⟨y, ey, hxy⟩ := HS5.out.get ex
              have hst := waysL_step HRM.out ey
              have hxv : x.version = ver + (k : Int) := by rw [← hxy.v]; exact hst.v
              have hxr : MdRight x := hst.r.same hxy
              have hxh := ((HW4.out x (List.mem_of_getElem? ex)).1).nil HK4B.out
              obtain ⟨g, off, e1, c0, c1, c2, c3⟩ := rowOf_at (rowOf_nil mdCells_len HK4B.out HROW.out) ex
              obtain ⟨ver8, pa8, ps8, pc8, la8, ls8, lc8, ea8, es8, ec8⟩ := x
              simp only at hxv c0 c1 c2 c3
              subst hxv
              have HXR := Lib.hid hxr
              have HXH := Lib.hid hxh
              have hlt2 : (k : Int) < (n : Int) := by omega
              have hw : IntKind.i64.wrap ((k : Int) + 1) = (k : Int) + 1 := by rw [IntKind.wrap_i64]; have := HNV.out; have := HVER.out; omega
              have hwx : IntKind.i64.wrap (ver + (k : Int)) = ver + (k : Int) := by rw [IntKind.wrap_i64]; have := HNV.out; have := HVER.out; omega
              have hgs : g < wr.heap.size := World.block_lt_of_cell? _ _ c0
              clear ex ey hxy hst hxr hxh
              subst e1
              obtain ⟨W8, hW⟩ : ∃ W, (wr.alloc (.cells #[.int .i64 (ver + (k : Int)), .slice pa8 ps8.length pc8, .slice la8 ls8.length lc8, .slice ea8 es8.length ec8] 26)) = W := ⟨_, rfl⟩
              have hk : Kept Nil wr W8 := by rw [← hW]; exact ((Kept.refl Nil wr).alloc _)
              have hsz : W8.heap.size = wr.heap.size + 1 := by rw [← hW]; simp
              have hb : W8.heap[wr.heap.size]? = some (.cells #[.int .i64 (ver + (k : Int)), .slice pa8 ps8.length pc8, .slice la8 ls8.length lc8, .slice ea8 es8.length ec8] 26 (0, 0)) := by
                rw [← hW]
                have h9 := heap_new wr (.cells #[.int .i64 (ver + (k : Int)), .slice pa8 ps8.length pc8, .slice la8 ls8.length lc8, .slice ea8 es8.length ec8] 26)
                exact h9
              have X0 := Lib.hid (show W8.cell? ⟨wr.heap.size, 0, none⟩ = some (.int .i64 (ver + (k : Int))) by rw [cell_of hb]; rfl)
              have X1 := Lib.hid (show W8.cell? ⟨wr.heap.size, 1, none⟩ = some (.slice pa8 ps8.length pc8) by rw [cell_of hb]; rfl)
              have X2 := Lib.hid (show W8.cell? ⟨wr.heap.size, 2, none⟩ = some (.slice la8 ls8.length lc8) by rw [cell_of hb]; rfl)
              have X3 := Lib.hid (show W8.cell? ⟨wr.heap.size, 3, none⟩ = some (.slice ea8 es8.length ec8) by rw [cell_of hb]; rfl)
              have XB := Lib.hid hb
              have hzx : wr.heap.size < W8.heap.size := by omega
              clear hb
              have HW8 := Lib.hid hW
              have HK8 := Lib.hid hk
              have HSZ8 := Lib.hid hsz
              clear hW hk hsz
              have hz8 : wr.heap.size < W8.heap.size := by have := HSZ8.out; omega
              go_upto_region 18 with fail
              rw [HW8.out]
              clear c0 c1 c2 c3 g0 g1 g2 g3
              have x0 := X0.out
              have x1 := X1.out
              have x2 := X2.out
              have x3 := X3.out
              have g0 := ((HKB.out.step HK8.out)).cell G0.out (fun h => h)
              have g1 := ((HKB.out.step HK8.out)).cell G1.out (fun h => h)
              have g2 := ((HKB.out.step HK8.out)).cell G2.out (fun h => h)
              have g3 := ((HKB.out.step HK8.out)).cell G3.out (fun h => h)
              have hg9 : w.heap.size < W8.heap.size := by omega
              have hck := Check_h W8 (HXH.out.nil HK8.out)
              rw [HXR.out.ok] at hck
              go_wp2_with (go_at_call 17; with_reducible refine hck.mono ?_; rintro e w9 ⟨rfl, hk9⟩; have HK9 := Lib.hid hk9; clear hk9 hck)
              go_round
              exact ⟨k + 1, by omega, by go_num, (HKS.out.step HK8.out).step HK9.out⟩
              case measure => (simp [intOf] <;> omega)
            · have hkl : k = n := by omega
              subst hkl
              obtain ⟨q, hq⟩ : ∃ q, k = q + 1 := ⟨k - 1, by have := HNV.out; have := HVER.out; omega⟩
              subst hq
              clear hlt g0 g1 g2 g3
              have hlast := HFULL.out.2.2
              rw [HS5.out.l, HN.out] at hlast
              simp only [Nat.add_sub_cancel] at hlast
              obtain ⟨x, ex⟩ : ∃ x, ws[q]? = some x := ⟨_, List.getElem?_eq_getElem (by rw [HN.out]; omega)⟩
              have hxl : SameM (latM ⟨ver, pa, ps, pc, la, ls, lc, ea, es, ec⟩) x := HS5.out.p q _ _ hlast ex
              have hxh := ((HW4.out x (List.mem_of_getElem? ex)).1).nil HK4B.out
              obtain ⟨g, off, e1, c0, c1, c2, c3⟩ := rowOf_at (rowOf_nil mdCells_len HK4B.out HROW.out) ex
              obtain ⟨y, ey⟩ : ∃ y, ws[0]? = some y := ⟨_, List.getElem?_eq_getElem (by rw [HN.out]; omega)⟩
              have hyl : SameM ⟨ver, pa, ps, pc, la, ls, lc, ea, es, ec⟩ y := HS5.out.p 0 _ _ (waysL_head HRM.out) ey
              have hyh := ((HW4.out y (List.mem_of_getElem? ey)).1).nil HK4B.out
              obtain ⟨g2, off2, e2, d0, d1, d2, d3⟩ := rowOf_at (rowOf_nil mdCells_len HK4B.out HROW.out) ey
              obtain ⟨ver8, pa8, ps8, pc8, la8, ls8, lc8, ea8, es8, ec8⟩ := x
              obtain ⟨ver9, pa9, ps9, pc9, la9, ls9, lc9, ea9, es9, ec9⟩ := y
              simp only [Nat.zero_mul, Nat.add_zero] at c0 c1 c2 c3 d0 d1 d2 d3 e1 e2
              rw [e1] at e2
              simp only [Option.some.injEq, Addr.mk.injEq, and_true] at e2
              obtain ⟨e2a, e2b⟩ := e2
              rw [← e2a, ← e2b] at d0 d1 d2 d3
              clear e2a e2b
              have HXH := Lib.hid hxh
              have HYH := Lib.hid hyh
              have HSX := Lib.hid (hxl.symm.trans HS6.out)
              have HSY := Lib.hid hyl.symm
              have HBR := Lib.hid ((HH6.out.nil (HK6.out.step HKS.out)))
              have HMR := Lib.hid (HHM4.out.nil HK4B.out)
              clear hlast ex ey hxl hxh hyl hyh
              subst e1
              have hwq : IntKind.i64.wrap (q : Int) = (q : Int) := by rw [IntKind.wrap_i64]; have := HNV.out; have := HVER.out; omega
              have hwq2 : IntKind.i64.wrap ((q : Int) + 1 - 1) = (q : Int) := by rw [IntKind.wrap_i64]; have := HNV.out; have := HVER.out; omega
              have hwq3 : IntKind.i64.wrap (((q + 1 : Nat) : Int) - 1) = (q : Int) := by rw [IntKind.wrap_i64]; have := HNV.out; have := HVER.out; omega
              have hi1 : (q : Int) < (q : Int) + 1 := by omega
              have hi2 : (0 : Int) ≤ (q : Int) := by omega
              have hi3 : (0 : Int) < (q : Int) + 1 := by omega
              have hgs : g < wr.heap.size := World.block_lt_of_cell? _ _ c0
              have hb7 : w5.heap.size < wr.heap.size := by omega
              go_upto_region 21 with fail
              have C9_0 := Lib.hid (show wr.cell? ⟨g, off + q * 4, none⟩ = some (.int .i64 ver8) from c0)
              have C9_1 := Lib.hid (show wr.cell? ⟨g, off + q * 4 + 1, none⟩ = some (.slice pa8 ps8.length pc8) from c1)
              have C9_2 := Lib.hid (show wr.cell? ⟨g, off + q * 4 + 2, none⟩ = some (.slice la8 ls8.length lc8) from c2)
              have C9_3 := Lib.hid (show wr.cell? ⟨g, off + q * 4 + 3, none⟩ = some (.slice ea8 es8.length ec8) from c3)
              have C9_4 := Lib.hid (show wr.cell? ⟨g, off, none⟩ = some (.int .i64 ver9) from d0)
              have C9_5 := Lib.hid (show wr.cell? ⟨g, off + 1, none⟩ = some (.slice pa9 ps9.length pc9) from d1)
              have C9_6 := Lib.hid (show wr.cell? ⟨g, off + 2, none⟩ = some (.slice la9 ls9.length lc9) from d2)
              have C9_7 := Lib.hid (show wr.cell? ⟨g, off + 3, none⟩ = some (.slice ea9 es9.length ec9) from d3)
              have C9_8 := Lib.hid (show wr.cell? ⟨w5.heap.size, 0, none⟩ = some (.int .i64 ver6) from HKS.out.cell B0.out (fun h => h))
              have C9_9 := Lib.hid (show wr.cell? ⟨w5.heap.size, 1, none⟩ = some (.slice pa6 ps6.length pc6) from HKS.out.cell B1.out (fun h => h))
              have C9_10 := Lib.hid (show wr.cell? ⟨w5.heap.size, 2, none⟩ = some (.slice la6 ls6.length lc6) from HKS.out.cell B2.out (fun h => h))
              have C9_11 := Lib.hid (show wr.cell? ⟨w5.heap.size, 3, none⟩ = some (.slice ea6 es6.length ec6) from HKS.out.cell B3.out (fun h => h))
              have C9_12 := Lib.hid (show wr.cell? ⟨w.heap.size, 0, none⟩ = some (.int .i64 ver) from HKB.out.cell G0.out (fun h => h))
              have C9_13 := Lib.hid (show wr.cell? ⟨w.heap.size, 1, none⟩ = some (.slice pa ps.length pc) from HKB.out.cell G1.out (fun h => h))
              have C9_14 := Lib.hid (show wr.cell? ⟨w.heap.size, 2, none⟩ = some (.slice la ls.length lc) from HKB.out.cell G2.out (fun h => h))
              have C9_15 := Lib.hid (show wr.cell? ⟨w.heap.size, 3, none⟩ = some (.slice ea es.length ec) from HKB.out.cell G3.out (fun h => h))
              have c9_0 := C9_0.out
              have c9_1 := C9_1.out
              have c9_2 := C9_2.out
              have c9_3 := C9_3.out
              have c9_4 := C9_4.out
              have c9_5 := C9_5.out
              have c9_6 := C9_6.out
              have c9_7 := C9_7.out
              have c9_8 := C9_8.out
              have c9_9 := C9_9.out
              have c9_10 := C9_10.out
              have c9_11 := C9_11.out
              have c9_12 := C9_12.out
              have c9_13 := C9_13.out
              have c9_14 := C9_14.out
              have c9_15 := C9_15.out
              try (go_region_held3 (fun w' => w'.cell? ⟨g, off + q * 4, none⟩ = some (.int .i64 ver8) ∧ w'.cell? ⟨g, off + q * 4 + 1, none⟩ = some (.slice pa8 ps8.length pc8) ∧ w'.cell? ⟨g, off + q * 4 + 2, none⟩ = some (.slice la8 ls8.length lc8) ∧ w'.cell? ⟨g, off + q * 4 + 3, none⟩ = some (.slice ea8 es8.length ec8) ∧ w'.cell? ⟨g, off, none⟩ = some (.int .i64 ver9) ∧ w'.cell? ⟨g, off + 1, none⟩ = some (.slice pa9 ps9.length pc9) ∧ w'.cell? ⟨g, off + 2, none⟩ = some (.slice la9 ls9.length lc9) ∧ w'.cell? ⟨g, off + 3, none⟩ = some (.slice ea9 es9.length ec9) ∧ w'.cell? ⟨w5.heap.size, 0, none⟩ = some (.int .i64 ver6) ∧ w'.cell? ⟨w5.heap.size, 1, none⟩ = some (.slice pa6 ps6.length pc6) ∧ w'.cell? ⟨w5.heap.size, 2, none⟩ = some (.slice la6 ls6.length lc6) ∧ w'.cell? ⟨w5.heap.size, 3, none⟩ = some (.slice ea6 es6.length ec6) ∧ w'.cell? ⟨w.heap.size, 0, none⟩ = some (.int .i64 ver) ∧ w'.cell? ⟨w.heap.size, 1, none⟩ = some (.slice pa ps.length pc) ∧ w'.cell? ⟨w.heap.size, 2, none⟩ = some (.slice la ls.length lc) ∧ w'.cell? ⟨w.heap.size, 3, none⟩ = some (.slice ea es.length ec)) (go_keep) (first
                | (go_at_call 14
                   with_reducible refine (Same_h _ ?_ ?_ HSX.out).mono ?_
                   · exact HXH.out.nil (by repeat (first | exact Kept.refl _ _ | assumption | refine Kept.drew ?_ | refine Kept.drewN ?_ _ | refine Kept.alloc ?_ _ | refine Kept.step ?_ (by assumption)))
                   · exact HBR.out.nil (by repeat (first | exact Kept.refl _ _ | assumption | refine Kept.drew ?_ | refine Kept.drewN ?_ _ | refine Kept.alloc ?_ _ | refine Kept.step ?_ (by assumption)))
                   rintro e w71 ⟨rfl, hk71⟩
                   have hz : Kept Nil wr w71 := (by repeat (first | exact Kept.refl _ _ | assumption | refine Kept.drew ?_ | refine Kept.drewN ?_ _ | refine Kept.alloc ?_ _ | refine Kept.step ?_ (by assumption)))
                   have w71_0 := hz.cell C9_0.out (fun h => h)
                   have w71_1 := hz.cell C9_1.out (fun h => h)
                   have w71_2 := hz.cell C9_2.out (fun h => h)
                   have w71_3 := hz.cell C9_3.out (fun h => h)
                   have w71_4 := hz.cell C9_4.out (fun h => h)
                   have w71_5 := hz.cell C9_5.out (fun h => h)
                   have w71_6 := hz.cell C9_6.out (fun h => h)
                   have w71_7 := hz.cell C9_7.out (fun h => h)
                   have w71_8 := hz.cell C9_8.out (fun h => h)
                   have w71_9 := hz.cell C9_9.out (fun h => h)
                   have w71_10 := hz.cell C9_10.out (fun h => h)
                   have w71_11 := hz.cell C9_11.out (fun h => h)
                   have w71_12 := hz.cell C9_12.out (fun h => h)
                   have w71_13 := hz.cell C9_13.out (fun h => h)
                   have w71_14 := hz.cell C9_14.out (fun h => h)
                   have w71_15 := hz.cell C9_15.out (fun h => h)
                   clear hz)
                | (go_at_call 14
                   with_reducible refine (Same_h _ ?_ ?_ HSY.out).mono ?_
                   · exact HYH.out.nil (by repeat (first | exact Kept.refl _ _ | assumption | refine Kept.drew ?_ | refine Kept.drewN ?_ _ | refine Kept.alloc ?_ _ | refine Kept.step ?_ (by assumption)))
                   · exact HMR.out.nil (by repeat (first | exact Kept.refl _ _ | assumption | refine Kept.drew ?_ | refine Kept.drewN ?_ _ | refine Kept.alloc ?_ _ | refine Kept.step ?_ (by assumption)))
                   rintro e w72 ⟨rfl, hk72⟩
                   have hz : Kept Nil wr w72 := (by repeat (first | exact Kept.refl _ _ | assumption | refine Kept.drew ?_ | refine Kept.drewN ?_ _ | refine Kept.alloc ?_ _ | refine Kept.step ?_ (by assumption)))
                   have w72_0 := hz.cell C9_0.out (fun h => h)
                   have w72_1 := hz.cell C9_1.out (fun h => h)
                   have w72_2 := hz.cell C9_2.out (fun h => h)
                   have w72_3 := hz.cell C9_3.out (fun h => h)
                   have w72_4 := hz.cell C9_4.out (fun h => h)
                   have w72_5 := hz.cell C9_5.out (fun h => h)
                   have w72_6 := hz.cell C9_6.out (fun h => h)
                   have w72_7 := hz.cell C9_7.out (fun h => h)
                   have w72_8 := hz.cell C9_8.out (fun h => h)
                   have w72_9 := hz.cell C9_9.out (fun h => h)
                   have w72_10 := hz.cell C9_10.out (fun h => h)
                   have w72_11 := hz.cell C9_11.out (fun h => h)
                   have w72_12 := hz.cell C9_12.out (fun h => h)
                   have w72_13 := hz.cell C9_13.out (fun h => h)
                   have w72_14 := hz.cell C9_14.out (fun h => h)
                   have w72_15 := hz.cell C9_15.out (fun h => h)
                   clear hz)
                ))
              all_goals (try go_wp2_with fail)
              all_goals (go_ret; exact ⟨rfl, HK.out.step (HKB.out.step (by repeat (first | exact Kept.refl _ _ | assumption | refine Kept.drew ?_ | refine Kept.drewN ?_ _ | refine Kept.alloc ?_ _ | refine Kept.step ?_ (by assumption))))⟩)
    · have fF : (F.1 != 0) = true := by simp [hF0]
      clear hF0
      go_wp2_with fail
      go_ret
      exact ⟨rfl, HK.out.step HK3.out⟩
theorem UpgradeWays_row (m : Md) (w : World) (hm : RModel w m) (ho : OkM m) :
    Calls Try.prog 6 #[m.val] w fun e w' => e = .returned (.bool true) ∧ RowKit.Below w.heap.size w w' :=
  (UpgradeWays_calls m w hm ho).mono fun e w' ⟨h1, h2⟩ => ⟨h1, h2.toBelow⟩
end Go.Proofs.Ythgbahlkflmgiaa.Mo
