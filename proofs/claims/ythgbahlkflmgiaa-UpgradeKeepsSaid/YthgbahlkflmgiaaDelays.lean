/- The walk of upgrade.delays. -/
import Derived.Test.YthgbahlkflmgiaaClone
import Derived.Test.YthgbahlkflmgiaaScMul
import Derived.Deep.Cut
import Derived.Deep.CutRange
namespace Go.Proofs.Ythgbahlkflmgiaa.Mo
open Go Go.RowKit Go.Proofs.Ythgbahlkflmgiaa.Lb
set_option linter.unusedVariables false
set_option linter.unusedSimpArgs false
set_option maxRecDepth 8000
/-- A link with a delay that is a thousand times as much. -/
def dlL (l : Lk) : Lk := { l with delay := l.delay * 1000 }
def overB (l : Lk) : Bool := decide (1099511627 < l.delay)
def part (ls : List Lk) (k : Nat) : List Lk := (ls.take k).map dlL ++ ls.drop k
theorem part_zero (ls : List Lk) : part ls 0 = ls := by simp [part]
theorem part_all (ls : List Lk) : part ls ls.length = ls.map dlL := by simp [part]
theorem part_len (ls : List Lk) (k : Nat) (h : k ≤ ls.length) : (part ls k).length = ls.length := by simp [part]; omega
theorem part_get (ls : List Lk) {k : Nat} {l : Lk} (h : ls[k]? = some l) : (part ls k)[k]? = some l := by
  have hk := (List.getElem?_eq_some_iff.1 h).1
  unfold part
  rw [List.getElem?_append_right (by simp; omega)]
  simp only [List.length_map, List.length_take, List.getElem?_drop]
  rw [show k + (k - min k ls.length) = k by omega]
  exact h
theorem part_next (ls : List Lk) {k : Nat} {l : Lk} (h : ls[k]? = some l) : (part ls k).set k (dlL l) = part ls (k + 1) := by
  have hk := (List.getElem?_eq_some_iff.1 h).1
  apply List.ext_getElem?
  intro j
  unfold part
  rw [List.getElem?_set]
  by_cases e : k = j
  · subst e
    rw [if_pos rfl, if_pos (by simp; omega), List.getElem?_append_left (by simp; omega)]
    simp [List.getElem?_take, h]
  · rw [if_neg e]
    by_cases hj : j < k
    · rw [List.getElem?_append_left (by simp; omega), List.getElem?_append_left (by simp; omega)]
      simp [List.getElem?_take, hj, show j < k + 1 by omega]
    · rw [List.getElem?_append_right (by simp; omega), List.getElem?_append_right (by simp; omega)]
      simp only [List.length_map, List.length_take, List.getElem?_drop]
      congr 1
      omega
structure DelaysEnd (ver : Int) (np : Nat) (ls : List Lk) (ne : Nat) (pa ea : Option Addr) (pc ec : Nat) (w : World) (e : Ending) (w' : World) : Prop where
  k : Kept Nil w w'
  ok : (∀ l ∈ ls, overB l = false) → ∃ A cap, e = .returned (.tuple #[.agg #[.int .i64 ver, .slice pa np pc, .slice A ls.length cap, .slice ea ne ec], .agg #[.int .i64 0, .int .i64 0]]) ∧ RLinks w' A (ls.map dlL) ∧ (A = none → cap = 0) ∧ ls.length ≤ cap ∧ ∀ g off, ls ≠ [] → A = some ⟨g, off, none⟩ → w.heap.size ≤ g
  bad : ∀ (i : Nat) (l : Lk), ls[i]? = some l → overB l = true → (∀ (j : Nat) (u : Lk), j < i → ls[j]? = some u → overB u = false) → e = .returned (.tuple #[.agg #[.int .i64 0, .slice none 0 0, .slice none 0 0, .slice none 0 0], .agg #[.int .i64 30, .int .i64 ((np : Int) + (i : Int) + 1)]])
set_option maxHeartbeats 16000000 in
theorem delays_is (ver : Int) (ps : List Pr) (ls : List Lk) (es : List Ev) (pa la ea : Option Addr) (pc lc ec : Nat) (w : World) (hr : RLinks w la ls) (hn : la = none → lc = 0) (hl : ls.length ≤ 100000) (hpl : ps.length ≤ 100000) (hd : ∀ l ∈ ls, 1 ≤ l.delay ∧ l.delay ≤ 1099511627776) :
    Calls Try.prog 21 #[.agg #[.int .i64 ver, .slice pa ps.length pc, .slice la ls.length lc, .slice ea es.length ec]] w fun e w' => DelaysEnd ver ps.length ls es.length pa ea pc ec w e w' := by
  have HR := Lib.hid hr
  have HN := Lib.hid hn
  have HD := Lib.hid hd
  clear hr hn hd
  obtain ⟨W1, hW⟩ : ∃ W, (((w.alloc (.cells #[.int .i64 ver, .slice pa ps.length pc, .slice la ls.length lc, .slice ea es.length ec] 26)).alloc (.cells #[.int .i64 0, .slice none 0 0, .slice none 0 0, .slice none 0 0] 26)).alloc (.cells #[.int .i64 0, .int .i64 0] 32)) = W := ⟨_, rfl⟩
  have hk : Kept Nil w W1 := by rw [← hW]; exact ((((Kept.refl Nil w).alloc _).alloc _).alloc _)
  have hsz : W1.heap.size = w.heap.size + 3 := by rw [← hW]; simp
  have hb : W1.heap[w.heap.size]? = some (.cells #[.int .i64 ver, .slice pa ps.length pc, .slice la ls.length lc, .slice ea es.length ec] 26 (0, 0)) := by
    rw [← hW]
    rw [heap_old _ _ (by simp only [World.size_alloc]; omega)]
    rw [heap_old _ _ (by simp only [World.size_alloc]; omega)]
    have h9 := heap_new w (.cells #[.int .i64 ver, .slice pa ps.length pc, .slice la ls.length lc, .slice ea es.length ec] 26)
    exact h9
  have G0 := Lib.hid (show W1.cell? ⟨w.heap.size, 0, none⟩ = some (.int .i64 ver) by rw [cell_of hb]; rfl)
  have G1 := Lib.hid (show W1.cell? ⟨w.heap.size, 1, none⟩ = some (.slice pa ps.length pc) by rw [cell_of hb]; rfl)
  have G2 := Lib.hid (show W1.cell? ⟨w.heap.size, 2, none⟩ = some (.slice la ls.length lc) by rw [cell_of hb]; rfl)
  have G3 := Lib.hid (show W1.cell? ⟨w.heap.size, 3, none⟩ = some (.slice ea es.length ec) by rw [cell_of hb]; rfl)
  have GB := Lib.hid hb
  have hzg : w.heap.size < W1.heap.size := by omega
  clear hb
  have hb : W1.heap[w.heap.size + 1]? = some (.cells #[.int .i64 0, .slice none 0 0, .slice none 0 0, .slice none 0 0] 26 (0, 0)) := by
    rw [← hW]
    rw [heap_old _ _ (by simp only [World.size_alloc]; omega)]
    have h9 := heap_new (w.alloc (.cells #[.int .i64 ver, .slice pa ps.length pc, .slice la ls.length lc, .slice ea es.length ec] 26)) (.cells #[.int .i64 0, .slice none 0 0, .slice none 0 0, .slice none 0 0] 26)
    simp only [World.size_alloc] at h9
    exact h9
  have Q0 := Lib.hid (show W1.cell? ⟨w.heap.size + 1, 0, none⟩ = some (.int .i64 0) by rw [cell_of hb]; rfl)
  have Q1 := Lib.hid (show W1.cell? ⟨w.heap.size + 1, 1, none⟩ = some (.slice none 0 0) by rw [cell_of hb]; rfl)
  have Q2 := Lib.hid (show W1.cell? ⟨w.heap.size + 1, 2, none⟩ = some (.slice none 0 0) by rw [cell_of hb]; rfl)
  have Q3 := Lib.hid (show W1.cell? ⟨w.heap.size + 1, 3, none⟩ = some (.slice none 0 0) by rw [cell_of hb]; rfl)
  have QB := Lib.hid hb
  have hzq : w.heap.size + 1 < W1.heap.size := by omega
  clear hb
  have hb : W1.heap[w.heap.size + 1 + 1]? = some (.cells #[.int .i64 0, .int .i64 0] 32 (0, 0)) := by
    rw [← hW]
    have h9 := heap_new ((w.alloc (.cells #[.int .i64 ver, .slice pa ps.length pc, .slice la ls.length lc, .slice ea es.length ec] 26)).alloc (.cells #[.int .i64 0, .slice none 0 0, .slice none 0 0, .slice none 0 0] 26)) (.cells #[.int .i64 0, .int .i64 0] 32)
    simp only [World.size_alloc] at h9
    exact h9
  have Z0 := Lib.hid (show W1.cell? ⟨w.heap.size + 1 + 1, 0, none⟩ = some (.int .i64 0) by rw [cell_of hb]; rfl)
  have Z1 := Lib.hid (show W1.cell? ⟨w.heap.size + 1 + 1, 1, none⟩ = some (.int .i64 0) by rw [cell_of hb]; rfl)
  have ZB := Lib.hid hb
  have hzz : w.heap.size + 1 + 1 < W1.heap.size := by omega
  clear hb
  have HW := Lib.hid hW
  have HK := Lib.hid hk
  have HSZ := Lib.hid hsz
  clear hW hk hsz
  go_enter Try.func21, Try.ntmps21
  go_wp2_with fail
  rw [HW.out]
  have g0 := ((Kept.refl Nil W1)).cell G0.out (fun h => h)
  have g1 := ((Kept.refl Nil W1)).cell G1.out (fun h => h)
  have g2 := ((Kept.refl Nil W1)).cell G2.out (fun h => h)
  have g3 := ((Kept.refl Nil W1)).cell G3.out (fun h => h)
  have q0 := ((Kept.refl Nil W1)).cell Q0.out (fun h => h)
  have q1 := ((Kept.refl Nil W1)).cell Q1.out (fun h => h)
  have q2 := ((Kept.refl Nil W1)).cell Q2.out (fun h => h)
  have q3 := ((Kept.refl Nil W1)).cell Q3.out (fun h => h)
  have z0 := ((Kept.refl Nil W1)).cell Z0.out (fun h => h)
  have z1 := ((Kept.refl Nil W1)).cell Z1.out (fun h => h)
  go_wp2_with fail
  refine (CloneL_is ls la lc W1 (rowOf_nil lkCells_len HK.out HR.out.rowOf) HN.out hl).mono ?_
  rintro e w2 ⟨v2, rfl, hO2, hk2⟩
  have HK2 := Lib.hid hk2
  have hz2 := hk2.size
  have HO2 := Lib.hid hO2
  have hg2 : w.heap.size < w2.heap.size := by omega
  obtain ⟨A2, c2, rfl⟩ := own_slice hO2
  clear hk2 hO2 g0 g1 g2 g3 q0 q1 q2 q3 z0 z1
  have g0 := (HK2.out).cell G0.out (fun h => h)
  have g1 := (HK2.out).cell G1.out (fun h => h)
  have g2 := (HK2.out).cell G2.out (fun h => h)
  have g3 := (HK2.out).cell G3.out (fun h => h)
  have q0 := (HK2.out).cell Q0.out (fun h => h)
  have q1 := (HK2.out).cell Q1.out (fun h => h)
  have q2 := (HK2.out).cell Q2.out (fun h => h)
  have q3 := (HK2.out).cell Q3.out (fun h => h)
  have z0 := (HK2.out).cell Z0.out (fun h => h)
  have z1 := (HK2.out).cell Z1.out (fun h => h)
  have gf2 : w2.frozen? ⟨w.heap.size, 2, none⟩ = false := HK2.out.frozen (p := ⟨w.heap.size, 2, none⟩) hzg (frozen_of GB.out 2) (fun h => h)
  have hrow : ∃ g, W1.heap.size ≤ g ∧ (ls ≠ [] → A2 = some ⟨g, 0, none⟩ ∧ RowAt w2 g 48 5 lkCells ls) := by
    by_cases hls : ls = []
    · exact ⟨W1.heap.size, Nat.le_refl _, fun h => absurd hls h⟩
    · obtain ⟨g, cap, e, _, hb, _, hr⟩ := rowAt_of_own HO2.out lkCells_len (by decide) hls
      cases e
      exact ⟨g, hb, fun _ => ⟨rfl, hr⟩⟩
  obtain ⟨g, hgb, hrow⟩ := hrow
  have hc2 : (A2 = none → c2 = 0) ∧ ls.length ≤ c2 := by
    rcases own_form HO2.out with ⟨h1, h2, _⟩ | ⟨g, cap, h1, _, _, h4, _⟩
    · simp only [Value.slice.injEq] at h1; exact ⟨fun _ => h1.2.2, by omega⟩
    · simp only [Value.slice.injEq] at h1; exact ⟨fun h => by (rw [h1.1] at h; cases h), by omega⟩
  have HC2 := Lib.hid hc2
  clear hc2
  go_upto_region 3 with fail
  obtain ⟨W3, hW3⟩ : ∃ W3, w2.setCell ⟨w.heap.size, 2, none⟩ (.slice A2 ls.length c2) = W3 := ⟨_, rfl⟩
  rw [hW3]
  have hk3 : Kept (fun b => b = w.heap.size) w2 W3 := by rw [← hW3]; exact (Kept.refl (fun b => b = w.heap.size) w2).setCell (.inl rfl) _
  have HG3 := Lib.hid (show W3.heap[w.heap.size]? = some (.cells #[.int .i64 ver, .slice pa ps.length pc, .slice A2 ls.length c2, .slice ea es.length ec] 26 (0, 0)) by rw [← hW3, heap_set (HK2.out.heap GB.out (fun h => h))]; rfl)
  have HRW := Lib.hid (show ls ≠ [] → A2 = some ⟨g, 0, none⟩ ∧ RowAt W3 g 48 5 lkCells ls from fun h => ⟨(hrow h).1, (hrow h).2.kept hk3 (by omega)⟩)
  have HQ3 := Lib.hid (hk3.heap (HK2.out.heap QB.out (fun h => h)) (by omega))
  have HZ3 := Lib.hid (hk3.heap (HK2.out.heap ZB.out (fun h => h)) (by omega))
  have HKW3 := Lib.hid (show Kept Nil w W3 from (HK.out.step HK2.out).trans hk3 (fun i hi => .inr (by omega)))
  have hz3 : w2.heap.size ≤ W3.heap.size := hk3.size
  clear hW3 hk3 hrow gf2 g0 g1 g2 g3 q0 q1 q2 q3 z0 z1
  go_loopw [14] (fun i wr => ∃ k : Nat, k ≤ ls.length ∧ i = .int .i64 k ∧ (ls ≠ [] → RowAt wr g 48 5 lkCells (part ls k)) ∧ Kept (fun b => b = g) W3 wr ∧ ∀ (j : Nat) (u : Lk), j < k → ls[j]? = some u → overB u = false) (fun i _ => ls.length - (intOf i).toNat)
  case atStart => exact ⟨0, Nat.zero_le _, rfl, fun h => by rw [part_zero]; exact (HRW.out h).2, Kept.refl _ _, fun j u hj => by omega⟩
  case round =>
    obtain ⟨k, hk, rfl, hrk, hK, hall⟩ := hrel
    have HRK := Lib.hid hrk
    have HKR := Lib.hid hK
    have HALL := Lib.hid hall
    have hzr := hK.size
    have hgr := hK.heap HG3.out (by omega)
    have HGR := Lib.hid hgr
    have hqr := hK.heap HQ3.out (by omega)
    have HQR := Lib.hid hqr
    have hzzr := hK.heap HZ3.out (by omega)
    have HZR := Lib.hid hzzr
    have hx1 : w.heap.size < wr.heap.size := by omega
    have hx2 : w.heap.size + 1 < wr.heap.size := by omega
    have hx3 : w.heap.size + 1 + 1 < wr.heap.size := by omega
    have g0 : wr.cell? ⟨w.heap.size, 0, none⟩ = some (.int .i64 ver) := by rw [cell_of hgr]; rfl
    have g1 : wr.cell? ⟨w.heap.size, 1, none⟩ = some (.slice pa ps.length pc) := by rw [cell_of hgr]; rfl
    have g2 : wr.cell? ⟨w.heap.size, 2, none⟩ = some (.slice A2 ls.length c2) := by rw [cell_of hgr]; rfl
    have g3 : wr.cell? ⟨w.heap.size, 3, none⟩ = some (.slice ea es.length ec) := by rw [cell_of hgr]; rfl
    have q0 : wr.cell? ⟨w.heap.size + 1, 0, none⟩ = some (.int .i64 0) := by rw [cell_of hqr]; rfl
    have qf0 : wr.frozen? ⟨w.heap.size + 1, 0, none⟩ = false := frozen_of hqr 0
    have q1 : wr.cell? ⟨w.heap.size + 1, 1, none⟩ = some (.slice none 0 0) := by rw [cell_of hqr]; rfl
    have qf1 : wr.frozen? ⟨w.heap.size + 1, 1, none⟩ = false := frozen_of hqr 1
    have q2 : wr.cell? ⟨w.heap.size + 1, 2, none⟩ = some (.slice none 0 0) := by rw [cell_of hqr]; rfl
    have qf2 : wr.frozen? ⟨w.heap.size + 1, 2, none⟩ = false := frozen_of hqr 2
    have q3 : wr.cell? ⟨w.heap.size + 1, 3, none⟩ = some (.slice none 0 0) := by rw [cell_of hqr]; rfl
    have qf3 : wr.frozen? ⟨w.heap.size + 1, 3, none⟩ = false := frozen_of hqr 3
    have z0 : wr.cell? ⟨w.heap.size + 1 + 1, 0, none⟩ = some (.int .i64 0) := by rw [cell_of hzzr]; rfl
    have zf0 : wr.frozen? ⟨w.heap.size + 1 + 1, 0, none⟩ = false := frozen_of hzzr 0
    have z1 : wr.cell? ⟨w.heap.size + 1 + 1, 1, none⟩ = some (.int .i64 0) := by rw [cell_of hzzr]; rfl
    have zf1 : wr.frozen? ⟨w.heap.size + 1 + 1, 1, none⟩ = false := frozen_of hzzr 1
    clear hrk hK hall hgr hqr hzzr
    by_cases hlt : k < ls.length
    · obtain ⟨l, el⟩ : ∃ l, ls[k]? = some l := ⟨_, List.getElem?_eq_getElem hlt⟩
      have hne : ls ≠ [] := by intro h; rw [h] at hlt; simp at hlt
      have hA := (HRW.out hne).1
      have hrw := HRK.out hne
      have hdl := HD.out l (List.mem_of_getElem? el)
      have c3 : wr.cell? ⟨g, k * 5 + 3, none⟩ = some (.int .i64 l.delay) := hrw.cell (part_get ls el) (c := 3) (by decide)
      have f3 : wr.frozen? ⟨g, k * 5 + 3, none⟩ = false := hrw.frozen _
      have hgl := hrw.lt
      have HRW2 := Lib.hid hrw
      have EL := Lib.hid el
      obtain ⟨d, hd⟩ : ∃ d, l.delay = d := ⟨_, rfl⟩
      rw [hd] at c3 hdl
      have HDD := Lib.hid hd
      have hmul := Sc.Mul_calls d 1000 wr (by unfold Sc.I64; omega) (by unfold Sc.I64; omega)
      have hfit : Sc.fits (d * 1000) = true := by rw [Sc.fits_iff]; unfold Sc.I64; omega
      rw [Sc.held_yes hfit, hfit] at hmul
      have hlt2 : (k : Int) < (ls.length : Int) := by omega
      have hw : IntKind.i64.wrap ((k : Int) + 1) = (k : Int) + 1 := by rw [IntKind.wrap_i64]; omega
      have HNE := Lib.hid hne
      clear el hrw hd hfit hne
      subst hA
      by_cases hov : 1099511627 < d
      · have b1 : decide (1099511627776 < d * 1000) = true := decide_eq_true (by omega)
        have w1 : IntKind.i64.wrap ((ps.length : Int) + (k : Int)) = (ps.length : Int) + (k : Int) := by rw [IntKind.wrap_i64]; omega
        have w2' : IntKind.i64.wrap ((ps.length : Int) + (k : Int) + 1) = (ps.length : Int) + (k : Int) + 1 := by rw [IntKind.wrap_i64]; omega
        have hob : overB l = true := by unfold overB; rw [HDD.out]; exact decide_eq_true hov
        have HOB := Lib.hid hob
        clear hov hob hdl
        go_upto_region 7 with (go_at_call 41; refine hmul.mono ?_; rintro e w9 ⟨rfl, rfl⟩)
        clear hmul
        go_region
        all_goals (go_wp2_with fail)
        obtain ⟨wq, hwq⟩ : ∃ wq, ((((wr.setCell ⟨w.heap.size + 1, 0, none⟩ (.int .i64 0)).setCell ⟨w.heap.size + 1, 1, none⟩ (.slice none 0 0)).setCell ⟨w.heap.size + 1, 2, none⟩ (.slice none 0 0)).setCell ⟨w.heap.size + 1, 3, none⟩ (.slice none 0 0)) = wq := ⟨_, rfl⟩
        obtain ⟨we, hwe⟩ : ∃ we, ((wq.setCell ⟨w.heap.size + 1 + 1, 0, none⟩ (.int .i64 30)).setCell ⟨w.heap.size + 1 + 1, 1, none⟩ (.int .i64 ((ps.length : Int) + (k : Int) + 1))).drew = we := ⟨_, rfl⟩
        simp only [hwq, hwe]
        have hqq : wq.heap[w.heap.size + 1]? = some (.cells #[.int .i64 0, .slice none 0 0, .slice none 0 0, .slice none 0 0] 26 (0, 0)) := by rw [← hwq, heap_set (heap_set (heap_set (heap_set HQR.out 0 _) 1 _) 2 _) 3 _]; rfl
        have hzq : wq.heap[w.heap.size + 1 + 1]? = some (.cells #[.int .i64 0, .int .i64 0] 32 (0, 0)) := by rw [← hwq, heap_set_other (by simp), heap_set_other (by simp), heap_set_other (by simp), heap_set_other (by simp)]; exact HZR.out
        have hqe : we.heap[w.heap.size + 1]? = some (.cells #[.int .i64 0, .slice none 0 0, .slice none 0 0, .slice none 0 0] 26 (0, 0)) := by rw [← hwe, heap_drew, heap_set_other (by simp), heap_set_other (by simp)]; exact hqq
        have hze : we.heap[w.heap.size + 1 + 1]? = some (.cells #[.int .i64 30, .int .i64 ((ps.length : Int) + (k : Int) + 1)] 32 (0, 0)) := by rw [← hwe, heap_drew, heap_set (heap_set hzq 0 _) 1 _]; rfl
        have hkq : Kept Nil w wq := by rw [← hwq]; exact ((((HKW3.out.trans HKR.out (fun i hi => .inr (by omega))).setCell (.inr (by simp only; omega)) _).setCell (.inr (by simp only; omega)) _).setCell (.inr (by simp only; omega)) _).setCell (.inr (by simp only; omega)) _
        have hke : Kept Nil w we := by rw [← hwe]; exact ((hkq.setCell (.inr (by simp only; omega)) _).setCell (.inr (by simp only; omega)) _).drew
        have s0 : we.cell? ⟨w.heap.size + 1, 0, none⟩ = some (.int .i64 0) := by rw [cell_of hqe]; rfl
        have s1 : we.cell? ⟨w.heap.size + 1, 1, none⟩ = some (.slice none 0 0) := by rw [cell_of hqe]; rfl
        have s2 : we.cell? ⟨w.heap.size + 1, 2, none⟩ = some (.slice none 0 0) := by rw [cell_of hqe]; rfl
        have s3 : we.cell? ⟨w.heap.size + 1, 3, none⟩ = some (.slice none 0 0) := by rw [cell_of hqe]; rfl
        have t0 : we.cell? ⟨w.heap.size + 1 + 1, 0, none⟩ = some (.int .i64 30) := by rw [cell_of hze]; rfl
        have t1 : we.cell? ⟨w.heap.size + 1 + 1, 1, none⟩ = some (.int .i64 ((ps.length : Int) + (k : Int) + 1)) := by rw [cell_of hze]; rfl
        refine bodyPost_ret (v := .tuple #[.agg #[.int .i64 0, .slice none 0 0, .slice none 0 0, .slice none 0 0], .agg #[.int .i64 30, .int .i64 ((ps.length : Int) + (k : Int) + 1)]]) (by simp [results, Try.results21, go_sem, s0, s1, s2, s3, t0, t1]) rfl ?_
        refine ⟨hke, fun hno => ?_, fun i u hi hu hlow => ?_⟩
        · have h9 := hno l (List.mem_of_getElem? EL.out); rw [HOB.out] at h9; cases h9
        · have e : i = k := by
            rcases Nat.lt_trichotomy i k with h | h | h
            · have h9 := HALL.out i u h hi; rw [hu] at h9; cases h9
            · exact h
            · have h9 := hlow k l h EL.out; rw [HOB.out] at h9; cases h9
          rw [e]
      · have b1 : decide (1099511627776 < d * 1000) = false := decide_eq_false (by omega)
        have hob : overB l = false := by unfold overB; rw [HDD.out]; exact decide_eq_false hov
        have HOB := Lib.hid hob
        clear hov hob hdl
        go_wp2_with (go_at_call 41; refine hmul.mono ?_; rintro e w9 ⟨rfl, rfl⟩; clear hmul)
        go_round
        refine ⟨k + 1, by omega, rfl, fun _ => ?_, HKR.out.setCell (.inl rfl) _, fun j u hj hu => ?_⟩
        · have h9 := HRW2.out.set lkCells_len (part_get ls EL.out) (o' := dlL l) (c := 3) (by decide) (u := .int .i64 (d * 1000)) (by rw [← HDD.out]; rfl)
          rw [part_next ls EL.out] at h9; exact h9
        · by_cases e : j = k
          · rw [e, EL.out] at hu; cases hu; exact HOB.out
          · exact HALL.out j u (by omega) hu
        case measure => (simp [intOf] <;> omega)
    · have hkl : k = ls.length := by omega
      subst hkl
      go_wp2_with fail
      obtain ⟨wq, hwq⟩ : ∃ wq, ((((wr.setCell ⟨w.heap.size + 1, 0, none⟩ (.int .i64 ver)).setCell ⟨w.heap.size + 1, 1, none⟩ (.slice pa ps.length pc)).setCell ⟨w.heap.size + 1, 2, none⟩ (.slice A2 ls.length c2)).setCell ⟨w.heap.size + 1, 3, none⟩ (.slice ea es.length ec)) = wq := ⟨_, rfl⟩
      obtain ⟨we, hwe⟩ : ∃ we, ((wq.setCell ⟨w.heap.size + 1 + 1, 0, none⟩ (.int .i64 0)).setCell ⟨w.heap.size + 1 + 1, 1, none⟩ (.int .i64 0)) = we := ⟨_, rfl⟩
      simp only [hwq, hwe]
      have hqq : wq.heap[w.heap.size + 1]? = some (.cells #[.int .i64 ver, .slice pa ps.length pc, .slice A2 ls.length c2, .slice ea es.length ec] 26 (0, 0)) := by rw [← hwq, heap_set (heap_set (heap_set (heap_set HQR.out 0 _) 1 _) 2 _) 3 _]; rfl
      have hzq : wq.heap[w.heap.size + 1 + 1]? = some (.cells #[.int .i64 0, .int .i64 0] 32 (0, 0)) := by rw [← hwq, heap_set_other (by simp), heap_set_other (by simp), heap_set_other (by simp), heap_set_other (by simp)]; exact HZR.out
      have hqe : we.heap[w.heap.size + 1]? = some (.cells #[.int .i64 ver, .slice pa ps.length pc, .slice A2 ls.length c2, .slice ea es.length ec] 26 (0, 0)) := by rw [← hwe, heap_set_other (by simp), heap_set_other (by simp)]; exact hqq
      have hze : we.heap[w.heap.size + 1 + 1]? = some (.cells #[.int .i64 0, .int .i64 0] 32 (0, 0)) := by rw [← hwe, heap_set (heap_set hzq 0 _) 1 _]; rfl
      have hgk : Kept (fun b => b = w.heap.size + 1 ∨ b = w.heap.size + 1 + 1) wr we := by rw [← hwe, ← hwq]; exact ((((((Kept.refl _ wr).setCell (.inl (.inl rfl)) _).setCell (.inl (.inl rfl)) _).setCell (.inl (.inl rfl)) _).setCell (.inl (.inl rfl)) _).setCell (.inl (.inr rfl)) _).setCell (.inl (.inr rfl)) _
      have hke : Kept Nil w we := (HKW3.out.trans HKR.out (fun i hi => .inr (by omega))).trans hgk (fun i hi => .inr (by omega))
      have s0 : we.cell? ⟨w.heap.size + 1, 0, none⟩ = some (.int .i64 ver) := by rw [cell_of hqe]; rfl
      have s1 : we.cell? ⟨w.heap.size + 1, 1, none⟩ = some (.slice pa ps.length pc) := by rw [cell_of hqe]; rfl
      have s2 : we.cell? ⟨w.heap.size + 1, 2, none⟩ = some (.slice A2 ls.length c2) := by rw [cell_of hqe]; rfl
      have s3 : we.cell? ⟨w.heap.size + 1, 3, none⟩ = some (.slice ea es.length ec) := by rw [cell_of hqe]; rfl
      have t0 : we.cell? ⟨w.heap.size + 1 + 1, 0, none⟩ = some (.int .i64 0) := by rw [cell_of hze]; rfl
      have t1 : we.cell? ⟨w.heap.size + 1 + 1, 1, none⟩ = some (.int .i64 0) := by rw [cell_of hze]; rfl
      refine bodyPost_ret (v := .tuple #[.agg #[.int .i64 ver, .slice pa ps.length pc, .slice A2 ls.length c2, .slice ea es.length ec], .agg #[.int .i64 0, .int .i64 0]]) (by simp [results, Try.results21, go_sem, s0, s1, s2, s3, t0, t1]) rfl ?_
      refine ⟨hke, fun hno => ⟨A2, c2, rfl, ?_, HC2.out.1, HC2.out.2, fun g9 off hn e => by (rw [(HRW.out hn).1] at e; cases e; have h9 := HSZ.out; omega)⟩, fun i u hi hu hlow => ?_⟩
      · by_cases hne : ls = []
        · rw [hne]; exact .inl rfl
        · have h9 := (HRK.out hne).kept hgk (by omega)
          rw [part_all] at h9
          rw [(HRW.out hne).1]
          exact RLinks.ofRow h9.row
      · have h9 := HALL.out i u (List.getElem?_eq_some_iff.1 hi).1 hi; rw [hu] at h9; cases h9
end Go.Proofs.Ythgbahlkflmgiaa.Mo
