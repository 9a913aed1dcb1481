/- The walk of upgrade.Ways and of its iterator. -/
import Derived.Test.YthgbahlkflmgiaaLat
import Derived.Test.YthgbahlkflmgiaaUpP
import Derived.Test.YthgbahlkflmgiaaRange
import Derived.Maps.OwnIn
namespace Go.Proofs.Ythgbahlkflmgiaa.Mo
open Go Go.RowKit Go.Maps Go.Proofs.Ythgbahlkflmgiaa.Lb
set_option linter.unusedVariables false
set_option linter.unusedSimpArgs false
set_option maxRecDepth 8000
attribute [local go_sem] Oper.semAt_some
theorem Ways_is (m : Md) (w : World) : Calls Try.prog 26 #[.agg #[.int .i64 m.version, .slice m.pa m.ps.length m.pc, .slice m.la m.ls.length m.lc, .slice m.ea m.es.length m.ec]] w fun e w' => e = .returned (.func (.func 46) #[] #[.pointer (some ⟨w.heap.size, 0, none⟩)]) ∧ w' = w.alloc (.cells #[.int .i64 m.version, .slice m.pa m.ps.length m.pc, .slice m.la m.ls.length m.lc, .slice m.ea m.es.length m.ec] 26) := by
  go_enter Try.func26, Try.ntmps26
  go_wp2
  go_ret
  exact ⟨rfl, rfl⟩
set_option maxHeartbeats 16000000 in
theorem WaysIt_in (n l Bx E0 : Nat) (v0 : Int) (ps0 : List Pr) (ls0 : List Lk) (es0 : List Ev) (pa0 la0 ea0 : Option Addr) (pc0 lc0 ec0 : Nat) (C : List Md → World → Prop) (Ow : World → Nat → Prop) (Jx : List Md → World → Prop)
    (hO : ∀ (pre : List Md) (W : World) (i : Nat), C pre W → Ow W i → i < W.heap.size)
    (h0k : ∀ (pre : List Md) (W W' : World), C pre W → Kept Nil W W' → C pre W' ∧ ∀ i, Ow W' i → Ow W i)
    (h1k : ∀ (pre : List Md) (W W' : World) (a b : Nat), C pre W → Kept (fun i => i = a ∨ i = b) W W' → E0 ≤ a → E0 ≤ b → ¬ Ow W a → ¬ Ow W b → (∀ x ∈ pre, OutM (fun i => i = a ∨ i = b) x) → C pre W' ∧ ∀ i, Ow W' i → Ow W i)
    (hH : ∀ (pre : List Md) (W : World) (x : Md), C pre W → x ∈ pre → RModel W x)
    (hY : ∀ (pre : List Md) (x : Md) (W : World), PreW ⟨v0, pa0, ps0, pc0, la0, ls0, lc0, ea0, es0, ec0⟩ (pre ++ [x]) → C pre W → HeldM W x → OutM (Ow W) x → FreshM E0 x → YieldAt Fence.wide (n - 1) Try.prog l #[.agg #[.int .i64 x.version, .slice x.pa x.ps.length x.pc, .slice x.la x.ls.length x.lc, .slice x.ea x.es.length x.ec]] W (fun e W' =>
      (e = .returned (.bool true) ∧ C (pre ++ [x]) W' ∧ Kept (Ow W) W W' ∧ ∀ i, Ow W' i → Ow W i ∨ W.heap.size ≤ i) ∨ (e = .returned (.bool false) ∧ Jx (pre ++ [x]) W')))
    (W : World) (hE0 : E0 ≤ W.heap.size) (hW : HeldM W ⟨v0, pa0, ps0, pc0, la0, ls0, lc0, ea0, es0, ec0⟩) (hb : W.heap[Bx]? = some (.cells #[.int .i64 v0, .slice pa0 ps0.length pc0, .slice la0 ls0.length lc0, .slice ea0 es0.length ec0] 26 (0, 0))) (h0 : C [] W) :
    CallsIn Fence.wide n Try.prog 46 #[.func (.yield l) #[] #[], .pointer (some ⟨Bx, 0, none⟩)] W fun e W' => (∃ v, e = .returned v) ∧
      ((∃ pre, SameMs (waysL ⟨v0, pa0, ps0, pc0, la0, ls0, lc0, ea0, es0, ec0⟩) pre ∧ C pre W') ∨ (∃ pre, PreW ⟨v0, pa0, ps0, pc0, la0, ls0, lc0, ea0, es0, ec0⟩ pre ∧ Jx pre W')) := by
  have HY := Lib.hid hY
  have HO := Lib.hid hO
  have H0K := Lib.hid h0k
  have H1K := Lib.hid h1k
  have HH := Lib.hid hH
  have HB := Lib.hid hb
  have H0 := Lib.hid h0
  have HM := Lib.hid hW
  have hBx : Bx < W.heap.size := (Array.getElem?_eq_some_iff.1 hb).1
  clear hY hO h0k h1k hH hb h0 hW
  obtain ⟨F, hF⟩ : ∃ F, mdCheck ⟨v0, pa0, ps0, pc0, la0, ls0, lc0, ea0, es0, ec0⟩ = F := ⟨_, rfl⟩
  have HF := Lib.hid hF
  have hfd : ∀ (x y : Int) (w : World), (Instr.field 32 (.agg #[.int .i64 x, .int .i64 y]) 0).run Try.prog w = .ok (.int .i64 x) w := fun _ _ _ => by kernel_rfl
  have hcall := Check_h W HM.out
  rw [hF] at hcall
  clear hF
  refine callsIn_of_wp Try.func46 rfl trivial ?_ rfl
  simp only [Try.ntmps46, List.size_toArray, List.length_cons, List.length_nil, Nat.reduceAdd, Nat.reduceSub, Array.replicate_succ, Array.replicate_zero, List.push_toArray, List.append_toArray, List.nil_append, List.cons_append]
  have b0 : W.cell? ⟨Bx, 0, none⟩ = some (.int .i64 v0) := by rw [cell_of HB.out]; rfl
  have b1 : W.cell? ⟨Bx, 1, none⟩ = some (.slice pa0 ps0.length pc0) := by rw [cell_of HB.out]; rfl
  have b2 : W.cell? ⟨Bx, 2, none⟩ = some (.slice la0 ls0.length lc0) := by rw [cell_of HB.out]; rfl
  have b3 : W.cell? ⟨Bx, 3, none⟩ = some (.slice ea0 es0.length ec0) := by rw [cell_of HB.out]; rfl
  gi_wp2_with fail
  refine at_wide (hcall.mono ?_)
  clear hcall b0 b1 b2 b3
  rintro e w2 ⟨rfl, hk2⟩
  have HK2 := Lib.hid hk2
  have hz2 := hk2.size
  clear hk2
  by_cases hF0 : F.1 = 0
  · have fF : (F.1 != 0) = false := by simp [hF0]
    have hcheck : (mdCheck ⟨v0, pa0, ps0, pc0, la0, ls0, lc0, ea0, es0, ec0⟩).1 = 0 := by rw [HF.out]; exact hF0
    have HR := Lib.hid (right_of hcheck)
    have HV := Lib.hid (show 1 ≤ v0 from by have := HR.out.v; simp only at this; omega)
    clear hF0 hcheck
    have hown := own_is v0 ps0 ls0 es0 pa0 la0 ea0 pc0 lc0 ec0 w2 (HM.out.nil HK2.out).r HM.out.o HM.out.s
    have b0 : w2.cell? ⟨Bx, 0, none⟩ = some (.int .i64 v0) := by rw [cell_of (HK2.out.heap HB.out (fun h => h))]; rfl
    have b1 : w2.cell? ⟨Bx, 1, none⟩ = some (.slice pa0 ps0.length pc0) := by rw [cell_of (HK2.out.heap HB.out (fun h => h))]; rfl
    have b2 : w2.cell? ⟨Bx, 2, none⟩ = some (.slice la0 ls0.length lc0) := by rw [cell_of (HK2.out.heap HB.out (fun h => h))]; rfl
    have b3 : w2.cell? ⟨Bx, 3, none⟩ = some (.slice ea0 es0.length ec0) := by rw [cell_of (HK2.out.heap HB.out (fun h => h))]; rfl
    have hBx2 : Bx < w2.heap.size := by omega
    gi_wp2_with fail
    refine at_wide (hown.mono ?_)
    clear hown b0 b1 b2 b3
    rintro e w4 hE
    have hk4 := hE.k
    have hz4 := hk4.size
    obtain ⟨⟨v4, pa4, ps4, pc4, la4, ls4, lc4, ea4, es4, ec4⟩, e4, hr4, ho4, hs4, hf4⟩ := hE.ok
    subst e4
    have hv4 : v0 = v4 := hs4.v
    have hl1 : ps0.length = ps4.length := hs4.p.l
    have hl2 : ls0.length = ls4.length := by have := hs4.l; simp only at this; rw [this]
    have hl3 : es0.length = es4.length := by have := hs4.e; simp only at this; rw [this]
    have HHM := Lib.hid (show HeldM w4 ⟨v4, pa4, ps4, pc4, la4, ls4, lc4, ea4, es4, ec4⟩ from ⟨hr4, ho4, HM.out.s.same hs4⟩)
    have HS4 := Lib.hid hs4
    have HF4 := Lib.hid hf4
    have HK4 := Lib.hid hk4
    rw [hv4, hl1, hl2, hl3]
    clear hE hr4 ho4 hs4 hf4 hk4 hv4 hl1 hl2 hl3
    obtain ⟨W5, hW⟩ : ∃ W, ((w4.alloc (.cells #[.int .i64 v4, .slice pa4 ps4.length pc4, .slice la4 ls4.length lc4, .slice ea4 es4.length ec4] 26)).alloc (.cells #[.int .i64 0, .int .i64 0] 32)) = W := ⟨_, rfl⟩
    have hk : Kept Nil w4 W5 := by rw [← hW]; exact (((Kept.refl Nil w4).alloc _).alloc _)
    have hsz : W5.heap.size = w4.heap.size + 2 := by rw [← hW]; simp
    have hb : W5.heap[w4.heap.size]? = some (.cells #[.int .i64 v4, .slice pa4 ps4.length pc4, .slice la4 ls4.length lc4, .slice ea4 es4.length ec4] 26 (0, 0)) := by
      rw [← hW]
      rw [heap_old _ _ (by simp only [World.size_alloc]; omega)]
      have h9 := heap_new w4 (.cells #[.int .i64 v4, .slice pa4 ps4.length pc4, .slice la4 ls4.length lc4, .slice ea4 es4.length ec4] 26)
      exact h9
    have N0 := Lib.hid (show W5.cell? ⟨w4.heap.size, 0, none⟩ = some (.int .i64 v4) by rw [cell_of hb]; rfl)
    have N1 := Lib.hid (show W5.cell? ⟨w4.heap.size, 1, none⟩ = some (.slice pa4 ps4.length pc4) by rw [cell_of hb]; rfl)
    have N2 := Lib.hid (show W5.cell? ⟨w4.heap.size, 2, none⟩ = some (.slice la4 ls4.length lc4) by rw [cell_of hb]; rfl)
    have N3 := Lib.hid (show W5.cell? ⟨w4.heap.size, 3, none⟩ = some (.slice ea4 es4.length ec4) by rw [cell_of hb]; rfl)
    have NB := Lib.hid hb
    have hzn : w4.heap.size < W5.heap.size := by omega
    clear hb
    have hb : W5.heap[w4.heap.size + 1]? = some (.cells #[.int .i64 0, .int .i64 0] 32 (0, 0)) := by
      rw [← hW]
      have h9 := heap_new (w4.alloc (.cells #[.int .i64 v4, .slice pa4 ps4.length pc4, .slice la4 ls4.length lc4, .slice ea4 es4.length ec4] 26)) (.cells #[.int .i64 0, .int .i64 0] 32)
      simp only [World.size_alloc] at h9
      exact h9
    have D0 := Lib.hid (show W5.cell? ⟨w4.heap.size + 1, 0, none⟩ = some (.int .i64 0) by rw [cell_of hb]; rfl)
    have D1 := Lib.hid (show W5.cell? ⟨w4.heap.size + 1, 1, none⟩ = some (.int .i64 0) by rw [cell_of hb]; rfl)
    have DB := Lib.hid hb
    have hzd : w4.heap.size + 1 < W5.heap.size := by omega
    clear hb
    have HW5 := Lib.hid hW
    have HK5 := Lib.hid hk
    have HSZ5 := Lib.hid hsz
    clear hW hk hsz
    gi_wp2_with fail
    rw [HW5.out]
    have hc4 := H0K.out _ _ w4 H0.out (HK2.out.step HK4.out)
    have hc5 := H0K.out _ _ W5 hc4.1 HK5.out
    have hno : ∀ i, w4.heap.size ≤ i → ¬ Ow W5 i := fun i hi h => by have h1 := HO.out _ _ _ hc4.1 (hc5.2 _ h); omega
    have hno4 : ∀ i, W.heap.size ≤ i → ¬ Ow W5 i := fun i hi h => by have h1 := HO.out _ _ _ H0.out (hc4.2 _ (hc5.2 _ h)); omega
    have HNO := Lib.hid hno
    have HNO4 := Lib.hid hno4
    have HC5 := Lib.hid hc5.1
    clear hc4 hc5 hno hno4
    have hz5 : w4.heap.size + 1 < W5.heap.size := by have := HSZ5.out; omega
    gi_loopw [3, 4] (fun a b wr => ∃ (pre : List Md) (k : Nat) (fE fA : Int) (bn bf : Nat) (v6 : Int) (pa6 la6 ea6 : Option Addr) (ps6 : List Pr) (ls6 : List Lk) (es6 : List Ev) (pc6 lc6 ec6 : Nat), a = .pointer (some ⟨bn, 0, none⟩) ∧ b = .pointer (some ⟨bf, 0, none⟩) ∧ E0 ≤ wr.heap.size ∧ wr.heap[bn]? = some (.cells #[.int .i64 v6, .slice pa6 ps6.length pc6, .slice la6 ls6.length lc6, .slice ea6 es6.length ec6] 26 (0, 0)) ∧ wr.heap[bf]? = some (.cells #[.int .i64 fE, .int .i64 fA] 32 (0, 0)) ∧ ¬ Ow wr bn ∧ ¬ Ow wr bf ∧ C pre wr ∧ (fE = 0 → HeldM wr ⟨v6, pa6, ps6, pc6, la6, ls6, lc6, ea6, es6, ec6⟩ ∧ WayAt ⟨v0, pa0, ps0, pc0, la0, ls0, lc0, ea0, es0, ec0⟩ pre ⟨v6, pa6, ps6, pc6, la6, ls6, lc6, ea6, es6, ec6⟩ k ∧ OutM (Ow wr) ⟨v6, pa6, ps6, pc6, la6, ls6, lc6, ea6, es6, ec6⟩ ∧ FreshM E0 ⟨v6, pa6, ps6, pc6, la6, ls6, lc6, ea6, es6, ec6⟩) ∧ (fE ≠ 0 → SameMs (waysL ⟨v0, pa0, ps0, pc0, la0, ls0, lc0, ea0, es0, ec0⟩) pre)) (fun a b wr => wayM a b wr)
    case atStart => exact ⟨[], 3, 0, 0, w4.heap.size, w4.heap.size + 1, v4, pa4, la4, ea4, ps4, ls4, es4, pc4, lc4, ec4, rfl, rfl, by omega, NB.out, DB.out, HNO.out _ (Nat.le_refl _), HNO.out _ (by omega), HC5.out, fun _ => ⟨HHM.out.nil HK5.out, WayAt.start HR.out HS4.out, ⟨fun g off hn e => HNO4.out _ (by have := HF4.out.p g off hn e; omega), fun q hq => ⟨fun g off hn e => HNO4.out _ (by have := (HF4.out.pp q hq).v g off hn e; omega), fun g off hn e => HNO4.out _ (by have := (HF4.out.pp q hq).s g off hn e; omega)⟩, fun g off hn e => HNO4.out _ (by have := HF4.out.l g off hn e; omega), fun g off hn e => HNO4.out _ (by have := HF4.out.e g off hn e; omega)⟩, HF4.out.mono (by omega)⟩, fun h => absurd rfl h⟩
    case round =>
      obtain ⟨pre, k, fE, fA, bn, bf, v6, pa6, la6, ea6, ps6, ls6, es6, pc6, lc6, ec6, rfl, rfl, hE6, hbn, hbf, hon, hof, hC6, hgo, hst⟩ := hrel
      have HBN := Lib.hid hbn
      have HBF := Lib.hid hbf
      have HON := Lib.hid hon
      have HOF := Lib.hid hof
      have HC6 := Lib.hid hC6
      have hx1 : bn < wr.heap.size := (Array.getElem?_eq_some_iff.1 hbn).1
      have hx2 : bf < wr.heap.size := (Array.getElem?_eq_some_iff.1 hbf).1
      have f0 : wr.cell? ⟨bf, 0, none⟩ = some (.int .i64 fE) := by rw [cell_of hbf]; rfl
      have n0 : wr.cell? ⟨bn, 0, none⟩ = some (.int .i64 v6) := by rw [cell_of hbn]; rfl
      have n1 : wr.cell? ⟨bn, 1, none⟩ = some (.slice pa6 ps6.length pc6) := by rw [cell_of hbn]; rfl
      have n2 : wr.cell? ⟨bn, 2, none⟩ = some (.slice la6 ls6.length lc6) := by rw [cell_of hbn]; rfl
      have n3 : wr.cell? ⟨bn, 3, none⟩ = some (.slice ea6 es6.length ec6) := by rw [cell_of hbn]; rfl
      clear hbn hbf hon hof hC6
      by_cases hf0 : fE = 0
      · subst hf0
        obtain ⟨hH6, hw6, ho6, hfr6⟩ := hgo rfl
        have HH6 := Lib.hid hH6
        have HW6 := Lib.hid hw6
        have HO6 := Lib.hid ho6
        have HFR6 := Lib.hid hfr6
        clear hgo hst hH6 hw6 ho6 hfr6
        obtain ⟨fn, tmps, assign, body, hy, hR⟩ := HY.out pre ⟨v6, pa6, ps6, pc6, la6, ls6, lc6, ea6, es6, ec6⟩ wr (HW6.out.pre HV.out) HC6.out HH6.out HO6.out HFR6.out
        have HRr := Lib.hid hR
        clear hR
        simp only at hy
        gi_wp2_with fail
        refine ⟨(fun h => by cases h), HRr.out.mono ?_⟩
        clear hy f0 n0 n1 n2 n3
        rintro e W7 (⟨rfl, hC7, hk7, hw7⟩ | ⟨rfl, hj⟩)
        · have HC7 := Lib.hid hC7
          have HK7 := Lib.hid hk7
          have HW7 := Lib.hid hw7
          have hz7 := hk7.size
          have HBN7 := Lib.hid (hk7.heap HBN.out HON.out)
          have HBF7 := Lib.hid (hk7.heap HBF.out HOF.out)
          clear hC7 hk7 hw7
          have HH7 := Lib.hid (show HeldM W7 ⟨v6, pa6, ps6, pc6, la6, ls6, lc6, ea6, es6, ec6⟩ from ⟨HH6.out.r.out HO6.out HK7.out, HH6.out.o, HH6.out.s⟩)
          have hx71 : bn < W7.heap.size := by omega
          have hx72 : bf < W7.heap.size := by omega
          have n0 : W7.cell? ⟨bn, 0, none⟩ = some (.int .i64 v6) := by rw [cell_of HBN7.out]; rfl
          have n1 : W7.cell? ⟨bn, 1, none⟩ = some (.slice pa6 ps6.length pc6) := by rw [cell_of HBN7.out]; rfl
          have n2 : W7.cell? ⟨bn, 2, none⟩ = some (.slice la6 ls6.length lc6) := by rw [cell_of HBN7.out]; rfl
          have n3 : W7.cell? ⟨bn, 3, none⟩ = some (.slice ea6 es6.length ec6) := by rw [cell_of HBN7.out]; rfl
          have f0 : W7.cell? ⟨bf, 0, none⟩ = some (.int .i64 0) := by rw [cell_of HBF7.out]; rfl
          have f1 : W7.cell? ⟨bf, 1, none⟩ = some (.int .i64 fA) := by rw [cell_of HBF7.out]; rfl
          obtain ⟨W8, hW⟩ : ∃ W, ((W7.alloc (.cells #[.int .i64 v6, .slice pa6 ps6.length pc6, .slice la6 ls6.length lc6, .slice ea6 es6.length ec6] 26)).alloc (.cells #[.int .i64 0, .int .i64 fA] 32)) = W := ⟨_, rfl⟩
          have hk : Kept Nil W7 W8 := by rw [← hW]; exact (((Kept.refl Nil W7).alloc _).alloc _)
          have hsz : W8.heap.size = W7.heap.size + 2 := by rw [← hW]; simp
          have hb : W8.heap[W7.heap.size]? = some (.cells #[.int .i64 v6, .slice pa6 ps6.length pc6, .slice la6 ls6.length lc6, .slice ea6 es6.length ec6] 26 (0, 0)) := by
            rw [← hW]
            rw [heap_old _ _ (by simp only [World.size_alloc]; omega)]
            have h9 := heap_new W7 (.cells #[.int .i64 v6, .slice pa6 ps6.length pc6, .slice la6 ls6.length lc6, .slice ea6 es6.length ec6] 26)
            exact h9
          have P0 := Lib.hid (show W8.cell? ⟨W7.heap.size, 0, none⟩ = some (.int .i64 v6) by rw [cell_of hb]; rfl)
          have P1 := Lib.hid (show W8.cell? ⟨W7.heap.size, 1, none⟩ = some (.slice pa6 ps6.length pc6) by rw [cell_of hb]; rfl)
          have P2 := Lib.hid (show W8.cell? ⟨W7.heap.size, 2, none⟩ = some (.slice la6 ls6.length lc6) by rw [cell_of hb]; rfl)
          have P3 := Lib.hid (show W8.cell? ⟨W7.heap.size, 3, none⟩ = some (.slice ea6 es6.length ec6) by rw [cell_of hb]; rfl)
          have PB := Lib.hid hb
          have hzp : W7.heap.size < W8.heap.size := by omega
          clear hb
          have hb : W8.heap[W7.heap.size + 1]? = some (.cells #[.int .i64 0, .int .i64 fA] 32 (0, 0)) := by
            rw [← hW]
            have h9 := heap_new (W7.alloc (.cells #[.int .i64 v6, .slice pa6 ps6.length pc6, .slice la6 ls6.length lc6, .slice ea6 es6.length ec6] 26)) (.cells #[.int .i64 0, .int .i64 fA] 32)
            simp only [World.size_alloc] at h9
            exact h9
          have Q0 := Lib.hid (show W8.cell? ⟨W7.heap.size + 1, 0, none⟩ = some (.int .i64 0) by rw [cell_of hb]; rfl)
          have Q1 := Lib.hid (show W8.cell? ⟨W7.heap.size + 1, 1, none⟩ = some (.int .i64 fA) by rw [cell_of hb]; rfl)
          have QB := Lib.hid hb
          have hzq : W7.heap.size + 1 < W8.heap.size := by omega
          clear hb
          have HW8 := Lib.hid hW
          have HK8 := Lib.hid hk
          have HSZ8 := Lib.hid hsz
          clear hW hk hsz
          have hz8 : W7.heap.size + 1 < W8.heap.size := by have := HSZ8.out; omega
          have hup := Up_is v6 ps6 ls6 es6 pa6 la6 ea6 pc6 lc6 ec6 W8 (HH7.out.nil HK8.out)
          obtain ⟨u, hu⟩ : ∃ u, upF ⟨v6, pa6, ps6, pc6, la6, ls6, lc6, ea6, es6, ec6⟩ = u := ⟨_, rfl⟩
          have HU := Lib.hid hu
          clear hu
          gi_wp2_with fail
          rw [HW8.out]
          clear n0 n1 n2 n3 f0 f1
          have p0 := P0.out
          have p1 := P1.out
          have p2 := P2.out
          have p3 := P3.out
          have q0 := Q0.out
          have q1 := Q1.out
          gi_wp2_with fail
          refine at_wide (hup.mono ?_)
          clear hup p0 p1 p2 p3 q0 q1
          rintro e w9 hE
          have HK9 := Lib.hid hE.k
          have hz9 := hE.k.size
          have HP9 := Lib.hid (HK9.out.heap PB.out (fun h => h))
          have HQ9 := Lib.hid (HK9.out.heap QB.out (fun h => h))
          have hc8 := H0K.out _ _ W8 HC7.out HK8.out
          have hc9 := H0K.out _ _ w9 hc8.1 HK9.out
          have hno7 : ∀ i, W7.heap.size ≤ i → ¬ Ow w9 i := fun i hi h => by have h1 := HO.out _ _ _ HC7.out (hc8.2 _ (hc9.2 _ h)); omega
          have hlow : ∀ x ∈ pre ++ [⟨v6, pa6, ps6, pc6, la6, ls6, lc6, ea6, es6, ec6⟩], OutM (fun i => i = W7.heap.size ∨ i = W7.heap.size + 1) x := fun x hx => by
            have h9 := (HH.out _ _ x HC7.out hx).low
            exact ⟨fun g off hn e h => h9.p g off hn e (by omega), fun q hq => ⟨fun g off hn e h => (h9.pp q hq).v g off hn e (by omega), fun g off hn e h => (h9.pp q hq).s g off hn e (by omega)⟩, fun g off hn e h => h9.l g off hn e (by omega), fun g off hn e h => h9.e g off hn e (by omega)⟩
          have HNO7 := Lib.hid hno7
          have HC9 := Lib.hid hc9.1
          have HLOW := Lib.hid hlow
          clear hc8 hc9 hno7 hlow
          have p0 : w9.cell? ⟨W7.heap.size, 0, none⟩ = some (.int .i64 v6) := by rw [cell_of HP9.out]; rfl
          have p1 : w9.cell? ⟨W7.heap.size, 1, none⟩ = some (.slice pa6 ps6.length pc6) := by rw [cell_of HP9.out]; rfl
          have p2 : w9.cell? ⟨W7.heap.size, 2, none⟩ = some (.slice la6 ls6.length lc6) := by rw [cell_of HP9.out]; rfl
          have p3 : w9.cell? ⟨W7.heap.size, 3, none⟩ = some (.slice ea6 es6.length ec6) := by rw [cell_of HP9.out]; rfl
          have pf0 : w9.frozen? ⟨W7.heap.size, 0, none⟩ = false := frozen_of HP9.out 0
          have pf1 : w9.frozen? ⟨W7.heap.size, 1, none⟩ = false := frozen_of HP9.out 1
          have pf2 : w9.frozen? ⟨W7.heap.size, 2, none⟩ = false := frozen_of HP9.out 2
          have pf3 : w9.frozen? ⟨W7.heap.size, 3, none⟩ = false := frozen_of HP9.out 3
          have q0 : w9.cell? ⟨W7.heap.size + 1, 0, none⟩ = some (.int .i64 0) := by rw [cell_of HQ9.out]; rfl
          have q1 : w9.cell? ⟨W7.heap.size + 1, 1, none⟩ = some (.int .i64 fA) := by rw [cell_of HQ9.out]; rfl
          have qf0 : w9.frozen? ⟨W7.heap.size + 1, 0, none⟩ = false := frozen_of HQ9.out 0
          have qf1 : w9.frozen? ⟨W7.heap.size + 1, 1, none⟩ = false := frozen_of HQ9.out 1
          have HN6 := Lib.hid (show wr.cell? ⟨bn, 0, none⟩ = some (.int .i64 v6) by rw [cell_of HBN.out]; rfl)
          have HF6 := Lib.hid (show wr.cell? ⟨bf, 0, none⟩ = some (.int .i64 0) by rw [cell_of HBF.out]; rfl)
          have hz10 : W7.heap.size + 1 < w9.heap.size := by omega
          by_cases hu0 : u.1 = 0
          · obtain ⟨⟨v8, pa8, ps8, pc8, la8, ls8, lc8, ea8, es8, ec8⟩, e8, hh8, hs8, hf8⟩ := hE.ok (by rw [HU.out]; exact hu0)
            subst e8
            have HH8 := Lib.hid hh8
            have HS8 := Lib.hid hs8
            have HF8 := Lib.hid hf8
            have HU0 := Lib.hid hu0
            clear hE hh8 hs8 hf8 hu0
            gi_wp2_with fail
            obtain ⟨W10, hW10⟩ : ∃ W10, ((((((w9.setCell ⟨W7.heap.size, 0, none⟩ (.int .i64 v8)).setCell ⟨W7.heap.size, 1, none⟩ (.slice pa8 ps8.length pc8)).setCell ⟨W7.heap.size, 2, none⟩ (.slice la8 ls8.length lc8)).setCell ⟨W7.heap.size, 3, none⟩ (.slice ea8 es8.length ec8)).setCell ⟨W7.heap.size + 1, 0, none⟩ (.int .i64 0)).setCell ⟨W7.heap.size + 1, 1, none⟩ (.int .i64 0)) = W10 := ⟨_, rfl⟩
            simp only [hW10]
            have hk10 : Kept (fun i => i = W7.heap.size ∨ i = W7.heap.size + 1) w9 W10 := by rw [← hW10]; exact ((((((Kept.refl (fun i => i = W7.heap.size ∨ i = W7.heap.size + 1) w9).setCell (.inl (.inl rfl)) _).setCell (.inl (.inl rfl)) _).setCell (.inl (.inl rfl)) _).setCell (.inl (.inl rfl)) _).setCell (.inl (.inr rfl)) _).setCell (.inl (.inr rfl)) _
            have hp10 : W10.heap[W7.heap.size]? = some (.cells #[.int .i64 v8, .slice pa8 ps8.length pc8, .slice la8 ls8.length lc8, .slice ea8 es8.length ec8] 26 (0, 0)) := by rw [← hW10, heap_set_other (by simp), heap_set_other (by simp), heap_set (heap_set (heap_set (heap_set HP9.out 0 _) 1 _) 2 _) 3 _]; rfl
            have hq10 : W10.heap[W7.heap.size + 1]? = some (.cells #[.int .i64 0, .int .i64 0] 32 (0, 0)) := by rw [← hW10, heap_set (heap_set (by rw [heap_set_other (by simp), heap_set_other (by simp), heap_set_other (by simp), heap_set_other (by simp)]; exact HQ9.out) 0 _) 1 _]; rfl
            have hc10 := H1K.out _ _ W10 W7.heap.size (W7.heap.size + 1) HC9.out hk10 (by omega) (by omega) (HNO7.out _ (Nat.le_refl _)) (HNO7.out _ (by omega)) HLOW.out
            have hno10 : ∀ i, W7.heap.size ≤ i → ¬ Ow W10 i := fun i hi h => HNO7.out i hi (hc10.2 _ h)
            have hz11 := hk10.size
            go_roundw
            case measure =>
              have h1 : W10.cell? ⟨W7.heap.size, 0, none⟩ = some (.int .i64 v8) := by rw [cell_of hp10]; rfl
              have h2 : W10.cell? ⟨W7.heap.size + 1, 0, none⟩ = some (.int .i64 0) := by rw [cell_of hq10]; rfl
              rw [wayM_go h2 h1, wayM_go HF6.out HN6.out]
              have h3 := up_right (show (upF ⟨v6, pa6, ps6, pc6, la6, ls6, lc6, ea6, es6, ec6⟩).1 = 0 by rw [HU.out]; exact HU0.out)
              have h4 := HS8.out.v
              have h5 := h3.1.v
              have h6 := h3.2
              simp only at h4 h5 h6
              omega
            obtain ⟨j, hj, hnx⟩ := HW6.out.next HV.out (by rw [HU.out]; exact HU0.out) HS8.out
            refine ⟨_, j, 0, 0, W7.heap.size, W7.heap.size + 1, v8, pa8, la8, ea8, ps8, ls8, es8, pc8, lc8, ec8, rfl, rfl, by omega, hp10, hq10, hno10 _ (Nat.le_refl _), hno10 _ (by omega), hc10.1, fun _ => ⟨HH8.out.fresh HF8.out hk10 (fun i hi h => by omega), hnx, ?_, HF8.out.mono (by omega)⟩, fun h => absurd rfl h⟩
            exact ⟨fun g off hn e => hno10 _ (by have := HF8.out.p g off hn e; omega), fun q hq => ⟨fun g off hn e => hno10 _ (by have := (HF8.out.pp q hq).v g off hn e; omega), fun g off hn e => hno10 _ (by have := (HF8.out.pp q hq).s g off hn e; omega)⟩, fun g off hn e => hno10 _ (by have := HF8.out.l g off hn e; omega), fun g off hn e => hno10 _ (by have := HF8.out.e g off hn e; omega)⟩
          · have e8 := hE.bad (by rw [HU.out]; exact hu0)
            rw [HU.out] at e8
            subst e8
            have HU0 := Lib.hid hu0
            clear hE hu0
            gi_wp2_with fail
            obtain ⟨W10, hW10⟩ : ∃ W10, ((((((w9.setCell ⟨W7.heap.size, 0, none⟩ (.int .i64 0)).setCell ⟨W7.heap.size, 1, none⟩ (.slice none 0 0)).setCell ⟨W7.heap.size, 2, none⟩ (.slice none 0 0)).setCell ⟨W7.heap.size, 3, none⟩ (.slice none 0 0)).setCell ⟨W7.heap.size + 1, 0, none⟩ (.int .i64 u.1)).setCell ⟨W7.heap.size + 1, 1, none⟩ (.int .i64 u.2)) = W10 := ⟨_, rfl⟩
            simp only [hW10]
            have hk10 : Kept (fun i => i = W7.heap.size ∨ i = W7.heap.size + 1) w9 W10 := by rw [← hW10]; exact ((((((Kept.refl (fun i => i = W7.heap.size ∨ i = W7.heap.size + 1) w9).setCell (.inl (.inl rfl)) _).setCell (.inl (.inl rfl)) _).setCell (.inl (.inl rfl)) _).setCell (.inl (.inl rfl)) _).setCell (.inl (.inr rfl)) _).setCell (.inl (.inr rfl)) _
            have hp10 : W10.heap[W7.heap.size]? = some (.cells #[.int .i64 0, .slice none 0 0, .slice none 0 0, .slice none 0 0] 26 (0, 0)) := by rw [← hW10, heap_set_other (by simp), heap_set_other (by simp), heap_set (heap_set (heap_set (heap_set HP9.out 0 _) 1 _) 2 _) 3 _]; rfl
            have hq10 : W10.heap[W7.heap.size + 1]? = some (.cells #[.int .i64 u.1, .int .i64 u.2] 32 (0, 0)) := by rw [← hW10, heap_set (heap_set (by rw [heap_set_other (by simp), heap_set_other (by simp), heap_set_other (by simp), heap_set_other (by simp)]; exact HQ9.out) 0 _) 1 _]; rfl
            have hc10 := H1K.out _ _ W10 W7.heap.size (W7.heap.size + 1) HC9.out hk10 (by omega) (by omega) (HNO7.out _ (Nat.le_refl _)) (HNO7.out _ (by omega)) HLOW.out
            have hno10 : ∀ i, W7.heap.size ≤ i → ¬ Ow W10 i := fun i hi h => HNO7.out i hi (hc10.2 _ h)
            have hz11 := hk10.size
            go_roundw
            case measure =>
              have h2 : W10.cell? ⟨W7.heap.size + 1, 0, none⟩ = some (.int .i64 u.1) := by rw [cell_of hq10]; rfl
              rw [wayM_stop h2 HU0.out, wayM_go HF6.out HN6.out]
              omega
            refine ⟨_, 0, u.1, u.2, W7.heap.size, W7.heap.size + 1, 0, none, none, none, [], [], [], 0, 0, 0, rfl, rfl, by omega, hp10, hq10, hno10 _ (Nat.le_refl _), hno10 _ (by omega), hc10.1, fun h => absurd h HU0.out, fun _ => HW6.out.done HV.out (by rw [HU.out]; exact HU0.out)⟩
        · have HJ := Lib.hid hj
          clear hj
          gi_wp2_with fail
          refine bodyPost_ret (results_none rfl _ _ _) rfl ?_
          exact ⟨⟨_, rfl⟩, .inr ⟨_, HW6.out.pre HV.out, HJ.out⟩⟩
      · have HST := Lib.hid (hst hf0)
        have hfb : (fE == 0) = false := by simp [hf0]
        clear hgo hst hf0
        gi_wp2_with fail
        refine bodyPost_end (results_none rfl _ _ _) rfl ?_
        exact ⟨⟨_, rfl⟩, .inl ⟨_, HST.out, HC6.out⟩⟩
  · have fF : (F.1 != 0) = true := by simp [hF0]
    have HF0 := Lib.hid hF0
    clear hF0
    gi_wp2_with fail
    refine bodyPost_ret (results_none rfl _ _ _) rfl ?_
    exact ⟨⟨_, rfl⟩, .inl ⟨[], waysL_bad (by rw [HF.out]; exact HF0.out), (H0K.out _ _ _ H0.out HK2.out).1⟩⟩
end Go.Proofs.Ythgbahlkflmgiaa.Mo
