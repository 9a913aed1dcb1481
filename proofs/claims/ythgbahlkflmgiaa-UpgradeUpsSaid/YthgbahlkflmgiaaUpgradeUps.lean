/- The walk of the statement UpgradeUps. -/
import Derived.Test.YthgbahlkflmgiaaUpH
import Derived.Lib.MinMax
namespace Go.Proofs.Ythgbahlkflmgiaa.Mo
open Go Go.RowKit Go.Proofs.Ythgbahlkflmgiaa.Lb
set_option linter.unusedVariables false
set_option linter.unusedSimpArgs false
set_option maxRecDepth 8000
section
open Go
theorem i64_low (n c : Int) (k : Nat) (hc : (BitVec.ofInt 64 c).toNat = 2 ^ k - 1) (hk : k ≤ 62) : bits .and .i64 n c = n % (2 ^ k : Nat) := by
  have key : (BitVec.ofInt 64 n &&& BitVec.ofInt 64 c).toNat = (n % ((2 ^ 64 : Nat) : Int)).toNat % 2 ^ k := by
    rw [BitVec.toNat_and, BitVec.toNat_ofInt, hc, Nat.and_two_pow_sub_one_eq_mod]
  show IntKind.i64.wrap ((BitVec.ofInt 64 n &&& BitVec.ofInt 64 c).toNat : Nat) = _
  have hd : 2 ^ k ∣ 2 ^ 64 := Nat.pow_dvd_pow 2 (by omega)
  have hp : 0 < 2 ^ k := Nat.pow_pos (by decide)
  have hb : 2 ^ k ≤ 2 ^ 62 := Nat.pow_le_pow_right (by decide) hk
  have e : (((n % ((2 ^ 64 : Nat) : Int)).toNat % 2 ^ k : Nat) : Int) = n % (2 ^ k : Nat) := by
    rw [Int.natCast_emod, Int.toNat_of_nonneg (Int.emod_nonneg _ (by decide))]
    exact Int.emod_emod_of_dvd n (Int.natCast_dvd_natCast.2 hd)
  rw [key, e, IntKind.wrap_i64]
  have h0 : 0 ≤ n % ((2 ^ k : Nat) : Int) := Int.emod_nonneg _ (by omega)
  have h1 : n % ((2 ^ k : Nat) : Int) < ((2 ^ k : Nat) : Int) := Int.emod_lt_of_pos _ (by omega)
  omega
end
theorem ways_cells {w : World} {base n : Nat} {v : Value} {ws : List Md} (h : w.ownsRow base 26 4 v n (ws.flatMap mdCells)) : ∃ A c, v = .slice A ws.length c ∧ n = ws.length ∧ (∀ g off, A = some ⟨g, off, none⟩ → base ≤ g ∧ g < w.heap.size) ∧ RowOf w A 4 mdCells ws := by
  obtain ⟨A, c, e, hn, hr, hb, _, _⟩ := rowOf_own h mdCells_len (by decide)
  refine ⟨A, c, e, hn, fun g off ha => ⟨hb g off ha, ?_⟩, hr⟩
  subst e
  exact (h.lt g (by rw [ha]; rfl)).2
theorem rowOf_at {w : World} {A : Option Addr} {ws : List Md} (h : RowOf w A 4 mdCells ws) {k : Nat} {x : Md} (hk : ws[k]? = some x) : ∃ g off, A = some ⟨g, off, none⟩ ∧ w.cell? ⟨g, off + k * 4, none⟩ = some (.int .i64 x.version) ∧ w.cell? ⟨g, off + k * 4 + 1, none⟩ = some (.slice x.pa x.ps.length x.pc) ∧ w.cell? ⟨g, off + k * 4 + 2, none⟩ = some (.slice x.la x.ls.length x.lc) ∧ w.cell? ⟨g, off + k * 4 + 3, none⟩ = some (.slice x.ea x.es.length x.ec) := by
  rcases h with rfl | ⟨g, off, e, hc⟩
  · simp at hk
  · exact ⟨g, off, e, hc k x hk 0 (by decide), hc k x hk 1 (by decide), hc k x hk 2 (by decide), hc k x hk 3 (by decide)⟩
theorem i64_and3 (n : Int) : bits .and .i64 n 3 = n % 4 := i64_low n 3 2 (by decide) (by decide)
def zeroMd : Md := ⟨0, none, [], 0, none, [], 0, none, [], 0⟩
theorem zeroMd_fresh (b : Nat) : FreshM b zeroMd := ⟨fun _ _ h => absurd rfl h, fun q hq => by simp [zeroMd] at hq, fun _ _ h => absurd rfl h, fun _ _ h => absurd rfl h⟩
def upA (m : Md) : Md := if (upF m).1 = 0 then upM m else zeroMd
def latA (m : Md) : Md := if (latF m).1 = 0 then latM m else zeroMd
theorem lat_zero {m : Md} (h : (latF m).1 = 0) : latF m = (0, 0) := by
  have hk : ∀ (k : Nat) (m : Md), (latG k m).1.1 = 0 → (latG k m).1 = (0, 0) := by
    intro k
    induction k with
    | zero => intro m _; rfl
    | succ k ih =>
      intro m h
      by_cases hv : m.version < 3
      · by_cases hu : (upF m).1 = 0
        · rw [latG_next hv hu] at h ⊢; exact ih _ h
        · rw [latG_bad hv hu] at h; exact absurd h hu
      · rw [latG_done hv]
  unfold latF at *
  by_cases hc : (mdCheck m).1 ≠ 0
  · rw [if_pos hc] at h; exact absurd h hc
  · rw [if_neg hc] at h ⊢; exact hk 3 m h
theorem UpEnd.any {m : Md} {w : World} {e : Ending} {w' : World} (h : UpEnd m w e w') : ∃ m' : Md, e = .returned (.tuple #[.agg #[.int .i64 m'.version, .slice m'.pa m'.ps.length m'.pc, .slice m'.la m'.ls.length m'.lc, .slice m'.ea m'.es.length m'.ec], .agg #[.int .i64 (upF m).1, .int .i64 (upF m).2]]) ∧ HeldM w' m' ∧ SameM (upA m) m' ∧ FreshM w.heap.size m' := by
  unfold upA
  by_cases h0 : (upF m).1 = 0
  · obtain ⟨m', e1, hh, hs, hf⟩ := h.ok h0
    rw [if_pos h0, (up_cases h0).2.2]
    exact ⟨m', e1, hh, hs, hf⟩
  · rw [if_neg h0]
    exact ⟨zeroMd, h.bad h0, zero_held 0 w' (by simp [Sc.I64]), SameM.rfl' _, zeroMd_fresh _⟩
theorem RefUpEnd.any {m : Md} {w : World} {e : Ending} {w' : World} (h : RefUpEnd m w e w') : ∃ m' : Md, e = .returned (.tuple #[.agg #[.int .i64 m'.version, .slice m'.pa m'.ps.length m'.pc, .slice m'.la m'.ls.length m'.lc, .slice m'.ea m'.es.length m'.ec], .int .i64 (upF m).1, .int .i64 (upF m).2]) ∧ HeldM w' m' ∧ SameM (upA m) m' ∧ FreshM w.heap.size m' := by
  unfold upA
  by_cases h0 : (upF m).1 = 0
  · obtain ⟨m', e1, hh, hs, hf⟩ := h.ok h0
    rw [if_pos h0, (up_cases h0).2.2]
    exact ⟨m', e1, hh, hs, hf⟩
  · rw [if_neg h0]
    exact ⟨zeroMd, h.bad h0, zero_held 0 w' (by simp [Sc.I64]), SameM.rfl' _, zeroMd_fresh _⟩
theorem LatEnd.any {m : Md} {w : World} {e : Ending} {w' : World} (h : LatEnd m w e w') : ∃ m' : Md, e = .returned (.tuple #[.agg #[.int .i64 m'.version, .slice m'.pa m'.ps.length m'.pc, .slice m'.la m'.ls.length m'.lc, .slice m'.ea m'.es.length m'.ec], .agg #[.int .i64 (latF m).1, .int .i64 (latF m).2]]) ∧ HeldM w' m' ∧ SameM (latA m) m' ∧ FreshM w.heap.size m' := by
  unfold latA
  by_cases h0 : (latF m).1 = 0
  · obtain ⟨m', e1, hh, hs, hf, _, _⟩ := h.ok h0
    rw [if_pos h0, lat_zero h0]
    exact ⟨m', e1, hh, hs, hf⟩
  · rw [if_neg h0]
    exact ⟨zeroMd, h.bad h0, zero_held 0 w' (by simp [Sc.I64]), SameM.rfl' _, zeroMd_fresh _⟩
theorem RefLatEnd.any {m : Md} {w : World} {e : Ending} {w' : World} (h : RefLatEnd m w e w') : ∃ m' : Md, e = .returned (.tuple #[.agg #[.int .i64 m'.version, .slice m'.pa m'.ps.length m'.pc, .slice m'.la m'.ls.length m'.lc, .slice m'.ea m'.es.length m'.ec], .int .i64 (latF m).1, .int .i64 (latF m).2]) ∧ HeldM w' m' ∧ SameM (latA m) m' := by
  unfold latA
  by_cases h0 : (latF m).1 = 0
  · obtain ⟨m', e1, hh, hs⟩ := h.ok h0
    rw [if_pos h0, lat_zero h0]
    exact ⟨m', e1, hh, hs⟩
  · rw [if_neg h0]
    exact ⟨zeroMd, h.bad h0, zero_held 0 w' (by simp [Sc.I64]), SameM.rfl' _⟩
set_option maxHeartbeats 16000000 in
theorem UpgradeUps_calls (m : Md) (most : Int) (w : World) (hm : RModel w m) (ho : OkM m) (hmost : Sc.I64 most) :
    Calls Try.prog 3 #[m.val, .int .i64 most] w fun e w' => e = .returned (.bool true) ∧ Kept Nil w w' := by
  have HMO := Lib.hid hmost
  clear hmost
  have HM := Lib.hid hm
  have HO := Lib.hid ho
  obtain ⟨ver, pa, ps, pc, la, ls, lc, ea, es, ec⟩ := m
  clear hm ho
  unfold Md.val
  simp only at *
  obtain ⟨W1, hW⟩ : ∃ W, (w.alloc (.cells #[.int .i64 ver, .slice pa ps.length pc, .slice la ls.length lc, .slice ea es.length ec] 26)) = W := ⟨_, rfl⟩
  have hk : Kept Nil w W1 := by rw [← hW]; exact ((Kept.refl Nil w).alloc _)
  have hsz : W1.heap.size = w.heap.size + 1 := by rw [← hW]; simp
  have hb : W1.heap[w.heap.size]? = some (.cells #[.int .i64 ver, .slice pa ps.length pc, .slice la ls.length lc, .slice ea es.length ec] 26 (0, 0)) := by
    rw [← hW]
    have h9 := heap_new w (.cells #[.int .i64 ver, .slice pa ps.length pc, .slice la ls.length lc, .slice ea es.length ec] 26)
    exact h9
  have G0 := Lib.hid (show W1.cell? ⟨w.heap.size, 0, none⟩ = some (.int .i64 ver) by rw [cell_of hb]; rfl)
  have G1 := Lib.hid (show W1.cell? ⟨w.heap.size, 1, none⟩ = some (.slice pa ps.length pc) by rw [cell_of hb]; rfl)
  have G2 := Lib.hid (show W1.cell? ⟨w.heap.size, 2, none⟩ = some (.slice la ls.length lc) by rw [cell_of hb]; rfl)
  have G3 := Lib.hid (show W1.cell? ⟨w.heap.size, 3, none⟩ = some (.slice ea es.length ec) by rw [cell_of hb]; rfl)
  have GB := Lib.hid hb
  have hzg : w.heap.size < W1.heap.size := by omega
  clear hb
  have HW := Lib.hid hW
  have HK := Lib.hid hk
  have HSZ := Lib.hid hsz
  clear hW hk hsz
  have HM1 := Lib.hid (HM.out.nil HK.out)
  go_enter Try.func3, Try.ntmps3
  go_wp2_with fail
  rw [HW.out]
  refine (alive_is W1).mono ?_
  rintro e w1 ⟨rfl, hk1⟩
  have HK1 := Lib.hid hk1
  have hz1 := hk1.size
  clear hk1
  have g0 := (HK1.out).cell G0.out (fun h => h)
  have g1 := (HK1.out).cell G1.out (fun h => h)
  have g2 := (HK1.out).cell G2.out (fun h => h)
  have g3 := (HK1.out).cell G3.out (fun h => h)
  have hg1 : w.heap.size < w1.heap.size := by omega
  go_wp2_with fail
  refine (Few_h w1 (HM1.out.nil HK1.out)).mono ?_
  rintro e w2 ⟨b, rfl, hbb, hk2⟩
  have HBB := Lib.hid hbb
  have HK2 := Lib.hid (HK1.out.step hk2)
  have hz2 := hk2.size
  have hg2 : w.heap.size < w2.heap.size := by omega
  clear hbb hk2 g0 g1 g2 g3
  have g0 := (HK2.out).cell G0.out (fun h => h)
  have g1 := (HK2.out).cell G1.out (fun h => h)
  have g2 := (HK2.out).cell G2.out (fun h => h)
  have g3 := (HK2.out).cell G3.out (fun h => h)
  cases b with
  | false =>
    go_wp2_with fail
    go_ret
    exact ⟨rfl, HK.out.step HK2.out⟩
  | true =>
    have HF := Lib.hid (HBB.out rfl)
    have HHM := Lib.hid (held_of_few (HM1.out.nil HK2.out) HO.out HF.out)
    have hpl := HF.out.pl
    have hll := HF.out.ll
    have hel := HF.out.el
    simp only at hpl hll hel
    obtain ⟨u, hu⟩ : ∃ u, upF ⟨ver, pa, ps, pc, la, ls, lc, ea, es, ec⟩ = u := ⟨_, rfl⟩
    have HU := Lib.hid hu
    clear hu
    obtain ⟨v, hv⟩ : ∃ v, latF ⟨ver, pa, ps, pc, la, ls, lc, ea, es, ec⟩ = v := ⟨_, rfl⟩
    have HV := Lib.hid hv
    clear hv
    have hc3 := Copy_is ver ps ls es pa la ea pc lc ec w2 HHM.out
    go_wp2_with fail
    refine hc3.mono ?_
    clear hc3 g0 g1 g2 g3
    rintro e wa3 hE
    have HKa3 := Lib.hid hE.k
    have hza3 := hE.k.size
    obtain ⟨⟨ver5, pa5, ps5, pc5, la5, ls5, lc5, ea5, es5, ec5⟩, e5, hh5, hs5, -, -⟩ := hE.ok
    subst e5
    have HH5 := Lib.hid hh5
    have HS5 := Lib.hid hs5
    clear hh5 hs5
    clear hE
    obtain ⟨W3, hW⟩ : ∃ W, (wa3.alloc (.cells #[.int .i64 ver5, .slice pa5 ps5.length pc5, .slice la5 ls5.length lc5, .slice ea5 es5.length ec5] 26)) = W := ⟨_, rfl⟩
    have hk : Kept Nil wa3 W3 := by rw [← hW]; exact ((Kept.refl Nil wa3).alloc _)
    have hsz : W3.heap.size = wa3.heap.size + 1 := by rw [← hW]; simp
    have hb : W3.heap[wa3.heap.size]? = some (.cells #[.int .i64 ver5, .slice pa5 ps5.length pc5, .slice la5 ls5.length lc5, .slice ea5 es5.length ec5] 26 (0, 0)) := by
      rw [← hW]
      have h9 := heap_new wa3 (.cells #[.int .i64 ver5, .slice pa5 ps5.length pc5, .slice la5 ls5.length lc5, .slice ea5 es5.length ec5] 26)
      exact h9
    have C0 := Lib.hid (show W3.cell? ⟨wa3.heap.size, 0, none⟩ = some (.int .i64 ver5) by rw [cell_of hb]; rfl)
    have C1 := Lib.hid (show W3.cell? ⟨wa3.heap.size, 1, none⟩ = some (.slice pa5 ps5.length pc5) by rw [cell_of hb]; rfl)
    have C2 := Lib.hid (show W3.cell? ⟨wa3.heap.size, 2, none⟩ = some (.slice la5 ls5.length lc5) by rw [cell_of hb]; rfl)
    have C3 := Lib.hid (show W3.cell? ⟨wa3.heap.size, 3, none⟩ = some (.slice ea5 es5.length ec5) by rw [cell_of hb]; rfl)
    have CB := Lib.hid hb
    have hzc : wa3.heap.size < W3.heap.size := by omega
    clear hb
    have HW3 := Lib.hid hW
    have HK3 := Lib.hid hk
    have HSZ3 := Lib.hid hsz
    clear hW hk hsz
    have hzb3 : wa3.heap.size < W3.heap.size := by have := HSZ3.out; omega
    go_upto_region 6 with fail
    rw [HW3.out]
    have HKK3 := Lib.hid (HK2.out.step (HKa3.out.step HK3.out))
    have hgg3 : w.heap.size < W3.heap.size := by omega
    have HD3 := Lib.hid (HHM.out.nil (HKa3.out.step HK3.out))
    have HKD := Lib.hid (show Kept Nil w2 W3 from HKa3.out.step HK3.out)
    have g0 := (HKK3.out).cell G0.out (fun h => h)
    have g1 := (HKK3.out).cell G1.out (fun h => h)
    have g2 := (HKK3.out).cell G2.out (fun h => h)
    have g3 := (HKK3.out).cell G3.out (fun h => h)
    have hc4 := Up_is ver ps ls es pa la ea pc lc ec W3 HD3.out
    go_wp2_with fail
    refine hc4.mono ?_
    clear hc4 g0 g1 g2 g3
    rintro e wa4 hE
    have HKa4 := Lib.hid hE.k
    have hza4 := hE.k.size
    obtain ⟨⟨ver6, pa6, ps6, pc6, la6, ls6, lc6, ea6, es6, ec6⟩, e6, hh6, hs6, -⟩ := hE.any
    rw [HU.out] at e6
    subst e6
    have HH6 := Lib.hid hh6
    have HS6 := Lib.hid hs6
    clear hh6 hs6
    clear hE
    obtain ⟨W4, hW⟩ : ∃ W, ((wa4.alloc (.cells #[.int .i64 ver6, .slice pa6 ps6.length pc6, .slice la6 ls6.length lc6, .slice ea6 es6.length ec6] 26)).alloc (.cells #[.int .i64 u.1, .int .i64 u.2] 32)) = W := ⟨_, rfl⟩
    have hk : Kept Nil wa4 W4 := by rw [← hW]; exact (((Kept.refl Nil wa4).alloc _).alloc _)
    have hsz : W4.heap.size = wa4.heap.size + 2 := by rw [← hW]; simp
    have hb : W4.heap[wa4.heap.size]? = some (.cells #[.int .i64 ver6, .slice pa6 ps6.length pc6, .slice la6 ls6.length lc6, .slice ea6 es6.length ec6] 26 (0, 0)) := by
      rw [← hW]
      rw [heap_old _ _ (by simp only [World.size_alloc]; omega)]
      have h9 := heap_new wa4 (.cells #[.int .i64 ver6, .slice pa6 ps6.length pc6, .slice la6 ls6.length lc6, .slice ea6 es6.length ec6] 26)
      exact h9
    have A0 := Lib.hid (show W4.cell? ⟨wa4.heap.size, 0, none⟩ = some (.int .i64 ver6) by rw [cell_of hb]; rfl)
    have A1 := Lib.hid (show W4.cell? ⟨wa4.heap.size, 1, none⟩ = some (.slice pa6 ps6.length pc6) by rw [cell_of hb]; rfl)
    have A2 := Lib.hid (show W4.cell? ⟨wa4.heap.size, 2, none⟩ = some (.slice la6 ls6.length lc6) by rw [cell_of hb]; rfl)
    have A3 := Lib.hid (show W4.cell? ⟨wa4.heap.size, 3, none⟩ = some (.slice ea6 es6.length ec6) by rw [cell_of hb]; rfl)
    have AB := Lib.hid hb
    have hza : wa4.heap.size < W4.heap.size := by omega
    clear hb
    have hb : W4.heap[wa4.heap.size + 1]? = some (.cells #[.int .i64 u.1, .int .i64 u.2] 32 (0, 0)) := by
      rw [← hW]
      have h9 := heap_new (wa4.alloc (.cells #[.int .i64 ver6, .slice pa6 ps6.length pc6, .slice la6 ls6.length lc6, .slice ea6 es6.length ec6] 26)) (.cells #[.int .i64 u.1, .int .i64 u.2] 32)
      simp only [World.size_alloc] at h9
      exact h9
    have F0 := Lib.hid (show W4.cell? ⟨wa4.heap.size + 1, 0, none⟩ = some (.int .i64 u.1) by rw [cell_of hb]; rfl)
    have F1 := Lib.hid (show W4.cell? ⟨wa4.heap.size + 1, 1, none⟩ = some (.int .i64 u.2) by rw [cell_of hb]; rfl)
    have FB := Lib.hid hb
    have hzf : wa4.heap.size + 1 < W4.heap.size := by omega
    clear hb
    have HW4 := Lib.hid hW
    have HK4 := Lib.hid hk
    have HSZ4 := Lib.hid hsz
    clear hW hk hsz
    have hzb4 : wa4.heap.size + 1 < W4.heap.size := by have := HSZ4.out; omega
    go_upto_region 7 with fail
    rw [HW4.out]
    have HKK4 := Lib.hid (HKK3.out.step (HKa4.out.step HK4.out))
    have hgg4 : w.heap.size < W4.heap.size := by omega
    have HD4 := Lib.hid (HHM.out.nil ((HKD.out).step (HKa4.out.step HK4.out)))
    replace HKD := Lib.hid (HKD.out.step (HKa4.out.step HK4.out))
    have g0 := (HKK4.out).cell G0.out (fun h => h)
    have g1 := (HKK4.out).cell G1.out (fun h => h)
    have g2 := (HKK4.out).cell G2.out (fun h => h)
    have g3 := (HKK4.out).cell G3.out (fun h => h)
    have hc5 := RefUp_is ver ps ls es pa la ea pc lc ec W4 HD4.out
    go_wp2_with fail
    refine hc5.mono ?_
    clear hc5 g0 g1 g2 g3
    rintro e wa5 hE
    have HKa5 := Lib.hid hE.k
    have hza5 := hE.k.size
    obtain ⟨⟨ver7, pa7, ps7, pc7, la7, ls7, lc7, ea7, es7, ec7⟩, e7, hh7, hs7, -⟩ := hE.any
    rw [HU.out] at e7
    subst e7
    have HH7 := Lib.hid hh7
    have HS7 := Lib.hid hs7
    clear hh7 hs7
    clear hE
    obtain ⟨W5, hW⟩ : ∃ W, (wa5.alloc (.cells #[.int .i64 ver7, .slice pa7 ps7.length pc7, .slice la7 ls7.length lc7, .slice ea7 es7.length ec7] 26)) = W := ⟨_, rfl⟩
    have hk : Kept Nil wa5 W5 := by rw [← hW]; exact ((Kept.refl Nil wa5).alloc _)
    have hsz : W5.heap.size = wa5.heap.size + 1 := by rw [← hW]; simp
    have hb : W5.heap[wa5.heap.size]? = some (.cells #[.int .i64 ver7, .slice pa7 ps7.length pc7, .slice la7 ls7.length lc7, .slice ea7 es7.length ec7] 26 (0, 0)) := by
      rw [← hW]
      have h9 := heap_new wa5 (.cells #[.int .i64 ver7, .slice pa7 ps7.length pc7, .slice la7 ls7.length lc7, .slice ea7 es7.length ec7] 26)
      exact h9
    have X0 := Lib.hid (show W5.cell? ⟨wa5.heap.size, 0, none⟩ = some (.int .i64 ver7) by rw [cell_of hb]; rfl)
    have X1 := Lib.hid (show W5.cell? ⟨wa5.heap.size, 1, none⟩ = some (.slice pa7 ps7.length pc7) by rw [cell_of hb]; rfl)
    have X2 := Lib.hid (show W5.cell? ⟨wa5.heap.size, 2, none⟩ = some (.slice la7 ls7.length lc7) by rw [cell_of hb]; rfl)
    have X3 := Lib.hid (show W5.cell? ⟨wa5.heap.size, 3, none⟩ = some (.slice ea7 es7.length ec7) by rw [cell_of hb]; rfl)
    have XB := Lib.hid hb
    have hzx : wa5.heap.size < W5.heap.size := by omega
    clear hb
    have HW5 := Lib.hid hW
    have HK5 := Lib.hid hk
    have HSZ5 := Lib.hid hsz
    clear hW hk hsz
    have hzb5 : wa5.heap.size < W5.heap.size := by have := HSZ5.out; omega
    go_upto_region 8 with fail
    rw [HW5.out]
    have HKK5 := Lib.hid (HKK4.out.step (HKa5.out.step HK5.out))
    have hgg5 : w.heap.size < W5.heap.size := by omega
    have HD5 := Lib.hid (HHM.out.nil ((HKD.out).step (HKa5.out.step HK5.out)))
    replace HKD := Lib.hid (HKD.out.step (HKa5.out.step HK5.out))
    have g0 := (HKK5.out).cell G0.out (fun h => h)
    have g1 := (HKK5.out).cell G1.out (fun h => h)
    have g2 := (HKK5.out).cell G2.out (fun h => h)
    have g3 := (HKK5.out).cell G3.out (fun h => h)
    have hc6 := Latest_is ver ps ls es pa la ea pc lc ec W5 HD5.out
    go_wp2_with fail
    refine hc6.mono ?_
    clear hc6 g0 g1 g2 g3
    rintro e wa6 hE
    have HKa6 := Lib.hid hE.k
    have hza6 := hE.k.size
    obtain ⟨⟨ver8, pa8, ps8, pc8, la8, ls8, lc8, ea8, es8, ec8⟩, e8, hh8, hs8, -⟩ := hE.any
    rw [HV.out] at e8
    subst e8
    have HH8 := Lib.hid hh8
    have HS8 := Lib.hid hs8
    clear hh8 hs8
    clear hE
    obtain ⟨W6, hW⟩ : ∃ W, ((wa6.alloc (.cells #[.int .i64 ver8, .slice pa8 ps8.length pc8, .slice la8 ls8.length lc8, .slice ea8 es8.length ec8] 26)).alloc (.cells #[.int .i64 v.1, .int .i64 v.2] 32)) = W := ⟨_, rfl⟩
    have hk : Kept Nil wa6 W6 := by rw [← hW]; exact (((Kept.refl Nil wa6).alloc _).alloc _)
    have hsz : W6.heap.size = wa6.heap.size + 2 := by rw [← hW]; simp
    have hb : W6.heap[wa6.heap.size]? = some (.cells #[.int .i64 ver8, .slice pa8 ps8.length pc8, .slice la8 ls8.length lc8, .slice ea8 es8.length ec8] 26 (0, 0)) := by
      rw [← hW]
      rw [heap_old _ _ (by simp only [World.size_alloc]; omega)]
      have h9 := heap_new wa6 (.cells #[.int .i64 ver8, .slice pa8 ps8.length pc8, .slice la8 ls8.length lc8, .slice ea8 es8.length ec8] 26)
      exact h9
    have B0 := Lib.hid (show W6.cell? ⟨wa6.heap.size, 0, none⟩ = some (.int .i64 ver8) by rw [cell_of hb]; rfl)
    have B1 := Lib.hid (show W6.cell? ⟨wa6.heap.size, 1, none⟩ = some (.slice pa8 ps8.length pc8) by rw [cell_of hb]; rfl)
    have B2 := Lib.hid (show W6.cell? ⟨wa6.heap.size, 2, none⟩ = some (.slice la8 ls8.length lc8) by rw [cell_of hb]; rfl)
    have B3 := Lib.hid (show W6.cell? ⟨wa6.heap.size, 3, none⟩ = some (.slice ea8 es8.length ec8) by rw [cell_of hb]; rfl)
    have BB := Lib.hid hb
    have hzb : wa6.heap.size < W6.heap.size := by omega
    clear hb
    have hb : W6.heap[wa6.heap.size + 1]? = some (.cells #[.int .i64 v.1, .int .i64 v.2] 32 (0, 0)) := by
      rw [← hW]
      have h9 := heap_new (wa6.alloc (.cells #[.int .i64 ver8, .slice pa8 ps8.length pc8, .slice la8 ls8.length lc8, .slice ea8 es8.length ec8] 26)) (.cells #[.int .i64 v.1, .int .i64 v.2] 32)
      simp only [World.size_alloc] at h9
      exact h9
    have H0 := Lib.hid (show W6.cell? ⟨wa6.heap.size + 1, 0, none⟩ = some (.int .i64 v.1) by rw [cell_of hb]; rfl)
    have H1 := Lib.hid (show W6.cell? ⟨wa6.heap.size + 1, 1, none⟩ = some (.int .i64 v.2) by rw [cell_of hb]; rfl)
    have HB := Lib.hid hb
    have hzh : wa6.heap.size + 1 < W6.heap.size := by omega
    clear hb
    have HW6 := Lib.hid hW
    have HK6 := Lib.hid hk
    have HSZ6 := Lib.hid hsz
    clear hW hk hsz
    have hzb6 : wa6.heap.size + 1 < W6.heap.size := by have := HSZ6.out; omega
    go_upto_region 9 with fail
    rw [HW6.out]
    have HKK6 := Lib.hid (HKK5.out.step (HKa6.out.step HK6.out))
    have hgg6 : w.heap.size < W6.heap.size := by omega
    have HD6 := Lib.hid (HHM.out.nil ((HKD.out).step (HKa6.out.step HK6.out)))
    replace HKD := Lib.hid (HKD.out.step (HKa6.out.step HK6.out))
    have g0 := (HKK6.out).cell G0.out (fun h => h)
    have g1 := (HKK6.out).cell G1.out (fun h => h)
    have g2 := (HKK6.out).cell G2.out (fun h => h)
    have g3 := (HKK6.out).cell G3.out (fun h => h)
    have hc7 := RefLatest_is ver ps ls es pa la ea pc lc ec W6 HD6.out
    go_wp2_with fail
    refine hc7.mono ?_
    clear hc7 g0 g1 g2 g3
    rintro e wa7 hE
    have HKa7 := Lib.hid hE.k
    have hza7 := hE.k.size
    obtain ⟨⟨ver9, pa9, ps9, pc9, la9, ls9, lc9, ea9, es9, ec9⟩, e9, hh9, hs9⟩ := hE.any
    rw [HV.out] at e9
    subst e9
    have HH9 := Lib.hid hh9
    have HS9 := Lib.hid hs9
    clear hh9 hs9
    clear hE
    obtain ⟨W7, hW⟩ : ∃ W, (wa7.alloc (.cells #[.int .i64 ver9, .slice pa9 ps9.length pc9, .slice la9 ls9.length lc9, .slice ea9 es9.length ec9] 26)) = W := ⟨_, rfl⟩
    have hk : Kept Nil wa7 W7 := by rw [← hW]; exact ((Kept.refl Nil wa7).alloc _)
    have hsz : W7.heap.size = wa7.heap.size + 1 := by rw [← hW]; simp
    have hb : W7.heap[wa7.heap.size]? = some (.cells #[.int .i64 ver9, .slice pa9 ps9.length pc9, .slice la9 ls9.length lc9, .slice ea9 es9.length ec9] 26 (0, 0)) := by
      rw [← hW]
      have h9 := heap_new wa7 (.cells #[.int .i64 ver9, .slice pa9 ps9.length pc9, .slice la9 ls9.length lc9, .slice ea9 es9.length ec9] 26)
      exact h9
    have Y0 := Lib.hid (show W7.cell? ⟨wa7.heap.size, 0, none⟩ = some (.int .i64 ver9) by rw [cell_of hb]; rfl)
    have Y1 := Lib.hid (show W7.cell? ⟨wa7.heap.size, 1, none⟩ = some (.slice pa9 ps9.length pc9) by rw [cell_of hb]; rfl)
    have Y2 := Lib.hid (show W7.cell? ⟨wa7.heap.size, 2, none⟩ = some (.slice la9 ls9.length lc9) by rw [cell_of hb]; rfl)
    have Y3 := Lib.hid (show W7.cell? ⟨wa7.heap.size, 3, none⟩ = some (.slice ea9 es9.length ec9) by rw [cell_of hb]; rfl)
    have YB := Lib.hid hb
    have hzy : wa7.heap.size < W7.heap.size := by omega
    clear hb
    have HW7 := Lib.hid hW
    have HK7 := Lib.hid hk
    have HSZ7 := Lib.hid hsz
    clear hW hk hsz
    have hzb7 : wa7.heap.size < W7.heap.size := by have := HSZ7.out; omega
    go_upto_region 10 with fail
    rw [HW7.out]
    have HKK7 := Lib.hid (HKK6.out.step (HKa7.out.step HK7.out))
    have hgg7 : w.heap.size < W7.heap.size := by omega
    have HD7 := Lib.hid (HHM.out.nil ((HKD.out).step (HKa7.out.step HK7.out)))
    replace HKD := Lib.hid (HKD.out.step (HKa7.out.step HK7.out))
    have g0 := (HKK7.out).cell G0.out (fun h => h)
    have g1 := (HKK7.out).cell G1.out (fun h => h)
    have g2 := (HKK7.out).cell G2.out (fun h => h)
    have g3 := (HKK7.out).cell G3.out (fun h => h)
    have k67 := HKa7.out.step HK7.out
    have k57 := (HKa6.out.step HK6.out).step k67
    have k47 := (HKa5.out.step HK5.out).step k57
    have k37 := (HKa4.out.step HK4.out).step k47
    have K67 := Lib.hid k67
    have K57 := Lib.hid k57
    have K47 := Lib.hid k47
    have K37 := Lib.hid k37
    have s3 := k37.size
    have s4 := k47.size
    have s5 := k57.size
    have s6 := k67.size
    clear k67 k57 k47 k37
    have C9_0 := Lib.hid (show W7.cell? ⟨wa3.heap.size, 0, none⟩ = some (.int .i64 ver5) from K37.out.cell C0.out (fun h => h))
    have C9_1 := Lib.hid (show W7.cell? ⟨wa3.heap.size, 1, none⟩ = some (.slice pa5 ps5.length pc5) from K37.out.cell C1.out (fun h => h))
    have C9_2 := Lib.hid (show W7.cell? ⟨wa3.heap.size, 2, none⟩ = some (.slice la5 ls5.length lc5) from K37.out.cell C2.out (fun h => h))
    have C9_3 := Lib.hid (show W7.cell? ⟨wa3.heap.size, 3, none⟩ = some (.slice ea5 es5.length ec5) from K37.out.cell C3.out (fun h => h))
    have C9_4 := Lib.hid (show W7.cell? ⟨wa4.heap.size, 0, none⟩ = some (.int .i64 ver6) from K47.out.cell A0.out (fun h => h))
    have C9_5 := Lib.hid (show W7.cell? ⟨wa4.heap.size, 1, none⟩ = some (.slice pa6 ps6.length pc6) from K47.out.cell A1.out (fun h => h))
    have C9_6 := Lib.hid (show W7.cell? ⟨wa4.heap.size, 2, none⟩ = some (.slice la6 ls6.length lc6) from K47.out.cell A2.out (fun h => h))
    have C9_7 := Lib.hid (show W7.cell? ⟨wa4.heap.size, 3, none⟩ = some (.slice ea6 es6.length ec6) from K47.out.cell A3.out (fun h => h))
    have C9_8 := Lib.hid (show W7.cell? ⟨wa4.heap.size + 1, 0, none⟩ = some (.int .i64 u.1) from K47.out.cell F0.out (fun h => h))
    have C9_9 := Lib.hid (show W7.cell? ⟨wa4.heap.size + 1, 1, none⟩ = some (.int .i64 u.2) from K47.out.cell F1.out (fun h => h))
    have C9_10 := Lib.hid (show W7.cell? ⟨wa5.heap.size, 0, none⟩ = some (.int .i64 ver7) from K57.out.cell X0.out (fun h => h))
    have C9_11 := Lib.hid (show W7.cell? ⟨wa5.heap.size, 1, none⟩ = some (.slice pa7 ps7.length pc7) from K57.out.cell X1.out (fun h => h))
    have C9_12 := Lib.hid (show W7.cell? ⟨wa5.heap.size, 2, none⟩ = some (.slice la7 ls7.length lc7) from K57.out.cell X2.out (fun h => h))
    have C9_13 := Lib.hid (show W7.cell? ⟨wa5.heap.size, 3, none⟩ = some (.slice ea7 es7.length ec7) from K57.out.cell X3.out (fun h => h))
    have C9_14 := Lib.hid (show W7.cell? ⟨wa6.heap.size, 0, none⟩ = some (.int .i64 ver8) from K67.out.cell B0.out (fun h => h))
    have C9_15 := Lib.hid (show W7.cell? ⟨wa6.heap.size, 1, none⟩ = some (.slice pa8 ps8.length pc8) from K67.out.cell B1.out (fun h => h))
    have C9_16 := Lib.hid (show W7.cell? ⟨wa6.heap.size, 2, none⟩ = some (.slice la8 ls8.length lc8) from K67.out.cell B2.out (fun h => h))
    have C9_17 := Lib.hid (show W7.cell? ⟨wa6.heap.size, 3, none⟩ = some (.slice ea8 es8.length ec8) from K67.out.cell B3.out (fun h => h))
    have C9_18 := Lib.hid (show W7.cell? ⟨wa6.heap.size + 1, 0, none⟩ = some (.int .i64 v.1) from K67.out.cell H0.out (fun h => h))
    have C9_19 := Lib.hid (show W7.cell? ⟨wa6.heap.size + 1, 1, none⟩ = some (.int .i64 v.2) from K67.out.cell H1.out (fun h => h))
    have C9_20 := Lib.hid (show W7.cell? ⟨wa7.heap.size, 0, none⟩ = some (.int .i64 ver9) from Y0.out)
    have C9_21 := Lib.hid (show W7.cell? ⟨wa7.heap.size, 1, none⟩ = some (.slice pa9 ps9.length pc9) from Y1.out)
    have C9_22 := Lib.hid (show W7.cell? ⟨wa7.heap.size, 2, none⟩ = some (.slice la9 ls9.length lc9) from Y2.out)
    have C9_23 := Lib.hid (show W7.cell? ⟨wa7.heap.size, 3, none⟩ = some (.slice ea9 es9.length ec9) from Y3.out)
    have C9_24 := Lib.hid (show W7.cell? ⟨w.heap.size, 0, none⟩ = some (.int .i64 ver) from HKK7.out.cell G0.out (fun h => h))
    have C9_25 := Lib.hid (show W7.cell? ⟨w.heap.size, 1, none⟩ = some (.slice pa ps.length pc) from HKK7.out.cell G1.out (fun h => h))
    have C9_26 := Lib.hid (show W7.cell? ⟨w.heap.size, 2, none⟩ = some (.slice la ls.length lc) from HKK7.out.cell G2.out (fun h => h))
    have C9_27 := Lib.hid (show W7.cell? ⟨w.heap.size, 3, none⟩ = some (.slice ea es.length ec) from HKK7.out.cell G3.out (fun h => h))
    clear g0 g1 g2 g3
    have c9_0 := C9_0.out
    have c9_1 := C9_1.out
    have c9_2 := C9_2.out
    have c9_3 := C9_3.out
    have c9_4 := C9_4.out
    have c9_5 := C9_5.out
    have c9_6 := C9_6.out
    have c9_7 := C9_7.out
    have c9_8 := C9_8.out
    have c9_9 := C9_9.out
    have c9_10 := C9_10.out
    have c9_11 := C9_11.out
    have c9_12 := C9_12.out
    have c9_13 := C9_13.out
    have c9_14 := C9_14.out
    have c9_15 := C9_15.out
    have c9_16 := C9_16.out
    have c9_17 := C9_17.out
    have c9_18 := C9_18.out
    have c9_19 := C9_19.out
    have c9_20 := C9_20.out
    have c9_21 := C9_21.out
    have c9_22 := C9_22.out
    have c9_23 := C9_23.out
    have c9_24 := C9_24.out
    have c9_25 := C9_25.out
    have c9_26 := C9_26.out
    have c9_27 := C9_27.out
    have hb0 : wa3.heap.size < W7.heap.size := by omega
    have hb1 : wa4.heap.size < W7.heap.size := by omega
    have hb2 : wa4.heap.size + 1 < W7.heap.size := by omega
    have hb3 : wa5.heap.size < W7.heap.size := by omega
    have hb4 : wa6.heap.size < W7.heap.size := by omega
    have hb5 : wa6.heap.size + 1 < W7.heap.size := by omega
    have hb6 : wa7.heap.size < W7.heap.size := by omega
    go_upto_region 12 with (first
      | (go_at_call 14
         with_reducible refine (Same_h _ ?_ ?_ (HS6.out.symm.trans HS7.out)).mono ?_
         · exact (HH6.out.nil (HK4.out.step K47.out)).nil (by repeat (first | exact Kept.refl _ _ | assumption | refine Kept.drew ?_ | refine Kept.drewN ?_ _ | refine Kept.alloc ?_ _ | refine Kept.step ?_ (by assumption)))
         · exact (HH7.out.nil (HK5.out.step K57.out)).nil (by repeat (first | exact Kept.refl _ _ | assumption | refine Kept.drew ?_ | refine Kept.drewN ?_ _ | refine Kept.alloc ?_ _ | refine Kept.step ?_ (by assumption)))
         rintro e w71 ⟨rfl, hkw71⟩
         have hz : Kept Nil W7 w71 := (by repeat (first | exact Kept.refl _ _ | assumption | refine Kept.drew ?_ | refine Kept.drewN ?_ _ | refine Kept.alloc ?_ _ | refine Kept.step ?_ (by assumption)))
         have w71_0 := hz.cell C9_0.out (fun h => h)
         have w71_1 := hz.cell C9_1.out (fun h => h)
         have w71_2 := hz.cell C9_2.out (fun h => h)
         have w71_3 := hz.cell C9_3.out (fun h => h)
         have w71_4 := hz.cell C9_4.out (fun h => h)
         have w71_5 := hz.cell C9_5.out (fun h => h)
         have w71_6 := hz.cell C9_6.out (fun h => h)
         have w71_7 := hz.cell C9_7.out (fun h => h)
         have w71_8 := hz.cell C9_8.out (fun h => h)
         have w71_9 := hz.cell C9_9.out (fun h => h)
         have w71_10 := hz.cell C9_10.out (fun h => h)
         have w71_11 := hz.cell C9_11.out (fun h => h)
         have w71_12 := hz.cell C9_12.out (fun h => h)
         have w71_13 := hz.cell C9_13.out (fun h => h)
         have w71_14 := hz.cell C9_14.out (fun h => h)
         have w71_15 := hz.cell C9_15.out (fun h => h)
         have w71_16 := hz.cell C9_16.out (fun h => h)
         have w71_17 := hz.cell C9_17.out (fun h => h)
         have w71_18 := hz.cell C9_18.out (fun h => h)
         have w71_19 := hz.cell C9_19.out (fun h => h)
         have w71_20 := hz.cell C9_20.out (fun h => h)
         have w71_21 := hz.cell C9_21.out (fun h => h)
         have w71_22 := hz.cell C9_22.out (fun h => h)
         have w71_23 := hz.cell C9_23.out (fun h => h)
         have w71_24 := hz.cell C9_24.out (fun h => h)
         have w71_25 := hz.cell C9_25.out (fun h => h)
         have w71_26 := hz.cell C9_26.out (fun h => h)
         have w71_27 := hz.cell C9_27.out (fun h => h)
         clear hz)
      | (go_at_call 14
         with_reducible refine (Same_h _ ?_ ?_ (HS8.out.symm.trans HS9.out)).mono ?_
         · exact (HH8.out.nil (HK6.out.step K67.out)).nil (by repeat (first | exact Kept.refl _ _ | assumption | refine Kept.drew ?_ | refine Kept.drewN ?_ _ | refine Kept.alloc ?_ _ | refine Kept.step ?_ (by assumption)))
         · exact (HH9.out.nil HK7.out).nil (by repeat (first | exact Kept.refl _ _ | assumption | refine Kept.drew ?_ | refine Kept.drewN ?_ _ | refine Kept.alloc ?_ _ | refine Kept.step ?_ (by assumption)))
         rintro e w72 ⟨rfl, hkw72⟩
         have hz : Kept Nil W7 w72 := (by repeat (first | exact Kept.refl _ _ | assumption | refine Kept.drew ?_ | refine Kept.drewN ?_ _ | refine Kept.alloc ?_ _ | refine Kept.step ?_ (by assumption)))
         have w72_0 := hz.cell C9_0.out (fun h => h)
         have w72_1 := hz.cell C9_1.out (fun h => h)
         have w72_2 := hz.cell C9_2.out (fun h => h)
         have w72_3 := hz.cell C9_3.out (fun h => h)
         have w72_4 := hz.cell C9_4.out (fun h => h)
         have w72_5 := hz.cell C9_5.out (fun h => h)
         have w72_6 := hz.cell C9_6.out (fun h => h)
         have w72_7 := hz.cell C9_7.out (fun h => h)
         have w72_8 := hz.cell C9_8.out (fun h => h)
         have w72_9 := hz.cell C9_9.out (fun h => h)
         have w72_10 := hz.cell C9_10.out (fun h => h)
         have w72_11 := hz.cell C9_11.out (fun h => h)
         have w72_12 := hz.cell C9_12.out (fun h => h)
         have w72_13 := hz.cell C9_13.out (fun h => h)
         have w72_14 := hz.cell C9_14.out (fun h => h)
         have w72_15 := hz.cell C9_15.out (fun h => h)
         have w72_16 := hz.cell C9_16.out (fun h => h)
         have w72_17 := hz.cell C9_17.out (fun h => h)
         have w72_18 := hz.cell C9_18.out (fun h => h)
         have w72_19 := hz.cell C9_19.out (fun h => h)
         have w72_20 := hz.cell C9_20.out (fun h => h)
         have w72_21 := hz.cell C9_21.out (fun h => h)
         have w72_22 := hz.cell C9_22.out (fun h => h)
         have w72_23 := hz.cell C9_23.out (fun h => h)
         have w72_24 := hz.cell C9_24.out (fun h => h)
         have w72_25 := hz.cell C9_25.out (fun h => h)
         have w72_26 := hz.cell C9_26.out (fun h => h)
         have w72_27 := hz.cell C9_27.out (fun h => h)
         clear hz)
      | (go_at_call 14
         with_reducible refine (Same_h _ ?_ ?_ HS5.out.symm).mono ?_
         · exact (HH5.out.nil (HK3.out.step K37.out)).nil (by repeat (first | exact Kept.refl _ _ | assumption | refine Kept.drew ?_ | refine Kept.drewN ?_ _ | refine Kept.alloc ?_ _ | refine Kept.step ?_ (by assumption)))
         · exact HD7.out.nil (by repeat (first | exact Kept.refl _ _ | assumption | refine Kept.drew ?_ | refine Kept.drewN ?_ _ | refine Kept.alloc ?_ _ | refine Kept.step ?_ (by assumption)))
         rintro e w73 ⟨rfl, hkw73⟩
         have hz : Kept Nil W7 w73 := (by repeat (first | exact Kept.refl _ _ | assumption | refine Kept.drew ?_ | refine Kept.drewN ?_ _ | refine Kept.alloc ?_ _ | refine Kept.step ?_ (by assumption)))
         have w73_0 := hz.cell C9_0.out (fun h => h)
         have w73_1 := hz.cell C9_1.out (fun h => h)
         have w73_2 := hz.cell C9_2.out (fun h => h)
         have w73_3 := hz.cell C9_3.out (fun h => h)
         have w73_4 := hz.cell C9_4.out (fun h => h)
         have w73_5 := hz.cell C9_5.out (fun h => h)
         have w73_6 := hz.cell C9_6.out (fun h => h)
         have w73_7 := hz.cell C9_7.out (fun h => h)
         have w73_8 := hz.cell C9_8.out (fun h => h)
         have w73_9 := hz.cell C9_9.out (fun h => h)
         have w73_10 := hz.cell C9_10.out (fun h => h)
         have w73_11 := hz.cell C9_11.out (fun h => h)
         have w73_12 := hz.cell C9_12.out (fun h => h)
         have w73_13 := hz.cell C9_13.out (fun h => h)
         have w73_14 := hz.cell C9_14.out (fun h => h)
         have w73_15 := hz.cell C9_15.out (fun h => h)
         have w73_16 := hz.cell C9_16.out (fun h => h)
         have w73_17 := hz.cell C9_17.out (fun h => h)
         have w73_18 := hz.cell C9_18.out (fun h => h)
         have w73_19 := hz.cell C9_19.out (fun h => h)
         have w73_20 := hz.cell C9_20.out (fun h => h)
         have w73_21 := hz.cell C9_21.out (fun h => h)
         have w73_22 := hz.cell C9_22.out (fun h => h)
         have w73_23 := hz.cell C9_23.out (fun h => h)
         have w73_24 := hz.cell C9_24.out (fun h => h)
         have w73_25 := hz.cell C9_25.out (fun h => h)
         have w73_26 := hz.cell C9_26.out (fun h => h)
         have w73_27 := hz.cell C9_27.out (fun h => h)
         clear hz)
      )
    have hk73 : Kept Nil W7 w73 := (by repeat (first | exact Kept.refl _ _ | assumption | refine Kept.drew ?_ | refine Kept.drewN ?_ _ | refine Kept.alloc ?_ _ | refine Kept.step ?_ (by assumption)))
    have HKQ := Lib.hid (HKK7.out.step hk73)
    have hz73 := hk73.size
    have HDQ := Lib.hid (HD7.out.nil hk73)
    clear hk73 c9_0 c9_1 c9_2 c9_3 c9_4 c9_5 c9_6 c9_7 c9_8 c9_9 c9_10 c9_11 c9_12 c9_13 c9_14 c9_15 c9_16 c9_17 c9_18 c9_19 c9_20 c9_21 c9_22 c9_23 c9_24 c9_25 c9_26 c9_27 w71_0 w71_1 w71_2 w71_3 w71_4 w71_5 w71_6 w71_7 w71_8 w71_9 w71_10 w71_11 w71_12 w71_13 w71_14 w71_15 w71_16 w71_17 w71_18 w71_19 w71_20 w71_21 w71_22 w71_23 w71_24 w71_25 w71_26 w71_27 w72_0 w72_1 w72_2 w72_3 w72_4 w72_5 w72_6 w72_7 w72_8 w72_9 w72_10 w72_11 w72_12 w72_13 w72_14 w72_15 w72_16 w72_17 w72_18 w72_19 w72_20 w72_21 w72_22 w72_23 w72_24 w72_25 w72_26 w72_27 w73_0 w73_1 w73_2 w73_3 w73_4 w73_5 w73_6 w73_7 w73_8 w73_9 w73_10 w73_11 w73_12 w73_13 w73_14 w73_15 w73_16 w73_17 w73_18 w73_19 w73_20 w73_21 w73_22 w73_23 w73_24 w73_25 w73_26 w73_27
    have hgQ : w.heap.size < w73.heap.size := by omega
    have g0 := (HKQ.out).cell G0.out (fun h => h)
    have g1 := (HKQ.out).cell G1.out (fun h => h)
    have g2 := (HKQ.out).cell G2.out (fun h => h)
    have g3 := (HKQ.out).cell G3.out (fun h => h)
    have hways := ways_is ver ps ls es pa la ea pc lc ec 9 w73 HDQ.out
    go_wp2_with fail
    refine hways.mono ?_
    clear hways g0 g1 g2 g3
    rintro e w4 hE
    have HK44 := Lib.hid hE.k
    have HKR := Lib.hid (HKQ.out.step hE.k)
    have hz4 := hE.k.size
    obtain ⟨ws, v4, e4, ho4, hs4, hw4, hl4⟩ := hE.ok
    subst e4
    have hs5 : SameMs (waysL ⟨ver, pa, ps, pc, la, ls, lc, ea, es, ec⟩) ws := by
      have h9 := hs4
      rw [List.take_of_length_le (by have := waysL_len ⟨ver, pa, ps, pc, la, ls, lc, ea, es, ec⟩; simp only [Int.reduceToNat]; omega)] at h9
      exact h9
    obtain ⟨A4, c4, rfl, -, hA4, hrow4⟩ := ways_cells ho4
    obtain ⟨n, hn⟩ : ∃ n, ws.length = n := ⟨_, rfl⟩
    rw [hn]
    have hn3 : n ≤ 3 := by omega
    have HN := Lib.hid hn
    have HN3 := Lib.hid hn3
    have HSW := Lib.hid hs5
    have HW4 := Lib.hid hw4
    have HROW := Lib.hid hrow4
    have HDR := Lib.hid (HDQ.out.nil HK44.out)
    have HA4 := Lib.hid hA4
    clear hE ho4 hs4 hw4 hl4 hs5 hA4 hrow4 hn hn3
    have hgR : w.heap.size < w4.heap.size := by omega
    have g0 := (HKR.out).cell G0.out (fun h => h)
    have g1 := (HKR.out).cell G1.out (fun h => h)
    have g2 := (HKR.out).cell G2.out (fun h => h)
    have g3 := (HKR.out).cell G3.out (fun h => h)
    obtain ⟨WN, hW⟩ : ∃ W, (w4.alloc (.cells #[.int .i64 ver, .slice pa ps.length pc, .slice la ls.length lc, .slice ea es.length ec] 26)) = W := ⟨_, rfl⟩
    have hk : Kept Nil w4 WN := by rw [← hW]; exact ((Kept.refl Nil w4).alloc _)
    have hsz : WN.heap.size = w4.heap.size + 1 := by rw [← hW]; simp
    have hb : WN.heap[w4.heap.size]? = some (.cells #[.int .i64 ver, .slice pa ps.length pc, .slice la ls.length lc, .slice ea es.length ec] 26 (0, 0)) := by
      rw [← hW]
      have h9 := heap_new w4 (.cells #[.int .i64 ver, .slice pa ps.length pc, .slice la ls.length lc, .slice ea es.length ec] 26)
      exact h9
    have N0 := Lib.hid (show WN.cell? ⟨w4.heap.size, 0, none⟩ = some (.int .i64 ver) by rw [cell_of hb]; rfl)
    have N1 := Lib.hid (show WN.cell? ⟨w4.heap.size, 1, none⟩ = some (.slice pa ps.length pc) by rw [cell_of hb]; rfl)
    have N2 := Lib.hid (show WN.cell? ⟨w4.heap.size, 2, none⟩ = some (.slice la ls.length lc) by rw [cell_of hb]; rfl)
    have N3 := Lib.hid (show WN.cell? ⟨w4.heap.size, 3, none⟩ = some (.slice ea es.length ec) by rw [cell_of hb]; rfl)
    have NB := Lib.hid hb
    have hzn : w4.heap.size < WN.heap.size := by omega
    clear hb
    have HWN := Lib.hid hW
    have HKN := Lib.hid hk
    have HSZN := Lib.hid hsz
    clear hW hk hsz
    have hzN : w4.heap.size < WN.heap.size := by have := HSZN.out; omega
    go_upto_region 14 with fail
    rw [HWN.out]
    go_wp2_with fail
    clear g0 g1 g2 g3
    go_loopw [99] (fun i wr => ∃ (k : Nat) (ver6 : Int) (pa6 la6 ea6 : Option Addr) (ps6 : List Pr) (ls6 : List Lk) (es6 : List Ev) (pc6 lc6 ec6 : Nat), k ≤ n ∧ i = .int .i64 k ∧ wr.heap[w4.heap.size]? = some (.cells #[.int .i64 ver6, .slice pa6 ps6.length pc6, .slice la6 ls6.length lc6, .slice ea6 es6.length ec6] 26 (0, 0)) ∧ HeldM wr ⟨ver6, pa6, ps6, pc6, la6, ls6, lc6, ea6, es6, ec6⟩ ∧ OutM (fun j => j = w4.heap.size) ⟨ver6, pa6, ps6, pc6, la6, ls6, lc6, ea6, es6, ec6⟩ ∧ (∀ x, (waysL ⟨ver, pa, ps, pc, la, ls, lc, ea, es, ec⟩)[k]? = some x → SameM x ⟨ver6, pa6, ps6, pc6, la6, ls6, lc6, ea6, es6, ec6⟩) ∧ Kept (fun j => j = w4.heap.size) WN wr) (fun i _ => n - (intOf i).toNat)
    case atStart => exact ⟨0, _, _, _, _, _, _, _, _, _, _, Nat.zero_le _, rfl, NB.out, HDR.out.nil HKN.out, HDR.out.r.low.mono (fun i h => by omega), fun x hx => by (rcases Decidable.em ((mdCheck ⟨ver, pa, ps, pc, la, ls, lc, ea, es, ec⟩).1 = 0) with hc | hc; (rw [waysL_head (right_of hc)] at hx; cases hx; exact SameM.rfl' _); (have h9 := waysL_zero.2 hc; rw [List.eq_nil_of_length_eq_zero h9] at hx; simp at hx)), Kept.refl _ _⟩
    case round =>
      obtain ⟨k, ver6, pa6, la6, ea6, ps6, ls6, es6, pc6, lc6, ec6, hk, rfl, hnb, hh6, ho6, hs6, hK⟩ := hrel
      have HNB := Lib.hid hnb
      have HH6 := Lib.hid hh6
      have HO6 := Lib.hid ho6
      have HS6 := Lib.hid hs6
      have HKS := Lib.hid hK
      have hzs := hK.size
      have HKB := Lib.hid (show Kept Nil w4 wr from HKN.out.trans hK (fun i h => .inr (by omega)))
      have HKC := Lib.hid (HKR.out.step HKB.out)
      have hgS : w.heap.size < wr.heap.size := by omega
      have hnS : w4.heap.size < wr.heap.size := by omega
      clear hnb hh6 ho6 hs6 hK
      by_cases hlt : k < n
      · obtain ⟨y, ey⟩ : ∃ y, ws[k]? = some y := ⟨_, List.getElem?_eq_getElem (by rw [HN.out]; exact hlt)⟩
        obtain ⟨x, ex, hxy⟩ := HSW.out.get ey
        have hsx := HS6.out x ex
        have hck : (mdCheck ⟨ver, pa, ps, pc, la, ls, lc, ea, es, ec⟩).1 = 0 := by (rcases Decidable.em ((mdCheck ⟨ver, pa, ps, pc, la, ls, lc, ea, es, ec⟩).1 = 0) with hc | hc; exact hc; (have h9 := waysL_zero.2 hc; rw [List.eq_nil_of_length_eq_zero h9] at ex; simp at ex))
        have hst := waysL_step (right_of hck) ex
        have hyh := ((HW4.out y (List.mem_of_getElem? ey)).1).nil HKB.out
        obtain ⟨g, off, e1, c0, c1, c2, c3⟩ := rowOf_at (rowOf_nil mdCells_len HKB.out HROW.out) ey
        obtain ⟨ver8, pa8, ps8, pc8, la8, ls8, lc8, ea8, es8, ec8⟩ := y
        simp only at c0 c1 c2 c3
        have HYH := Lib.hid hyh
        have HYS := Lib.hid (hxy.symm.trans hsx)
        have HST := Lib.hid hst
        have HSX := Lib.hid hsx
        have hlt2 : (k : Int) < (n : Int) := by omega
        have hw : IntKind.i64.wrap ((k : Int) + 1) = (k : Int) + 1 := by rw [IntKind.wrap_i64]; have := HN3.out; omega
        have hgs : g < wr.heap.size := World.block_lt_of_cell? _ _ c0
        clear ey ex hxy hsx hck hst hyh
        subst e1
        obtain ⟨WL, hW⟩ : ∃ W, (wr.alloc (.cells #[.int .i64 ver8, .slice pa8 ps8.length pc8, .slice la8 ls8.length lc8, .slice ea8 es8.length ec8] 26)) = W := ⟨_, rfl⟩
        have hk : Kept Nil wr WL := by rw [← hW]; exact ((Kept.refl Nil wr).alloc _)
        have hsz : WL.heap.size = wr.heap.size + 1 := by rw [← hW]; simp
        have hb : WL.heap[wr.heap.size]? = some (.cells #[.int .i64 ver8, .slice pa8 ps8.length pc8, .slice la8 ls8.length lc8, .slice ea8 es8.length ec8] 26 (0, 0)) := by
          rw [← hW]
          have h9 := heap_new wr (.cells #[.int .i64 ver8, .slice pa8 ps8.length pc8, .slice la8 ls8.length lc8, .slice ea8 es8.length ec8] 26)
          exact h9
        have L0 := Lib.hid (show WL.cell? ⟨wr.heap.size, 0, none⟩ = some (.int .i64 ver8) by rw [cell_of hb]; rfl)
        have L1 := Lib.hid (show WL.cell? ⟨wr.heap.size, 1, none⟩ = some (.slice pa8 ps8.length pc8) by rw [cell_of hb]; rfl)
        have L2 := Lib.hid (show WL.cell? ⟨wr.heap.size, 2, none⟩ = some (.slice la8 ls8.length lc8) by rw [cell_of hb]; rfl)
        have L3 := Lib.hid (show WL.cell? ⟨wr.heap.size, 3, none⟩ = some (.slice ea8 es8.length ec8) by rw [cell_of hb]; rfl)
        have LB := Lib.hid hb
        have hzl : wr.heap.size < WL.heap.size := by omega
        clear hb
        have HWL := Lib.hid hW
        have HKL := Lib.hid hk
        have HSZL := Lib.hid hsz
        clear hW hk hsz
        have hzL : wr.heap.size < WL.heap.size := by have := HSZL.out; omega
        go_upto_region 17 with fail
        rw [HWL.out]
        clear c0 c1 c2 c3
        have l0 := L0.out
        have l1 := L1.out
        have l2 := L2.out
        have l3 := L3.out
        have HNL := Lib.hid (HKL.out.heap HNB.out (fun h => h))
        have hnL : w4.heap.size < WL.heap.size := by omega
        have n0 : WL.cell? ⟨w4.heap.size, 0, none⟩ = some (.int .i64 ver6) := by rw [cell_of HNL.out]; rfl
        have n1 : WL.cell? ⟨w4.heap.size, 1, none⟩ = some (.slice pa6 ps6.length pc6) := by rw [cell_of HNL.out]; rfl
        have n2 : WL.cell? ⟨w4.heap.size, 2, none⟩ = some (.slice la6 ls6.length lc6) := by rw [cell_of HNL.out]; rfl
        have n3 : WL.cell? ⟨w4.heap.size, 3, none⟩ = some (.slice ea6 es6.length ec6) := by rw [cell_of HNL.out]; rfl
        have hc := Same_h WL (HYH.out.nil HKL.out) (HH6.out.nil HKL.out) HYS.out
        go_wp2_with fail
        refine hc.mono ?_
        clear hc l0 l1 l2 l3 n0 n1 n2 n3
        rintro e w9 ⟨rfl, hk9⟩
        have HK9 := Lib.hid (HKL.out.step hk9)
        have hz9 := hk9.size
        clear hk9
        have HN9 := Lib.hid (HK9.out.heap HNB.out (fun h => h))
        have hn9 : w4.heap.size < w9.heap.size := by omega
        have n0 : w9.cell? ⟨w4.heap.size, 0, none⟩ = some (.int .i64 ver6) := by rw [cell_of HN9.out]; rfl
        have n1 : w9.cell? ⟨w4.heap.size, 1, none⟩ = some (.slice pa6 ps6.length pc6) := by rw [cell_of HN9.out]; rfl
        have n2 : w9.cell? ⟨w4.heap.size, 2, none⟩ = some (.slice la6 ls6.length lc6) := by rw [cell_of HN9.out]; rfl
        have n3 : w9.cell? ⟨w4.heap.size, 3, none⟩ = some (.slice ea6 es6.length ec6) := by rw [cell_of HN9.out]; rfl
        have hru := RefUp_is ver6 ps6 ls6 es6 pa6 la6 ea6 pc6 lc6 ec6 w9 (HH6.out.nil HK9.out)
        obtain ⟨z, hz⟩ : ∃ z, upF ⟨ver6, pa6, ps6, pc6, la6, ls6, lc6, ea6, es6, ec6⟩ = z := ⟨_, rfl⟩
        have HZ := Lib.hid hz
        clear hz
        go_wp2_with fail
        refine hru.mono ?_
        clear hru n0 n1 n2 n3
        rintro e wb hE
        have HKb := Lib.hid hE.k
        have hzb := hE.k.size
        obtain ⟨⟨ver7, pa7, ps7, pc7, la7, ls7, lc7, ea7, es7, ec7⟩, e7, hh7, hs7, hf7⟩ := hE.any
        rw [HZ.out] at e7
        subst e7
        have HH7B := Lib.hid hh7
        have HS7B := Lib.hid hs7
        have HF7B := Lib.hid hf7
        clear hE hh7 hs7 hf7
        obtain ⟨WZ, hW⟩ : ∃ W, (wb.alloc (.cells #[.int .i64 ver7, .slice pa7 ps7.length pc7, .slice la7 ls7.length lc7, .slice ea7 es7.length ec7] 26)) = W := ⟨_, rfl⟩
        have hk : Kept Nil wb WZ := by rw [← hW]; exact ((Kept.refl Nil wb).alloc _)
        have hsz : WZ.heap.size = wb.heap.size + 1 := by rw [← hW]; simp
        have hb : WZ.heap[wb.heap.size]? = some (.cells #[.int .i64 ver7, .slice pa7 ps7.length pc7, .slice la7 ls7.length lc7, .slice ea7 es7.length ec7] 26 (0, 0)) := by
          rw [← hW]
          have h9 := heap_new wb (.cells #[.int .i64 ver7, .slice pa7 ps7.length pc7, .slice la7 ls7.length lc7, .slice ea7 es7.length ec7] 26)
          exact h9
        have Z0 := Lib.hid (show WZ.cell? ⟨wb.heap.size, 0, none⟩ = some (.int .i64 ver7) by rw [cell_of hb]; rfl)
        have Z1 := Lib.hid (show WZ.cell? ⟨wb.heap.size, 1, none⟩ = some (.slice pa7 ps7.length pc7) by rw [cell_of hb]; rfl)
        have Z2 := Lib.hid (show WZ.cell? ⟨wb.heap.size, 2, none⟩ = some (.slice la7 ls7.length lc7) by rw [cell_of hb]; rfl)
        have Z3 := Lib.hid (show WZ.cell? ⟨wb.heap.size, 3, none⟩ = some (.slice ea7 es7.length ec7) by rw [cell_of hb]; rfl)
        have ZB := Lib.hid hb
        have hzz : wb.heap.size < WZ.heap.size := by omega
        clear hb
        have HWZ := Lib.hid hW
        have HKZ := Lib.hid hk
        have HSZZ := Lib.hid hsz
        clear hW hk hsz
        have hzZ : wb.heap.size < WZ.heap.size := by have := HSZZ.out; omega
        go_upto_region 20 with fail
        rw [HWZ.out]
        have HKZ2 := Lib.hid (show Kept Nil wr WZ from HK9.out.step (HKb.out.step HKZ.out))
        have HNZ := Lib.hid (HKZ2.out.heap HNB.out (fun h => h))
        have hnZ : w4.heap.size < WZ.heap.size := by omega
        have z0 := Z0.out
        have z1 := Z1.out
        have z2 := Z2.out
        have z3 := Z3.out
        have n0 : WZ.cell? ⟨w4.heap.size, 0, none⟩ = some (.int .i64 ver6) := by rw [cell_of HNZ.out]; rfl
        have n1 : WZ.cell? ⟨w4.heap.size, 1, none⟩ = some (.slice pa6 ps6.length pc6) := by rw [cell_of HNZ.out]; rfl
        have n2 : WZ.cell? ⟨w4.heap.size, 2, none⟩ = some (.slice la6 ls6.length lc6) := by rw [cell_of HNZ.out]; rfl
        have n3 : WZ.cell? ⟨w4.heap.size, 3, none⟩ = some (.slice ea6 es6.length ec6) := by rw [cell_of HNZ.out]; rfl
        have nf0 : WZ.frozen? ⟨w4.heap.size, 0, none⟩ = false := frozen_of HNZ.out 0
        have nf1 : WZ.frozen? ⟨w4.heap.size, 1, none⟩ = false := frozen_of HNZ.out 1
        have nf2 : WZ.frozen? ⟨w4.heap.size, 2, none⟩ = false := frozen_of HNZ.out 2
        have nf3 : WZ.frozen? ⟨w4.heap.size, 3, none⟩ = false := frozen_of HNZ.out 3
        have hzx : z = upF x := by rw [← HZ.out, upF_same HSX.out]
        have hll2 : (waysL ⟨ver, pa, ps, pc, la, ls, lc, ea, es, ec⟩).length = n := by rw [HSW.out.l]; exact HN.out
        have hbb : (z.1 == 0) = decide ((k : Int) + 1 < (n : Int)) := by
          have h9 := HST.out.u
          rw [hll2, ← hzx] at h9
          by_cases h8 : z.1 = 0
          · rw [h8]; have h7 := h9.1 h8; simp; omega
          · rw [beq_eq_false_iff_ne.2 h8]; symm; refine decide_eq_false (fun h7 => h8 (h9.2 (by omega)))
        have HBB2 := Lib.hid hbb
        have HZX := Lib.hid hzx
        have HLL := Lib.hid hll2
        clear hbb hzx hll2
        have hnx : ∀ y, (waysL ⟨ver, pa, ps, pc, la, ls, lc, ea, es, ec⟩)[k + 1]? = some y → SameM y ⟨ver7, pa7, ps7, pc7, la7, ls7, lc7, ea7, es7, ec7⟩ := fun y hy => by
          have h6 := (List.getElem?_eq_some_iff.1 hy).1
          have h7 := HST.out.u.2 h6
          rw [HST.out.n h7] at hy
          cases hy
          refine (upM_same HSX.out).trans ?_
          have h5 := HS7B.out
          unfold upA at h5
          rw [if_pos (by rw [HZ.out, HZX.out]; exact h7)] at h5
          exact h5
        have HNX := Lib.hid hnx
        clear hnx
        cases hb : decide ((k : Int) + 1 < (n : Int))
        · have hz0 : (z.1 == 0) = false := by rw [HBB2.out]; exact hb
          go_wp2_with fail
          obtain ⟨W9, hW9⟩ : ∃ W9, ((((WZ.setCell ⟨w4.heap.size, 0, none⟩ (.int .i64 ver7)).setCell ⟨w4.heap.size, 1, none⟩ (.slice pa7 ps7.length pc7)).setCell ⟨w4.heap.size, 2, none⟩ (.slice la7 ls7.length lc7)).setCell ⟨w4.heap.size, 3, none⟩ (.slice ea7 es7.length ec7)) = W9 := ⟨_, rfl⟩
          simp only [hW9]
          have hk9 : Kept (fun j => j = w4.heap.size) WZ W9 := by rw [← hW9]; exact ((((Kept.refl (fun j => j = w4.heap.size) WZ).setCell (.inl rfl) _).setCell (.inl rfl) _).setCell (.inl rfl) _).setCell (.inl rfl) _
          have hg9 : W9.heap[w4.heap.size]? = some (.cells #[.int .i64 ver7, .slice pa7 ps7.length pc7, .slice la7 ls7.length lc7, .slice ea7 es7.length ec7] 26 (0, 0)) := by rw [← hW9, heap_set (heap_set (heap_set (heap_set HNZ.out 0 _) 1 _) 2 _) 3 _]; rfl
          go_round
          refine ⟨k + 1, ver7, pa7, la7, ea7, ps7, ls7, es7, pc7, lc7, ec7, by omega, by go_num, hg9, (HH7B.out.nil HKZ.out).fresh HF7B.out hk9 (fun i hi h => by omega), HF7B.out.outB (fun i h => by omega), HNX.out, (HKS.out.step HKZ2.out).trans hk9 (fun i h => .inl h)⟩
          case measure => (simp [intOf] <;> omega)
        · have hz0 : (z.1 == 0) = true := by rw [HBB2.out]; exact hb
          go_wp2_with fail
          obtain ⟨W9, hW9⟩ : ∃ W9, ((((WZ.setCell ⟨w4.heap.size, 0, none⟩ (.int .i64 ver7)).setCell ⟨w4.heap.size, 1, none⟩ (.slice pa7 ps7.length pc7)).setCell ⟨w4.heap.size, 2, none⟩ (.slice la7 ls7.length lc7)).setCell ⟨w4.heap.size, 3, none⟩ (.slice ea7 es7.length ec7)) = W9 := ⟨_, rfl⟩
          simp only [hW9]
          have hk9 : Kept (fun j => j = w4.heap.size) WZ W9 := by rw [← hW9]; exact ((((Kept.refl (fun j => j = w4.heap.size) WZ).setCell (.inl rfl) _).setCell (.inl rfl) _).setCell (.inl rfl) _).setCell (.inl rfl) _
          have hg9 : W9.heap[w4.heap.size]? = some (.cells #[.int .i64 ver7, .slice pa7 ps7.length pc7, .slice la7 ls7.length lc7, .slice ea7 es7.length ec7] 26 (0, 0)) := by rw [← hW9, heap_set (heap_set (heap_set (heap_set HNZ.out 0 _) 1 _) 2 _) 3 _]; rfl
          go_round
          refine ⟨k + 1, ver7, pa7, la7, ea7, ps7, ls7, es7, pc7, lc7, ec7, by omega, by go_num, hg9, (HH7B.out.nil HKZ.out).fresh HF7B.out hk9 (fun i hi h => by omega), HF7B.out.outB (fun i h => by omega), HNX.out, (HKS.out.step HKZ2.out).trans hk9 (fun i h => .inl h)⟩
          case measure => (simp [intOf] <;> omega)
      · have hkl : k = n := by omega
        subst hkl
        clear hlt
        have g0 := (HKC.out).cell G0.out (fun h => h)
        have g1 := (HKC.out).cell G1.out (fun h => h)
        have g2 := (HKC.out).cell G2.out (fun h => h)
        have g3 := (HKC.out).cell G3.out (fun h => h)
        obtain ⟨F, hF⟩ : ∃ F, mdCheck ⟨ver, pa, ps, pc, la, ls, lc, ea, es, ec⟩ = F := ⟨_, rfl⟩
        have HDS := Lib.hid (HDR.out.nil HKB.out)
        have hck := RefCheck_h wr HDS.out
        rw [hF] at hck
        have HCK := Lib.hid hF
        clear hF
        go_wp2_with fail
        refine hck.mono ?_
        clear hck g0 g1 g2 g3
        rintro e w9 ⟨rfl, hk9⟩
        have HK9 := Lib.hid (HKC.out.step hk9)
        have hz9 := hk9.size
        have HDT := Lib.hid (HDS.out.nil hk9)
        clear hk9
        have hgT : w.heap.size < w9.heap.size := by omega
        have g0 := (HK9.out).cell G0.out (fun h => h)
        have g1 := (HK9.out).cell G1.out (fun h => h)
        have g2 := (HK9.out).cell G2.out (fun h => h)
        have g3 := (HK9.out).cell G3.out (fun h => h)
        have hz0 : (waysL ⟨ver, pa, ps, pc, la, ls, lc, ea, es, ec⟩).length = 0 ↔ F.1 ≠ 0 := by rw [← HCK.out]; exact waysL_zero
        rw [HSW.out.l, HN.out] at hz0
        have hb0 : ((k : Int) == 0) = (F.1 != 0) := by
          by_cases hf : F.1 = 0
          · have : k ≠ 0 := fun h => (hz0.1 h) hf
            simp [hf]; exact this
          · have : k = 0 := hz0.2 hf
            simp [hf, this]
        have HB0 := Lib.hid hb0
        clear hz0 hb0
        obtain ⟨a, ha⟩ : ∃ a : Nat, bits .and .i64 most 3 = (a : Int) := ⟨(most % 4).toNat, by rw [i64_and3]; omega⟩
        have ha3 : a ≤ 3 := by rw [i64_and3] at ha; omega
        have hways := ways_is ver ps ls es pa la ea pc lc ec (a : Int) w9 HDT.out
        obtain ⟨F1, hF1⟩ : ∃ F1, F.1 = F1 := ⟨_, rfl⟩
        have HB0b := Lib.hid (show ((k : Int) == 0) = (F1 != 0) by rw [← hF1]; exact HB0.out)
        rw [hF1]
        clear hF1 HB0
        cases hb : (F1 != 0)
        · have hk0 : ((k : Int) == 0) = false := by rw [HB0b.out]; exact hb
          go_wp2_with fail
          refine hways.mono ?_
          clear hways g0 g1 g2 g3
          rintro e w10 hE
          have HK10 := Lib.hid (HK9.out.step hE.k)
          obtain ⟨us, v5, e5, ho5, hs5, -, -⟩ := hE.ok
          subst e5
          have hl5 := hs5.l
          rw [List.length_take, HSW.out.l, HN.out, Int.toNat_natCast] at hl5
          obtain ⟨A5, c5, rfl, -, -, -⟩ := ways_cells ho5
          have hmin : min (a : Int) (k : Int) = (us.length : Int) := by rw [← hl5]; omega
          clear hE ho5 hs5 hl5
          go_wp2_with fail
          go_ret
          exact ⟨rfl, HK.out.step HK10.out⟩
        · have hk0 : ((k : Int) == 0) = true := by rw [HB0b.out]; exact hb
          go_wp2_with fail
          refine hways.mono ?_
          clear hways g0 g1 g2 g3
          rintro e w10 hE
          have HK10 := Lib.hid (HK9.out.step hE.k)
          obtain ⟨us, v5, e5, ho5, hs5, -, -⟩ := hE.ok
          subst e5
          have hl5 := hs5.l
          rw [List.length_take, HSW.out.l, HN.out, Int.toNat_natCast] at hl5
          obtain ⟨A5, c5, rfl, -, -, -⟩ := ways_cells ho5
          have hmin : min (a : Int) (k : Int) = (us.length : Int) := by rw [← hl5]; omega
          clear hE ho5 hs5 hl5
          go_wp2_with fail
          go_ret
          exact ⟨rfl, HK.out.step HK10.out⟩
theorem UpgradeUps_row (m : Md) (most : Int) (w : World) (hm : RModel w m) (ho : OkM m) (hmost : Sc.I64 most) :
    Calls Try.prog 3 #[m.val, .int .i64 most] w fun e w' => e = .returned (.bool true) ∧ RowKit.Below w.heap.size w w' :=
  (UpgradeUps_calls m most w hm ho hmost).mono fun e w' ⟨h1, h2⟩ => ⟨h1, h2.toBelow⟩
end Go.Proofs.Ythgbahlkflmgiaa.Mo
