/- The walk of upgrade.Latest. -/
import Derived.Test.YthgbahlkflmgiaaUp
import Derived.Test.YthgbahlkflmgiaaUpP
namespace Go.Proofs.Ythgbahlkflmgiaa.Mo
open Go Go.RowKit Go.Proofs.Ythgbahlkflmgiaa.Lb
set_option linter.unusedVariables false
set_option linter.unusedSimpArgs false
set_option maxRecDepth 8000
structure LatEnd (m : Md) (w : World) (e : Ending) (w' : World) : Prop where
  k : Kept Nil w w'
  bad : (latF m).1 ≠ 0 → e = .returned (.tuple #[.agg #[.int .i64 0, .slice none 0 0, .slice none 0 0, .slice none 0 0], .agg #[.int .i64 (latF m).1, .int .i64 (latF m).2]])
  ok : (latF m).1 = 0 → ∃ m' : Md, e = .returned (.tuple #[.agg #[.int .i64 m'.version, .slice m'.pa m'.ps.length m'.pc, .slice m'.la m'.ls.length m'.lc, .slice m'.ea m'.es.length m'.ec], .agg #[.int .i64 0, .int .i64 0]]) ∧ HeldM w' m' ∧ SameM (latM m) m' ∧ FreshM w.heap.size m' ∧ m'.version = 3 ∧ MdRight m'
theorem LatEnd.of_bad {m : Md} {w w' : World} {c d : Int} (hk : Kept Nil w w') (hF : latF m = (c, d)) (hc : c ≠ 0) : LatEnd m w (.returned (.tuple #[.agg #[.int .i64 0, .slice none 0 0, .slice none 0 0, .slice none 0 0], .agg #[.int .i64 c, .int .i64 d]])) w' :=
  ⟨hk, fun _ => by rw [hF], fun h => by rw [hF] at h; exact absurd h hc⟩
theorem LatEnd.of_ok {m m' : Md} {w w' : World} {e : Ending} (hk : Kept Nil w w') (hF : latF m = (0, 0)) (he : e = .returned (.tuple #[.agg #[.int .i64 m'.version, .slice m'.pa m'.ps.length m'.pc, .slice m'.la m'.ls.length m'.lc, .slice m'.ea m'.es.length m'.ec], .agg #[.int .i64 0, .int .i64 0]])) (hh : HeldM w' m') (hs : SameM (latM m) m') (hf : FreshM w.heap.size m') (hv : m'.version = 3) (hr : MdRight m') : LatEnd m w e w' :=
  ⟨hk, fun h => by rw [hF] at h; exact absurd rfl h, fun _ => ⟨m', he, hh, hs, hf, hv, hr⟩⟩
theorem FreshM.mono {a b : Nat} {m : Md} (h : FreshM b m) (hab : a ≤ b) : FreshM a m :=
  ⟨fun g off hn e => Nat.le_trans hab (h.p g off hn e), fun q hq => ⟨fun g off hn e => Nat.le_trans hab ((h.pp q hq).v g off hn e), fun g off hn e => Nat.le_trans hab ((h.pp q hq).s g off hn e)⟩, fun g off hn e => Nat.le_trans hab (h.l g off hn e), fun g off hn e => Nat.le_trans hab (h.e g off hn e)⟩
theorem HeldM.fresh {w w' : World} {m : Md} {b : Nat} {K : Nat → Prop} (h : HeldM w m) (hf : FreshM b m) (hk : Kept K w w') (hb : ∀ i, b ≤ i → ¬ K i) : HeldM w' m := ⟨h.r.fresh hf hk hb, h.o, h.s⟩
set_option maxHeartbeats 16000000 in
theorem Latest_is (ver : Int) (ps : List Pr) (ls : List Lk) (es : List Ev) (pa la ea : Option Addr) (pc lc ec : Nat) (w : World) (hm : HeldM w ⟨ver, pa, ps, pc, la, ls, lc, ea, es, ec⟩) :
    Calls Try.prog 12 #[.agg #[.int .i64 ver, .slice pa ps.length pc, .slice la ls.length lc, .slice ea es.length ec]] w fun e w' => LatEnd ⟨ver, pa, ps, pc, la, ls, lc, ea, es, ec⟩ w e w' := by
  have HM := Lib.hid hm
  clear hm
  obtain ⟨F, hF⟩ : ∃ F, mdCheck ⟨ver, pa, ps, pc, la, ls, lc, ea, es, ec⟩ = F := ⟨_, rfl⟩
  have HF := Lib.hid hF
  obtain ⟨W1, hW⟩ : ∃ W, (((w.alloc (.cells #[.int .i64 ver, .slice pa ps.length pc, .slice la ls.length lc, .slice ea es.length ec] 26)).alloc (.cells #[.int .i64 0, .slice none 0 0, .slice none 0 0, .slice none 0 0] 26)).alloc (.cells #[.int .i64 0, .int .i64 0] 32)) = W := ⟨_, rfl⟩
  have hk : Kept Nil w W1 := by rw [← hW]; exact ((((Kept.refl Nil w).alloc _).alloc _).alloc _)
  have hsz : W1.heap.size = w.heap.size + 3 := by rw [← hW]; simp
  have hb : W1.heap[w.heap.size]? = some (.cells #[.int .i64 ver, .slice pa ps.length pc, .slice la ls.length lc, .slice ea es.length ec] 26 (0, 0)) := by
    rw [← hW]
    rw [heap_old _ _ (by simp only [World.size_alloc]; omega)]
    rw [heap_old _ _ (by simp only [World.size_alloc]; omega)]
    have h9 := heap_new w (.cells #[.int .i64 ver, .slice pa ps.length pc, .slice la ls.length lc, .slice ea es.length ec] 26)
    exact h9
  have G0 := Lib.hid (show W1.cell? ⟨w.heap.size, 0, none⟩ = some (.int .i64 ver) by rw [cell_of hb]; rfl)
  have G1 := Lib.hid (show W1.cell? ⟨w.heap.size, 1, none⟩ = some (.slice pa ps.length pc) by rw [cell_of hb]; rfl)
  have G2 := Lib.hid (show W1.cell? ⟨w.heap.size, 2, none⟩ = some (.slice la ls.length lc) by rw [cell_of hb]; rfl)
  have G3 := Lib.hid (show W1.cell? ⟨w.heap.size, 3, none⟩ = some (.slice ea es.length ec) by rw [cell_of hb]; rfl)
  have GB := Lib.hid hb
  have hzg : w.heap.size < W1.heap.size := by omega
  clear hb
  have hb : W1.heap[w.heap.size + 1]? = some (.cells #[.int .i64 0, .slice none 0 0, .slice none 0 0, .slice none 0 0] 26 (0, 0)) := by
    rw [← hW]
    rw [heap_old _ _ (by simp only [World.size_alloc]; omega)]
    have h9 := heap_new (w.alloc (.cells #[.int .i64 ver, .slice pa ps.length pc, .slice la ls.length lc, .slice ea es.length ec] 26)) (.cells #[.int .i64 0, .slice none 0 0, .slice none 0 0, .slice none 0 0] 26)
    simp only [World.size_alloc] at h9
    exact h9
  have Q0 := Lib.hid (show W1.cell? ⟨w.heap.size + 1, 0, none⟩ = some (.int .i64 0) by rw [cell_of hb]; rfl)
  have Q1 := Lib.hid (show W1.cell? ⟨w.heap.size + 1, 1, none⟩ = some (.slice none 0 0) by rw [cell_of hb]; rfl)
  have Q2 := Lib.hid (show W1.cell? ⟨w.heap.size + 1, 2, none⟩ = some (.slice none 0 0) by rw [cell_of hb]; rfl)
  have Q3 := Lib.hid (show W1.cell? ⟨w.heap.size + 1, 3, none⟩ = some (.slice none 0 0) by rw [cell_of hb]; rfl)
  have QB := Lib.hid hb
  have hzq : w.heap.size + 1 < W1.heap.size := by omega
  clear hb
  have hb : W1.heap[w.heap.size + 1 + 1]? = some (.cells #[.int .i64 0, .int .i64 0] 32 (0, 0)) := by
    rw [← hW]
    have h9 := heap_new ((w.alloc (.cells #[.int .i64 ver, .slice pa ps.length pc, .slice la ls.length lc, .slice ea es.length ec] 26)).alloc (.cells #[.int .i64 0, .slice none 0 0, .slice none 0 0, .slice none 0 0] 26)) (.cells #[.int .i64 0, .int .i64 0] 32)
    simp only [World.size_alloc] at h9
    exact h9
  have Z0 := Lib.hid (show W1.cell? ⟨w.heap.size + 1 + 1, 0, none⟩ = some (.int .i64 0) by rw [cell_of hb]; rfl)
  have Z1 := Lib.hid (show W1.cell? ⟨w.heap.size + 1 + 1, 1, none⟩ = some (.int .i64 0) by rw [cell_of hb]; rfl)
  have ZB := Lib.hid hb
  have hzz : w.heap.size + 1 + 1 < W1.heap.size := by omega
  clear hb
  have HW := Lib.hid hW
  have HK := Lib.hid hk
  have HSZ := Lib.hid hsz
  clear hW hk hsz
  have hcall := Check_h W1 (HM.out.nil HK.out)
  rw [hF] at hcall
  clear hF
  go_enter Try.func12, Try.ntmps12
  go_wp2_with fail
  rw [HW.out]
  have g0 := ((Kept.refl Nil W1)).cell G0.out (fun h => h)
  have g1 := ((Kept.refl Nil W1)).cell G1.out (fun h => h)
  have g2 := ((Kept.refl Nil W1)).cell G2.out (fun h => h)
  have g3 := ((Kept.refl Nil W1)).cell G3.out (fun h => h)
  have q0 := ((Kept.refl Nil W1)).cell Q0.out (fun h => h)
  have q1 := ((Kept.refl Nil W1)).cell Q1.out (fun h => h)
  have q2 := ((Kept.refl Nil W1)).cell Q2.out (fun h => h)
  have q3 := ((Kept.refl Nil W1)).cell Q3.out (fun h => h)
  have z0 := ((Kept.refl Nil W1)).cell Z0.out (fun h => h)
  have z1 := ((Kept.refl Nil W1)).cell Z1.out (fun h => h)
  go_wp2_with fail
  refine hcall.mono ?_
  clear hcall
  rintro e w2 ⟨rfl, hk2⟩
  have HK2 := Lib.hid hk2
  have hz2 := hk2.size
  clear hk2 g0 g1 g2 g3 q0 q1 q2 q3 z0 z1
  obtain ⟨W3, hW⟩ : ∃ W, (w2.alloc (.cells #[.int .i64 F.1, .int .i64 F.2] 32)) = W := ⟨_, rfl⟩
  have hk : Kept Nil w2 W3 := by rw [← hW]; exact ((Kept.refl Nil w2).alloc _)
  have hsz : W3.heap.size = w2.heap.size + 1 := by rw [← hW]; simp
  have hb : W3.heap[w2.heap.size]? = some (.cells #[.int .i64 F.1, .int .i64 F.2] 32 (0, 0)) := by
    rw [← hW]
    have h9 := heap_new w2 (.cells #[.int .i64 F.1, .int .i64 F.2] 32)
    exact h9
  have F0 := Lib.hid (show W3.cell? ⟨w2.heap.size, 0, none⟩ = some (.int .i64 F.1) by rw [cell_of hb]; rfl)
  have F1 := Lib.hid (show W3.cell? ⟨w2.heap.size, 1, none⟩ = some (.int .i64 F.2) by rw [cell_of hb]; rfl)
  have FB := Lib.hid hb
  have hzf : w2.heap.size < W3.heap.size := by omega
  clear hb
  have HW3 := Lib.hid hW
  have HK3 := Lib.hid hk
  have HSZ3 := Lib.hid hsz
  clear hW hk hsz
  have HA3 := Lib.hid (show Kept Nil W1 W3 from HK2.out.step HK3.out)
  have hz3 : w2.heap.size < W3.heap.size := by have := HSZ3.out; omega
  have hsz1 : w.heap.size + 1 + 1 < W1.heap.size := by have := HSZ.out; omega
  by_cases hF0 : F.1 = 0
  · have fF : (F.1 != 0) = false := by simp [hF0]
    have hcheck : (mdCheck ⟨ver, pa, ps, pc, la, ls, lc, ea, es, ec⟩).1 = 0 := by rw [HF.out]; exact hF0
    have HR := Lib.hid (right_of hcheck)
    have HCK := Lib.hid hcheck
    have HV := Lib.hid (show 1 ≤ ver from by have := HR.out.v; simp only at this; omega)
    clear hF0 hcheck
    have f0 := F0.out
    have f1 := F1.out
    have g0 := (HA3.out).cell G0.out (fun h => h)
    have g1 := (HA3.out).cell G1.out (fun h => h)
    have g2 := (HA3.out).cell G2.out (fun h => h)
    have g3 := (HA3.out).cell G3.out (fun h => h)
    have q0 := (HA3.out).cell Q0.out (fun h => h)
    have q1 := (HA3.out).cell Q1.out (fun h => h)
    have q2 := (HA3.out).cell Q2.out (fun h => h)
    have q3 := (HA3.out).cell Q3.out (fun h => h)
    have z0 := (HA3.out).cell Z0.out (fun h => h)
    have z1 := (HA3.out).cell Z1.out (fun h => h)
    have gf0 : W3.frozen? ⟨w.heap.size, 0, none⟩ = false := HA3.out.frozen (p := ⟨w.heap.size, 0, none⟩) hzg (frozen_of GB.out 0) (fun h => h)
    have gf1 : W3.frozen? ⟨w.heap.size, 1, none⟩ = false := HA3.out.frozen (p := ⟨w.heap.size, 1, none⟩) hzg (frozen_of GB.out 1) (fun h => h)
    have gf2 : W3.frozen? ⟨w.heap.size, 2, none⟩ = false := HA3.out.frozen (p := ⟨w.heap.size, 2, none⟩) hzg (frozen_of GB.out 2) (fun h => h)
    have gf3 : W3.frozen? ⟨w.heap.size, 3, none⟩ = false := HA3.out.frozen (p := ⟨w.heap.size, 3, none⟩) hzg (frozen_of GB.out 3) (fun h => h)
    go_upto_region 4 with fail
    rw [HW3.out]
    clear f0 f1 fF
    have hh3 := HM.out.nil (HK.out.step HA3.out)
    have hown := own_is ver ps ls es pa la ea pc lc ec W3 hh3.r hh3.o hh3.s
    clear hh3
    go_wp2_with fail
    refine hown.mono ?_
    clear hown g0 g1 g2 g3 q0 q1 q2 q3 z0 z1
    rintro e w4 hE
    have hk4 := hE.k
    have hz4 := hk4.size
    obtain ⟨⟨v4, pa4, ps4, pc4, la4, ls4, lc4, ea4, es4, ec4⟩, e4, hr4, ho4, hs4, hf4⟩ := hE.ok
    subst e4
    have hv4 : ver = v4 := hs4.v
    have hl1 : ps.length = ps4.length := hs4.p.l
    have hl2 : ls.length = ls4.length := by have := hs4.l; simp only at this; rw [this]
    have hl3 : es.length = es4.length := by have := hs4.e; simp only at this; rw [this]
    have HHM := Lib.hid (show HeldM w4 ⟨v4, pa4, ps4, pc4, la4, ls4, lc4, ea4, es4, ec4⟩ from ⟨hr4, ho4, HM.out.s.same hs4⟩)
    have HS4 := Lib.hid hs4
    have HF4 := Lib.hid hf4
    have HK4 := Lib.hid hk4
    have HQ4 := Lib.hid (HK4.out.heap (HA3.out.heap QB.out (fun h => h)) (fun h => h))
    have HZ4 := Lib.hid (HK4.out.heap (HA3.out.heap ZB.out (fun h => h)) (fun h => h))
    have HG4 := Lib.hid (HK4.out.heap (HA3.out.heap GB.out (fun h => h)) (fun h => h))
    rw [hv4, hl1, hl2, hl3]
    clear hE hr4 ho4 hs4 hf4 hk4 hv4 hl1 hl2 hl3 gf0 gf1 gf2 gf3
    have g0 : w4.cell? ⟨w.heap.size, 0, none⟩ = some (.int .i64 ver) := by rw [cell_of HG4.out]; rfl
    have g1 : w4.cell? ⟨w.heap.size, 1, none⟩ = some (.slice pa ps.length pc) := by rw [cell_of HG4.out]; rfl
    have g2 : w4.cell? ⟨w.heap.size, 2, none⟩ = some (.slice la ls.length lc) := by rw [cell_of HG4.out]; rfl
    have g3 : w4.cell? ⟨w.heap.size, 3, none⟩ = some (.slice ea es.length ec) := by rw [cell_of HG4.out]; rfl
    have gf0 : w4.frozen? ⟨w.heap.size, 0, none⟩ = false := frozen_of HG4.out 0
    have gf1 : w4.frozen? ⟨w.heap.size, 1, none⟩ = false := frozen_of HG4.out 1
    have gf2 : w4.frozen? ⟨w.heap.size, 2, none⟩ = false := frozen_of HG4.out 2
    have gf3 : w4.frozen? ⟨w.heap.size, 3, none⟩ = false := frozen_of HG4.out 3
    go_upto_region 5 with fail
    obtain ⟨W5, hW5⟩ : ∃ W5, ((((w4.setCell ⟨w.heap.size, 0, none⟩ (.int .i64 v4)).setCell ⟨w.heap.size, 1, none⟩ (.slice pa4 ps4.length pc4)).setCell ⟨w.heap.size, 2, none⟩ (.slice la4 ls4.length lc4)).setCell ⟨w.heap.size, 3, none⟩ (.slice ea4 es4.length ec4)) = W5 := ⟨_, rfl⟩
    simp only [hW5]
    have hk5 : Kept (fun b => b = w.heap.size) w4 W5 := by rw [← hW5]; exact ((((Kept.refl (fun b => b = w.heap.size) w4).setCell (.inl rfl) _).setCell (.inl rfl) _).setCell (.inl rfl) _).setCell (.inl rfl) _
    have HG5 := Lib.hid (show W5.heap[w.heap.size]? = some (.cells #[.int .i64 v4, .slice pa4 ps4.length pc4, .slice la4 ls4.length lc4, .slice ea4 es4.length ec4] 26 (0, 0)) by rw [← hW5, heap_set (heap_set (heap_set (heap_set HG4.out 0 _) 1 _) 2 _) 3 _]; rfl)
    have HQ5 := Lib.hid (hk5.heap HQ4.out (by omega))
    have HZ5 := Lib.hid (hk5.heap HZ4.out (by omega))
    have HKW5 := Lib.hid (show Kept Nil w W5 from (HK.out.step (HA3.out.step HK4.out)).trans hk5 (fun i hi => .inr (by omega)))
    have HHM5 := Lib.hid (HHM.out.fresh HF4.out hk5 (fun i hi h => by omega))
    have hz5 : w4.heap.size ≤ W5.heap.size := hk5.size
    clear hW5 hk5 gf0 gf1 gf2 gf3 g0 g1 g2 g3
    go_loopw [19] (fun _ wr => ∃ (k : Nat) (v6 : Int) (pa6 la6 ea6 : Option Addr) (ps6 : List Pr) (ls6 : List Lk) (es6 : List Ev) (pc6 lc6 ec6 : Nat), wr.heap[w.heap.size]? = some (.cells #[.int .i64 v6, .slice pa6 ps6.length pc6, .slice la6 ls6.length lc6, .slice ea6 es6.length ec6] 26 (0, 0)) ∧ HeldM wr ⟨v6, pa6, ps6, pc6, la6, ls6, lc6, ea6, es6, ec6⟩ ∧ FreshM W1.heap.size ⟨v6, pa6, ps6, pc6, la6, ls6, lc6, ea6, es6, ec6⟩ ∧ Between ⟨ver, pa, ps, pc, la, ls, lc, ea, es, ec⟩ ⟨v6, pa6, ps6, pc6, la6, ls6, lc6, ea6, es6, ec6⟩ k ∧ Kept (fun b => b = w.heap.size) W5 wr) (fun _ wr => (3 - intOf ((wr.cell? ⟨w.heap.size, 0, none⟩).getD (.int .i64 0))).toNat)
    case atStart => exact ⟨3, _, _, _, _, _, _, _, _, _, _, HG5.out, HHM5.out, HF4.out.mono (by omega), Between.start HR.out HS4.out, Kept.refl _ _⟩
    case round =>
      obtain ⟨k, v6, pa6, la6, ea6, ps6, ls6, es6, pc6, lc6, ec6, hg6, hh6, hf6, hb6, hK⟩ := hrel
      have HG6 := Lib.hid hg6
      have HH6 := Lib.hid hh6
      have HF6 := Lib.hid hf6
      have HB6 := Lib.hid hb6
      have HKR := Lib.hid hK
      have hzr := hK.size
      have HQR := Lib.hid (hK.heap HQ5.out (by omega))
      have HZR := Lib.hid (hK.heap HZ5.out (by omega))
      have hx1 : w.heap.size < wr.heap.size := by omega
      have hx2 : w.heap.size + 1 < wr.heap.size := by omega
      have hx3 : w.heap.size + 1 + 1 < wr.heap.size := by omega
      have g0 : wr.cell? ⟨w.heap.size, 0, none⟩ = some (.int .i64 v6) := by rw [cell_of hg6]; rfl
      have g1 : wr.cell? ⟨w.heap.size, 1, none⟩ = some (.slice pa6 ps6.length pc6) := by rw [cell_of hg6]; rfl
      have g2 : wr.cell? ⟨w.heap.size, 2, none⟩ = some (.slice la6 ls6.length lc6) := by rw [cell_of hg6]; rfl
      have g3 : wr.cell? ⟨w.heap.size, 3, none⟩ = some (.slice ea6 es6.length ec6) := by rw [cell_of hg6]; rfl
      clear hg6 hh6 hf6 hb6 hK
      by_cases hlt : v6 < 3
      · have hup := Up_is v6 ps6 ls6 es6 pa6 la6 ea6 pc6 lc6 ec6 wr HH6.out
        obtain ⟨u, hu⟩ : ∃ u, upF ⟨v6, pa6, ps6, pc6, la6, ls6, lc6, ea6, es6, ec6⟩ = u := ⟨_, rfl⟩
        have HU := Lib.hid hu
        clear hu
        have HLT := Lib.hid hlt
        go_wp2_with fail
        refine hup.mono ?_
        clear hup hlt g0 g1 g2 g3
        rintro e w7 hE
        have HK7 := Lib.hid hE.k
        have hz7 := hE.k.size
        have HQ7 := Lib.hid (HK7.out.heap HQR.out (fun h => h))
        have HZ7 := Lib.hid (HK7.out.heap HZR.out (fun h => h))
        have HG7 := Lib.hid (HK7.out.heap HG6.out (fun h => h))
        by_cases hu0 : u.1 = 0
        · have fu : (u.1 != 0) = false := by simp [hu0]
          obtain ⟨⟨v8, pa8, ps8, pc8, la8, ls8, lc8, ea8, es8, ec8⟩, e8, hh8, hs8, hf8⟩ := hE.ok (by rw [HU.out]; exact hu0)
          subst e8
          have HH8 := Lib.hid hh8
          have HS8 := Lib.hid hs8
          have HF8 := Lib.hid hf8
          have HU0 := Lib.hid hu0
          clear hE hh8 hs8 hf8 hu0 fu
          obtain ⟨W8, hW⟩ : ∃ W, ((w7.alloc (.cells #[.int .i64 v8, .slice pa8 ps8.length pc8, .slice la8 ls8.length lc8, .slice ea8 es8.length ec8] 26)).alloc (.cells #[.int .i64 0, .int .i64 0] 32)) = W := ⟨_, rfl⟩
          have hk : Kept Nil w7 W8 := by rw [← hW]; exact (((Kept.refl Nil w7).alloc _).alloc _)
          have hsz : W8.heap.size = w7.heap.size + 2 := by rw [← hW]; simp
          have hb : W8.heap[w7.heap.size]? = some (.cells #[.int .i64 v8, .slice pa8 ps8.length pc8, .slice la8 ls8.length lc8, .slice ea8 es8.length ec8] 26 (0, 0)) := by
            rw [← hW]
            rw [heap_old _ _ (by simp only [World.size_alloc]; omega)]
            have h9 := heap_new w7 (.cells #[.int .i64 v8, .slice pa8 ps8.length pc8, .slice la8 ls8.length lc8, .slice ea8 es8.length ec8] 26)
            exact h9
          have N0 := Lib.hid (show W8.cell? ⟨w7.heap.size, 0, none⟩ = some (.int .i64 v8) by rw [cell_of hb]; rfl)
          have N1 := Lib.hid (show W8.cell? ⟨w7.heap.size, 1, none⟩ = some (.slice pa8 ps8.length pc8) by rw [cell_of hb]; rfl)
          have N2 := Lib.hid (show W8.cell? ⟨w7.heap.size, 2, none⟩ = some (.slice la8 ls8.length lc8) by rw [cell_of hb]; rfl)
          have N3 := Lib.hid (show W8.cell? ⟨w7.heap.size, 3, none⟩ = some (.slice ea8 es8.length ec8) by rw [cell_of hb]; rfl)
          have NB := Lib.hid hb
          have hzn : w7.heap.size < W8.heap.size := by omega
          clear hb
          have hb : W8.heap[w7.heap.size + 1]? = some (.cells #[.int .i64 0, .int .i64 0] 32 (0, 0)) := by
            rw [← hW]
            have h9 := heap_new (w7.alloc (.cells #[.int .i64 v8, .slice pa8 ps8.length pc8, .slice la8 ls8.length lc8, .slice ea8 es8.length ec8] 26)) (.cells #[.int .i64 0, .int .i64 0] 32)
            simp only [World.size_alloc] at h9
            exact h9
          have H0 := Lib.hid (show W8.cell? ⟨w7.heap.size + 1, 0, none⟩ = some (.int .i64 0) by rw [cell_of hb]; rfl)
          have H1 := Lib.hid (show W8.cell? ⟨w7.heap.size + 1, 1, none⟩ = some (.int .i64 0) by rw [cell_of hb]; rfl)
          have HB := Lib.hid hb
          have hzh : w7.heap.size + 1 < W8.heap.size := by omega
          clear hb
          have HW8 := Lib.hid hW
          have HK8 := Lib.hid hk
          have HSZ8 := Lib.hid hsz
          clear hW hk hsz
          have hz8 : w7.heap.size + 1 < W8.heap.size := by have := HSZ8.out; omega
          go_upto_region 7 with fail
          rw [HW8.out]
          have h0 := H0.out
          have n0 := N0.out
          have n1 := N1.out
          have n2 := N2.out
          have n3 := N3.out
          have HG8 := Lib.hid (HK8.out.heap HG7.out (fun h => h))
          have g0 : W8.cell? ⟨w.heap.size, 0, none⟩ = some (.int .i64 v6) := by rw [cell_of HG8.out]; rfl
          have g1 : W8.cell? ⟨w.heap.size, 1, none⟩ = some (.slice pa6 ps6.length pc6) := by rw [cell_of HG8.out]; rfl
          have g2 : W8.cell? ⟨w.heap.size, 2, none⟩ = some (.slice la6 ls6.length lc6) := by rw [cell_of HG8.out]; rfl
          have g3 : W8.cell? ⟨w.heap.size, 3, none⟩ = some (.slice ea6 es6.length ec6) := by rw [cell_of HG8.out]; rfl
          have gf0 : W8.frozen? ⟨w.heap.size, 0, none⟩ = false := frozen_of HG8.out 0
          have gf1 : W8.frozen? ⟨w.heap.size, 1, none⟩ = false := frozen_of HG8.out 1
          have gf2 : W8.frozen? ⟨w.heap.size, 2, none⟩ = false := frozen_of HG8.out 2
          have gf3 : W8.frozen? ⟨w.heap.size, 3, none⟩ = false := frozen_of HG8.out 3
          go_wp2_with fail
          obtain ⟨W9, hW9⟩ : ∃ W9, ((((W8.setCell ⟨w.heap.size, 0, none⟩ (.int .i64 v8)).setCell ⟨w.heap.size, 1, none⟩ (.slice pa8 ps8.length pc8)).setCell ⟨w.heap.size, 2, none⟩ (.slice la8 ls8.length lc8)).setCell ⟨w.heap.size, 3, none⟩ (.slice ea8 es8.length ec8)) = W9 := ⟨_, rfl⟩
          simp only [hW9]
          have hk9 : Kept (fun b => b = w.heap.size) W8 W9 := by rw [← hW9]; exact ((((Kept.refl (fun b => b = w.heap.size) W8).setCell (.inl rfl) _).setCell (.inl rfl) _).setCell (.inl rfl) _).setCell (.inl rfl) _
          have hg9 : W9.heap[w.heap.size]? = some (.cells #[.int .i64 v8, .slice pa8 ps8.length pc8, .slice la8 ls8.length lc8, .slice ea8 es8.length ec8] 26 (0, 0)) := by rw [← hW9, heap_set (heap_set (heap_set (heap_set HG8.out 0 _) 1 _) 2 _) 3 _]; rfl
          obtain ⟨j, hj, hb⟩ := HB6.out.next HV.out HLT.out (by rw [HU.out]; exact HU0.out) HS8.out
          have hvv : v6 + 1 = v8 := by have h1 := HB6.out.n; have h2 := hb.n; simp only at h1 h2; omega
          go_round
          refine ⟨j, v8, pa8, la8, ea8, ps8, ls8, es8, pc8, lc8, ec8, hg9, (HH8.out.nil HK8.out).fresh HF8.out hk9 (fun i hi h => by omega), HF8.out.mono (by omega), hb, (HKR.out.step (HK7.out.step HK8.out)).trans hk9 (fun i h => .inl h)⟩
          case measure => (have hc9 : W9.cell? ⟨w.heap.size, 0, none⟩ = some (.int .i64 v8) := by rw [cell_of hg9]; rfl); (have hc6 : wr.cell? ⟨w.heap.size, 0, none⟩ = some (.int .i64 v6) := by rw [cell_of HG6.out]; rfl); rw [hc9, hc6]; have := HLT.out; simp [intOf]; omega
        · have fu : (u.1 != 0) = true := by simp [hu0]
          have e8 := hE.bad (by rw [HU.out]; exact hu0)
          rw [HU.out] at e8
          subst e8
          have HU0 := Lib.hid hu0
          clear hE hu0
          obtain ⟨W8, hW⟩ : ∃ W, ((w7.alloc (.cells #[.int .i64 0, .slice none 0 0, .slice none 0 0, .slice none 0 0] 26)).alloc (.cells #[.int .i64 u.1, .int .i64 u.2] 32)) = W := ⟨_, rfl⟩
          have hk : Kept Nil w7 W8 := by rw [← hW]; exact (((Kept.refl Nil w7).alloc _).alloc _)
          have hsz : W8.heap.size = w7.heap.size + 2 := by rw [← hW]; simp
          have hb : W8.heap[w7.heap.size]? = some (.cells #[.int .i64 0, .slice none 0 0, .slice none 0 0, .slice none 0 0] 26 (0, 0)) := by
            rw [← hW]
            rw [heap_old _ _ (by simp only [World.size_alloc]; omega)]
            have h9 := heap_new w7 (.cells #[.int .i64 0, .slice none 0 0, .slice none 0 0, .slice none 0 0] 26)
            exact h9
          have N0 := Lib.hid (show W8.cell? ⟨w7.heap.size, 0, none⟩ = some (.int .i64 0) by rw [cell_of hb]; rfl)
          have N1 := Lib.hid (show W8.cell? ⟨w7.heap.size, 1, none⟩ = some (.slice none 0 0) by rw [cell_of hb]; rfl)
          have N2 := Lib.hid (show W8.cell? ⟨w7.heap.size, 2, none⟩ = some (.slice none 0 0) by rw [cell_of hb]; rfl)
          have N3 := Lib.hid (show W8.cell? ⟨w7.heap.size, 3, none⟩ = some (.slice none 0 0) by rw [cell_of hb]; rfl)
          have NB := Lib.hid hb
          have hzn : w7.heap.size < W8.heap.size := by omega
          clear hb
          have hb : W8.heap[w7.heap.size + 1]? = some (.cells #[.int .i64 u.1, .int .i64 u.2] 32 (0, 0)) := by
            rw [← hW]
            have h9 := heap_new (w7.alloc (.cells #[.int .i64 0, .slice none 0 0, .slice none 0 0, .slice none 0 0] 26)) (.cells #[.int .i64 u.1, .int .i64 u.2] 32)
            simp only [World.size_alloc] at h9
            exact h9
          have H0 := Lib.hid (show W8.cell? ⟨w7.heap.size + 1, 0, none⟩ = some (.int .i64 u.1) by rw [cell_of hb]; rfl)
          have H1 := Lib.hid (show W8.cell? ⟨w7.heap.size + 1, 1, none⟩ = some (.int .i64 u.2) by rw [cell_of hb]; rfl)
          have HB := Lib.hid hb
          have hzh : w7.heap.size + 1 < W8.heap.size := by omega
          clear hb
          have HW8 := Lib.hid hW
          have HK8 := Lib.hid hk
          have HSZ8 := Lib.hid hsz
          clear hW hk hsz
          have hz8 : w7.heap.size + 1 < W8.heap.size := by have := HSZ8.out; omega
          go_upto_region 7 with fail
          rw [HW8.out]
          have h0 := H0.out
          have h1 := H1.out
          have HQ8 := Lib.hid (HK8.out.heap HQ7.out (fun h => h))
          have HZ8 := Lib.hid (HK8.out.heap HZ7.out (fun h => h))
          have q0 : W8.cell? ⟨w.heap.size + 1, 0, none⟩ = some (.int .i64 0) := by rw [cell_of HQ8.out]; rfl
          have q1 : W8.cell? ⟨w.heap.size + 1, 1, none⟩ = some (.slice none 0 0) := by rw [cell_of HQ8.out]; rfl
          have q2 : W8.cell? ⟨w.heap.size + 1, 2, none⟩ = some (.slice none 0 0) := by rw [cell_of HQ8.out]; rfl
          have q3 : W8.cell? ⟨w.heap.size + 1, 3, none⟩ = some (.slice none 0 0) := by rw [cell_of HQ8.out]; rfl
          have qf0 : W8.frozen? ⟨w.heap.size + 1, 0, none⟩ = false := frozen_of HQ8.out 0
          have qf1 : W8.frozen? ⟨w.heap.size + 1, 1, none⟩ = false := frozen_of HQ8.out 1
          have qf2 : W8.frozen? ⟨w.heap.size + 1, 2, none⟩ = false := frozen_of HQ8.out 2
          have qf3 : W8.frozen? ⟨w.heap.size + 1, 3, none⟩ = false := frozen_of HQ8.out 3
          have z0 : W8.cell? ⟨w.heap.size + 1 + 1, 0, none⟩ = some (.int .i64 0) := by rw [cell_of HZ8.out]; rfl
          have z1 : W8.cell? ⟨w.heap.size + 1 + 1, 1, none⟩ = some (.int .i64 0) := by rw [cell_of HZ8.out]; rfl
          have zf0 : W8.frozen? ⟨w.heap.size + 1 + 1, 0, none⟩ = false := frozen_of HZ8.out 0
          have zf1 : W8.frozen? ⟨w.heap.size + 1 + 1, 1, none⟩ = false := frozen_of HZ8.out 1
          go_upto_region 8 with fail
          go_region
          all_goals (go_wp2_with fail)
          obtain ⟨wq, hwq⟩ : ∃ wq, ((((W8.setCell ⟨w.heap.size + 1, 0, none⟩ (.int .i64 0)).setCell ⟨w.heap.size + 1, 1, none⟩ (.slice none 0 0)).setCell ⟨w.heap.size + 1, 2, none⟩ (.slice none 0 0)).setCell ⟨w.heap.size + 1, 3, none⟩ (.slice none 0 0)) = wq := ⟨_, rfl⟩
          obtain ⟨we, hwe⟩ : ∃ we, ((wq.setCell ⟨w.heap.size + 1 + 1, 0, none⟩ (.int .i64 u.1)).setCell ⟨w.heap.size + 1 + 1, 1, none⟩ (.int .i64 u.2)).drew = we := ⟨_, rfl⟩
          simp only [hwq, hwe]
          have hqq : wq.heap[w.heap.size + 1]? = some (.cells #[.int .i64 0, .slice none 0 0, .slice none 0 0, .slice none 0 0] 26 (0, 0)) := by rw [← hwq, heap_set (heap_set (heap_set (heap_set HQ8.out 0 _) 1 _) 2 _) 3 _]; rfl
          have hzq : wq.heap[w.heap.size + 1 + 1]? = some (.cells #[.int .i64 0, .int .i64 0] 32 (0, 0)) := by rw [← hwq, heap_set_other (by simp), heap_set_other (by simp), heap_set_other (by simp), heap_set_other (by simp)]; exact HZ8.out
          have hqe : we.heap[w.heap.size + 1]? = some (.cells #[.int .i64 0, .slice none 0 0, .slice none 0 0, .slice none 0 0] 26 (0, 0)) := by rw [← hwe, heap_drew, heap_set_other (by simp), heap_set_other (by simp)]; exact hqq
          have hze : we.heap[w.heap.size + 1 + 1]? = some (.cells #[.int .i64 u.1, .int .i64 u.2] 32 (0, 0)) := by rw [← hwe, heap_drew, heap_set (heap_set hzq 0 _) 1 _]; rfl
          have hgk : Kept (fun b => b = w.heap.size + 1 ∨ b = w.heap.size + 1 + 1) W8 we := by rw [← hwe, ← hwq]; exact (((((((Kept.refl (fun b => b = w.heap.size + 1 ∨ b = w.heap.size + 1 + 1) W8).setCell (.inl (.inl rfl)) _).setCell (.inl (.inl rfl)) _).setCell (.inl (.inl rfl)) _).setCell (.inl (.inl rfl)) _).setCell (.inl (.inr rfl)) _).setCell (.inl (.inr rfl)) _).drew
          have hke : Kept Nil w we := (((HKW5.out.trans HKR.out (fun i hi => .inr (by omega))).step HK7.out).step HK8.out).trans hgk (fun i hi => .inr (by omega))
          have s0 : we.cell? ⟨w.heap.size + 1, 0, none⟩ = some (.int .i64 0) := by rw [cell_of hqe]; rfl
          have s1 : we.cell? ⟨w.heap.size + 1, 1, none⟩ = some (.slice none 0 0) := by rw [cell_of hqe]; rfl
          have s2 : we.cell? ⟨w.heap.size + 1, 2, none⟩ = some (.slice none 0 0) := by rw [cell_of hqe]; rfl
          have s3 : we.cell? ⟨w.heap.size + 1, 3, none⟩ = some (.slice none 0 0) := by rw [cell_of hqe]; rfl
          have t0 : we.cell? ⟨w.heap.size + 1 + 1, 0, none⟩ = some (.int .i64 u.1) := by rw [cell_of hze]; rfl
          have t1 : we.cell? ⟨w.heap.size + 1 + 1, 1, none⟩ = some (.int .i64 u.2) := by rw [cell_of hze]; rfl
          refine bodyPost_ret (v := .tuple #[.agg #[.int .i64 0, .slice none 0 0, .slice none 0 0, .slice none 0 0], .agg #[.int .i64 u.1, .int .i64 u.2]]) (by simp [results, Try.results12, go_sem, s0, s1, s2, s3, t0, t1]) rfl ?_
          exact LatEnd.of_bad hke (by rw [HB6.out.bad HV.out HCK.out HLT.out (by rw [HU.out]; exact HU0.out), HU.out]) HU0.out
      · have HNL := Lib.hid hlt
        have q0 : wr.cell? ⟨w.heap.size + 1, 0, none⟩ = some (.int .i64 0) := by rw [cell_of HQR.out]; rfl
        have q1 : wr.cell? ⟨w.heap.size + 1, 1, none⟩ = some (.slice none 0 0) := by rw [cell_of HQR.out]; rfl
        have q2 : wr.cell? ⟨w.heap.size + 1, 2, none⟩ = some (.slice none 0 0) := by rw [cell_of HQR.out]; rfl
        have q3 : wr.cell? ⟨w.heap.size + 1, 3, none⟩ = some (.slice none 0 0) := by rw [cell_of HQR.out]; rfl
        have qf0 : wr.frozen? ⟨w.heap.size + 1, 0, none⟩ = false := frozen_of HQR.out 0
        have qf1 : wr.frozen? ⟨w.heap.size + 1, 1, none⟩ = false := frozen_of HQR.out 1
        have qf2 : wr.frozen? ⟨w.heap.size + 1, 2, none⟩ = false := frozen_of HQR.out 2
        have qf3 : wr.frozen? ⟨w.heap.size + 1, 3, none⟩ = false := frozen_of HQR.out 3
        have z0 : wr.cell? ⟨w.heap.size + 1 + 1, 0, none⟩ = some (.int .i64 0) := by rw [cell_of HZR.out]; rfl
        have z1 : wr.cell? ⟨w.heap.size + 1 + 1, 1, none⟩ = some (.int .i64 0) := by rw [cell_of HZR.out]; rfl
        have zf0 : wr.frozen? ⟨w.heap.size + 1 + 1, 0, none⟩ = false := frozen_of HZR.out 0
        have zf1 : wr.frozen? ⟨w.heap.size + 1 + 1, 1, none⟩ = false := frozen_of HZR.out 1
        go_wp2_with fail
        obtain ⟨wq, hwq⟩ : ∃ wq, ((((wr.setCell ⟨w.heap.size + 1, 0, none⟩ (.int .i64 v6)).setCell ⟨w.heap.size + 1, 1, none⟩ (.slice pa6 ps6.length pc6)).setCell ⟨w.heap.size + 1, 2, none⟩ (.slice la6 ls6.length lc6)).setCell ⟨w.heap.size + 1, 3, none⟩ (.slice ea6 es6.length ec6)) = wq := ⟨_, rfl⟩
        obtain ⟨we, hwe⟩ : ∃ we, ((wq.setCell ⟨w.heap.size + 1 + 1, 0, none⟩ (.int .i64 0)).setCell ⟨w.heap.size + 1 + 1, 1, none⟩ (.int .i64 0)) = we := ⟨_, rfl⟩
        simp only [hwq, hwe]
        have hqq : wq.heap[w.heap.size + 1]? = some (.cells #[.int .i64 v6, .slice pa6 ps6.length pc6, .slice la6 ls6.length lc6, .slice ea6 es6.length ec6] 26 (0, 0)) := by rw [← hwq, heap_set (heap_set (heap_set (heap_set HQR.out 0 _) 1 _) 2 _) 3 _]; rfl
        have hzq : wq.heap[w.heap.size + 1 + 1]? = some (.cells #[.int .i64 0, .int .i64 0] 32 (0, 0)) := by rw [← hwq, heap_set_other (by simp), heap_set_other (by simp), heap_set_other (by simp), heap_set_other (by simp)]; exact HZR.out
        have hqe : we.heap[w.heap.size + 1]? = some (.cells #[.int .i64 v6, .slice pa6 ps6.length pc6, .slice la6 ls6.length lc6, .slice ea6 es6.length ec6] 26 (0, 0)) := by rw [← hwe, heap_set_other (by simp), heap_set_other (by simp)]; exact hqq
        have hze : we.heap[w.heap.size + 1 + 1]? = some (.cells #[.int .i64 0, .int .i64 0] 32 (0, 0)) := by rw [← hwe, heap_set (heap_set hzq 0 _) 1 _]; rfl
        have hgk : Kept (fun b => b = w.heap.size + 1 ∨ b = w.heap.size + 1 + 1) wr we := by rw [← hwe, ← hwq]; exact (((((((Kept.refl (fun b => b = w.heap.size + 1 ∨ b = w.heap.size + 1 + 1) wr).setCell (.inl (.inl rfl)) _).setCell (.inl (.inl rfl)) _).setCell (.inl (.inl rfl)) _).setCell (.inl (.inl rfl)) _).setCell (.inl (.inr rfl)) _).setCell (.inl (.inr rfl)) _)
        have hke : Kept Nil w we := (HKW5.out.trans HKR.out (fun i hi => .inr (by omega))).trans hgk (fun i hi => .inr (by omega))
        have s0 : we.cell? ⟨w.heap.size + 1, 0, none⟩ = some (.int .i64 v6) := by rw [cell_of hqe]; rfl
        have s1 : we.cell? ⟨w.heap.size + 1, 1, none⟩ = some (.slice pa6 ps6.length pc6) := by rw [cell_of hqe]; rfl
        have s2 : we.cell? ⟨w.heap.size + 1, 2, none⟩ = some (.slice la6 ls6.length lc6) := by rw [cell_of hqe]; rfl
        have s3 : we.cell? ⟨w.heap.size + 1, 3, none⟩ = some (.slice ea6 es6.length ec6) := by rw [cell_of hqe]; rfl
        have t0 : we.cell? ⟨w.heap.size + 1 + 1, 0, none⟩ = some (.int .i64 0) := by rw [cell_of hze]; rfl
        have t1 : we.cell? ⟨w.heap.size + 1 + 1, 1, none⟩ = some (.int .i64 0) := by rw [cell_of hze]; rfl
        refine bodyPost_ret (v := .tuple #[.agg #[.int .i64 v6, .slice pa6 ps6.length pc6, .slice la6 ls6.length lc6, .slice ea6 es6.length ec6], .agg #[.int .i64 0, .int .i64 0]]) (by simp [results, Try.results12, go_sem, s0, s1, s2, s3, t0, t1]) rfl ?_
        have hd := HB6.out.done HCK.out (by have := HNL.out; simp only; omega)
        refine LatEnd.of_ok (m' := ⟨v6, pa6, ps6, pc6, la6, ls6, lc6, ea6, es6, ec6⟩) hke hd.1 rfl (HH6.out.fresh HF6.out hgk (fun i hi h => by omega)) hd.2 (HF6.out.mono (by omega)) ?_ HB6.out.r
        have h1 := HB6.out.r.v
        have h2 := HNL.out
        simp only at h1 h2 ⊢
        omega
  · have fF : (F.1 != 0) = true := by simp [hF0]
    have HF0 := Lib.hid hF0
    clear hF0
    have f0 := F0.out
    have f1 := F1.out
    have g0 := (HA3.out).cell G0.out (fun h => h)
    have g1 := (HA3.out).cell G1.out (fun h => h)
    have g2 := (HA3.out).cell G2.out (fun h => h)
    have g3 := (HA3.out).cell G3.out (fun h => h)
    have q0 := (HA3.out).cell Q0.out (fun h => h)
    have q1 := (HA3.out).cell Q1.out (fun h => h)
    have q2 := (HA3.out).cell Q2.out (fun h => h)
    have q3 := (HA3.out).cell Q3.out (fun h => h)
    have z0 := (HA3.out).cell Z0.out (fun h => h)
    have z1 := (HA3.out).cell Z1.out (fun h => h)
    have qf0 : W3.frozen? ⟨w.heap.size + 1, 0, none⟩ = false := HA3.out.frozen (p := ⟨w.heap.size + 1, 0, none⟩) hzq (frozen_of QB.out 0) (fun h => h)
    have qf1 : W3.frozen? ⟨w.heap.size + 1, 1, none⟩ = false := HA3.out.frozen (p := ⟨w.heap.size + 1, 1, none⟩) hzq (frozen_of QB.out 1) (fun h => h)
    have qf2 : W3.frozen? ⟨w.heap.size + 1, 2, none⟩ = false := HA3.out.frozen (p := ⟨w.heap.size + 1, 2, none⟩) hzq (frozen_of QB.out 2) (fun h => h)
    have qf3 : W3.frozen? ⟨w.heap.size + 1, 3, none⟩ = false := HA3.out.frozen (p := ⟨w.heap.size + 1, 3, none⟩) hzq (frozen_of QB.out 3) (fun h => h)
    have zf0 : W3.frozen? ⟨w.heap.size + 1 + 1, 0, none⟩ = false := HA3.out.frozen (p := ⟨w.heap.size + 1 + 1, 0, none⟩) hzz (frozen_of ZB.out 0) (fun h => h)
    have zf1 : W3.frozen? ⟨w.heap.size + 1 + 1, 1, none⟩ = false := HA3.out.frozen (p := ⟨w.heap.size + 1 + 1, 1, none⟩) hzz (frozen_of ZB.out 1) (fun h => h)
    go_upto_region 3 with fail
    rw [HW3.out]
    go_region
    go_wp2_with fail
    obtain ⟨wq, hwq⟩ : ∃ wq, ((((W3.setCell ⟨w.heap.size + 1, 0, none⟩ (.int .i64 0)).setCell ⟨w.heap.size + 1, 1, none⟩ (.slice none 0 0)).setCell ⟨w.heap.size + 1, 2, none⟩ (.slice none 0 0)).setCell ⟨w.heap.size + 1, 3, none⟩ (.slice none 0 0)) = wq := ⟨_, rfl⟩
    obtain ⟨we, hwe⟩ : ∃ we, ((wq.setCell ⟨w.heap.size + 1 + 1, 0, none⟩ (.int .i64 F.1)).setCell ⟨w.heap.size + 1 + 1, 1, none⟩ (.int .i64 F.2)).drew = we := ⟨_, rfl⟩
    simp only [hwq, hwe]
    have hqq : wq.heap[w.heap.size + 1]? = some (.cells #[.int .i64 0, .slice none 0 0, .slice none 0 0, .slice none 0 0] 26 (0, 0)) := by rw [← hwq, heap_set (heap_set (heap_set (heap_set (HA3.out.heap QB.out (fun h => h)) 0 _) 1 _) 2 _) 3 _]; rfl
    have hzq : wq.heap[w.heap.size + 1 + 1]? = some (.cells #[.int .i64 0, .int .i64 0] 32 (0, 0)) := by rw [← hwq, heap_set_other (by simp), heap_set_other (by simp), heap_set_other (by simp), heap_set_other (by simp)]; exact (HA3.out.heap ZB.out (fun h => h))
    have hqe : we.heap[w.heap.size + 1]? = some (.cells #[.int .i64 0, .slice none 0 0, .slice none 0 0, .slice none 0 0] 26 (0, 0)) := by rw [← hwe, heap_drew, heap_set_other (by simp), heap_set_other (by simp)]; exact hqq
    have hze : we.heap[w.heap.size + 1 + 1]? = some (.cells #[.int .i64 F.1, .int .i64 F.2] 32 (0, 0)) := by rw [← hwe, heap_drew, heap_set (heap_set hzq 0 _) 1 _]; rfl
    have hgk : Kept (fun b => b = w.heap.size + 1 ∨ b = w.heap.size + 1 + 1) W3 we := by rw [← hwe, ← hwq]; exact (((((((Kept.refl (fun b => b = w.heap.size + 1 ∨ b = w.heap.size + 1 + 1) W3).setCell (.inl (.inl rfl)) _).setCell (.inl (.inl rfl)) _).setCell (.inl (.inl rfl)) _).setCell (.inl (.inl rfl)) _).setCell (.inl (.inr rfl)) _).setCell (.inl (.inr rfl)) _).drew
    have hke : Kept Nil w we := (HK.out.step HA3.out).trans hgk (fun i hi => .inr (by omega))
    have s0 : we.cell? ⟨w.heap.size + 1, 0, none⟩ = some (.int .i64 0) := by rw [cell_of hqe]; rfl
    have s1 : we.cell? ⟨w.heap.size + 1, 1, none⟩ = some (.slice none 0 0) := by rw [cell_of hqe]; rfl
    have s2 : we.cell? ⟨w.heap.size + 1, 2, none⟩ = some (.slice none 0 0) := by rw [cell_of hqe]; rfl
    have s3 : we.cell? ⟨w.heap.size + 1, 3, none⟩ = some (.slice none 0 0) := by rw [cell_of hqe]; rfl
    have t0 : we.cell? ⟨w.heap.size + 1 + 1, 0, none⟩ = some (.int .i64 F.1) := by rw [cell_of hze]; rfl
    have t1 : we.cell? ⟨w.heap.size + 1 + 1, 1, none⟩ = some (.int .i64 F.2) := by rw [cell_of hze]; rfl
    refine bodyPost_ret (v := .tuple #[.agg #[.int .i64 0, .slice none 0 0, .slice none 0 0, .slice none 0 0], .agg #[.int .i64 F.1, .int .i64 F.2]]) (by simp [results, Try.results12, go_sem, s0, s1, s2, s3, t0, t1]) rfl ?_
    exact LatEnd.of_bad hke (by unfold latF; rw [if_pos (by rw [HF.out]; exact HF0.out), HF.out]) HF0.out
end Go.Proofs.Ythgbahlkflmgiaa.Mo
