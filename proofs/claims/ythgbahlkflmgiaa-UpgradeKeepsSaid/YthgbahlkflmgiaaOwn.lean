/- The walk of upgrade.own. -/
import Derived.Test.YthgbahlkflmgiaaWeights
import Derived.Test.YthgbahlkflmgiaaSame
import Derived.Deep.RegionHeld3
namespace Go.Proofs.Ythgbahlkflmgiaa.Mo
open Go Go.RowKit Go.Proofs.Ythgbahlkflmgiaa.Lb
set_option linter.unusedVariables false
set_option linter.unusedSimpArgs false
set_option maxRecDepth 8000
/-- A process whose rows lie elsewhere than in block g, and in none from lo to hi. -/
structure ProcX (lo hi : Nat) (w : World) (g : Nat) (q : Pr) : Prop where
  r : RProc w q
  o : OkP q
  v : ∀ b off, q.vs ≠ [] → q.va = some ⟨b, off, none⟩ → b ≠ g ∧ (b < lo ∨ hi ≤ b)
  s : ∀ b off, q.ss ≠ [] → q.sa = some ⟨b, off, none⟩ → b ≠ g ∧ (b < lo ∨ hi ≤ b)
theorem ProcX.kept {lo hi : Nat} {w w' : World} {g : Nat} {q : Pr} (h : ProcX lo hi w g q) (hk : Kept (fun b => b = g) w w') : ProcX lo hi w' g q := ⟨h.r.kept hk (fun b off hn e => (h.v b off hn e).1) (fun b off hn e => (h.s b off hn e).1), h.o, h.v, h.s⟩
theorem ProcX.of {hi : Nat} {w : World} {g : Nat} {q : Pr} (h : RProc w q) (o : OkP q) (hg : w.heap.size ≤ g) : ProcX w.heap.size hi w g q := ⟨h, o, fun b off hn e => by have := h.v.low b off hn e; exact ⟨by omega, .inl this⟩, fun b off hn e => by have := h.s.low b off hn e; exact ⟨by omega, .inl this⟩⟩
/-- Rows that are new from block b on. -/
structure Fresh (b : Nat) (q : Pr) : Prop where
  v : ∀ g off, q.vs ≠ [] → q.va = some ⟨g, off, none⟩ → b ≤ g
  s : ∀ g off, q.ss ≠ [] → q.sa = some ⟨g, off, none⟩ → b ≤ g
structure FreshM (b : Nat) (m : Md) : Prop where
  p : ∀ g off, m.ps ≠ [] → m.pa = some ⟨g, off, none⟩ → b ≤ g
  pp : ∀ q ∈ m.ps, Fresh b q
  l : ∀ g off, m.ls ≠ [] → m.la = some ⟨g, off, none⟩ → b ≤ g
  e : ∀ g off, m.es ≠ [] → m.ea = some ⟨g, off, none⟩ → b ≤ g
theorem rowOf_kept {α : Type} {w w' : World} {A : Option Addr} {C : Nat} {cells : α → List Value} {l : List α} {K : Nat → Prop} (hC : ∀ a, (cells a).length = C) (hk : Kept K w w') (hn : ∀ b off, l ≠ [] → A = some ⟨b, off, none⟩ → ¬ K b) (h : RowOf w A C cells l) : RowOf w' A C cells l := by
  by_cases hne : l = []
  · exact .inl hne
  rcases h with h | ⟨b, off, e, hc⟩
  · exact .inl h
  · refine .inr ⟨b, off, e, fun j o hj c hcc => ?_⟩
    have h9 := hc j o hj c hcc
    have hv : (cells o)[c]? = some ((cells o)[c]'(by rw [hC]; exact hcc)) := List.getElem?_eq_getElem _
    rw [hv] at h9 ⊢
    exact hk.cell h9 (hn b off hne e)
theorem RModel.fresh {w w' : World} {m : Md} {b : Nat} {K : Nat → Prop} (h : RModel w m) (hf : FreshM b m) (hk : Kept K w w') (hb : ∀ i, b ≤ i → ¬ K i) : RModel w' m :=
  ⟨RProcs.ofRow (rowOf_kept prCells_len hk (fun g off hn e => hb g (hf.p g off hn e)) h.p.rowOf), fun q hq => (h.pp q hq).kept hk (fun g off hn e => hb g ((hf.pp q hq).v g off hn e)) (fun g off hn e => hb g ((hf.pp q hq).s g off hn e)),
    RLinks.ofRow (rowOf_kept lkCells_len hk (fun g off hn e => hb g (hf.l g off hn e)) h.l.rowOf), REvents.ofRow (rowOf_kept evCells_len hk (fun g off hn e => hb g (hf.e g off hn e)) h.e.rowOf), h.pl, h.ll, h.el⟩
/-- Rows that lie in no block of K. -/
structure OutP (K : Nat → Prop) (q : Pr) : Prop where
  v : ∀ g off, q.vs ≠ [] → q.va = some ⟨g, off, none⟩ → ¬ K g
  s : ∀ g off, q.ss ≠ [] → q.sa = some ⟨g, off, none⟩ → ¬ K g
structure OutM (K : Nat → Prop) (m : Md) : Prop where
  p : ∀ g off, m.ps ≠ [] → m.pa = some ⟨g, off, none⟩ → ¬ K g
  pp : ∀ q ∈ m.ps, OutP K q
  l : ∀ g off, m.ls ≠ [] → m.la = some ⟨g, off, none⟩ → ¬ K g
  e : ∀ g off, m.es ≠ [] → m.ea = some ⟨g, off, none⟩ → ¬ K g
theorem RModel.out {w w' : World} {m : Md} {K : Nat → Prop} (h : RModel w m) (hf : OutM K m) (hk : Kept K w w') : RModel w' m :=
  ⟨RProcs.ofRow (rowOf_kept prCells_len hk hf.p h.p.rowOf), fun q hq => (h.pp q hq).kept hk (hf.pp q hq).v (hf.pp q hq).s,
    RLinks.ofRow (rowOf_kept lkCells_len hk hf.l h.l.rowOf), REvents.ofRow (rowOf_kept evCells_len hk hf.e h.e.rowOf), h.pl, h.ll, h.el⟩
theorem rowOf_low {α : Type} {w : World} {A : Option Addr} {C : Nat} {cells : α → List Value} {l : List α} (hC : ∀ a, (cells a).length = C) (hpos : 0 < C) (h : RowOf w A C cells l) {b off : Nat} (hn : l ≠ []) (e : A = some ⟨b, off, none⟩) : b < w.heap.size := by
  rcases h with h | ⟨b', off', e', hc⟩
  · exact absurd h hn
  · rw [e] at e'; cases e'
    cases l with
    | nil => exact absurd rfl hn
    | cons o l =>
      have h9 := hc 0 o rfl 0 hpos
      rw [List.getElem?_eq_getElem (by rw [hC]; exact hpos)] at h9
      exact World.block_lt_of_cell? _ _ h9
theorem RModel.low {w : World} {m : Md} (h : RModel w m) : OutM (fun i => w.heap.size ≤ i) m :=
  ⟨fun g off hn e => by have := rowOf_low prCells_len (by decide) h.p.rowOf hn e; omega, fun q hq => ⟨fun g off hn e => by have := (h.pp q hq).v.low g off hn e; omega, fun g off hn e => by have := (h.pp q hq).s.low g off hn e; omega⟩,
    fun g off hn e => by have := rowOf_low lkCells_len (by decide) h.l.rowOf hn e; omega, fun g off hn e => by have := rowOf_low evCells_len (by decide) h.e.rowOf hn e; omega⟩
structure RowsP (lo hi : Nat) (w : World) (g k : Nat) (ps qs : List Pr) : Prop where
  s : SamePs ps qs
  x : ∀ q ∈ qs, ProcX lo hi w g q
  e : ∀ j, k ≤ j → qs[j]? = ps[j]?
  f : ∀ j q, j < k → qs[j]? = some q → Fresh hi q
theorem RowsP.kept {lo hi : Nat} {w w' : World} {g k : Nat} {ps qs : List Pr} (h : RowsP lo hi w g k ps qs) (hk : Kept (fun b => b = g) w w') : RowsP lo hi w' g k ps qs := ⟨h.s, fun q hq => (h.x q hq).kept hk, h.e, h.f⟩
theorem SamePs.refl (ps : List Pr) : SamePs ps ps := ⟨rfl, fun j p q h1 h2 => by rw [h1] at h2; cases h2; exact SameP.rfl' p⟩
theorem RowsP.set {lo hi : Nat} {w : World} {g k : Nat} {ps qs : List Pr} (h : RowsP lo hi w g k ps qs) {p p' : Pr} (hp : ps[k]? = some p) (hs : SameP p p') (hx : ProcX lo hi w g p') (hf : Fresh hi p') : RowsP lo hi w g (k + 1) ps (qs.set k p') := by
  have hk := (List.getElem?_eq_some_iff.1 hp).1
  refine ⟨⟨by rw [List.length_set]; exact h.s.l, fun j a b ha hb => ?_⟩, fun q hq => ?_, fun j hj => ?_, fun j q hj hq => ?_⟩
  · by_cases e : k = j
    · subst e
      rw [List.getElem?_set_self (by rw [← h.s.l]; exact hk)] at hb
      rw [hp] at ha; cases ha; cases hb; exact hs
    · rw [List.getElem?_set_ne e] at hb
      exact h.s.p j a b ha hb
  · rcases List.mem_or_eq_of_mem_set hq with h1 | h1
    · exact h.x q h1
    · rw [h1]; exact hx
  · rw [List.getElem?_set_ne (by omega)]
    exact h.e j (by omega)
  · by_cases e : k = j
    · subst e
      rw [List.getElem?_set_self (by rw [← h.s.l]; exact hk)] at hq
      cases hq; exact hf
    · rw [List.getElem?_set_ne e] at hq
      exact h.f j q (by omega) hq
structure OwnEnd (m : Md) (w : World) (e : Ending) (w' : World) : Prop where
  k : Kept Nil w w'
  ok : ∃ m' : Md, e = .returned (.agg #[.int .i64 m.version, .slice m'.pa m.ps.length m'.pc, .slice m'.la m.ls.length m'.lc, .slice m'.ea m.es.length m'.ec]) ∧ RModel w' m' ∧ OkM m' ∧ SameM m m' ∧ FreshM w.heap.size m'
/-- Bounds that slices.Clone asks for. -/
structure SmallM (m : Md) : Prop where
  p : m.ps.length ≤ 100000
  l : m.ls.length ≤ 100000
  e : m.es.length ≤ 100000
  v : ∀ p ∈ m.ps, p.vs.length ≤ 100000 ∧ p.ss.length ≤ 100000
set_option maxHeartbeats 16000000 in
theorem own_is (ver : Int) (ps : List Pr) (ls : List Lk) (es : List Ev) (pa la ea : Option Addr) (pc lc ec : Nat) (w : World) (hm : RModel w ⟨ver, pa, ps, pc, la, ls, lc, ea, es, ec⟩) (ho : OkM ⟨ver, pa, ps, pc, la, ls, lc, ea, es, ec⟩) (hs : SmallM ⟨ver, pa, ps, pc, la, ls, lc, ea, es, ec⟩) :
    Calls Try.prog 23 #[.agg #[.int .i64 ver, .slice pa ps.length pc, .slice la ls.length lc, .slice ea es.length ec]] w fun e w' => OwnEnd ⟨ver, pa, ps, pc, la, ls, lc, ea, es, ec⟩ w e w' := by
  have HM := Lib.hid hm
  have HO := Lib.hid ho
  have HS := Lib.hid hs
  have hpl : ps.length ≤ 100000 := hs.p
  have hll : ls.length ≤ 100000 := hs.l
  have hel : es.length ≤ 100000 := hs.e
  clear hm ho hs
  obtain ⟨W1, hW⟩ : ∃ W, ((w.alloc (.cells #[.int .i64 ver, .slice pa ps.length pc, .slice la ls.length lc, .slice ea es.length ec] 26)).alloc (.cells #[.int .i64 0, .slice none 0 0, .slice none 0 0, .slice none 0 0] 26)) = W := ⟨_, rfl⟩
  have hk : Kept Nil w W1 := by rw [← hW]; exact (((Kept.refl Nil w).alloc _).alloc _)
  have hsz : W1.heap.size = w.heap.size + 2 := by rw [← hW]; simp
  have hb : W1.heap[w.heap.size]? = some (.cells #[.int .i64 ver, .slice pa ps.length pc, .slice la ls.length lc, .slice ea es.length ec] 26 (0, 0)) := by
    rw [← hW]
    rw [heap_old _ _ (by simp only [World.size_alloc]; omega)]
    have h9 := heap_new w (.cells #[.int .i64 ver, .slice pa ps.length pc, .slice la ls.length lc, .slice ea es.length ec] 26)
    exact h9
  have G0 := Lib.hid (show W1.cell? ⟨w.heap.size, 0, none⟩ = some (.int .i64 ver) by rw [cell_of hb]; rfl)
  have G1 := Lib.hid (show W1.cell? ⟨w.heap.size, 1, none⟩ = some (.slice pa ps.length pc) by rw [cell_of hb]; rfl)
  have G2 := Lib.hid (show W1.cell? ⟨w.heap.size, 2, none⟩ = some (.slice la ls.length lc) by rw [cell_of hb]; rfl)
  have G3 := Lib.hid (show W1.cell? ⟨w.heap.size, 3, none⟩ = some (.slice ea es.length ec) by rw [cell_of hb]; rfl)
  have GB := Lib.hid hb
  have hzg : w.heap.size < W1.heap.size := by omega
  clear hb
  have hb : W1.heap[w.heap.size + 1]? = some (.cells #[.int .i64 0, .slice none 0 0, .slice none 0 0, .slice none 0 0] 26 (0, 0)) := by
    rw [← hW]
    have h9 := heap_new (w.alloc (.cells #[.int .i64 ver, .slice pa ps.length pc, .slice la ls.length lc, .slice ea es.length ec] 26)) (.cells #[.int .i64 0, .slice none 0 0, .slice none 0 0, .slice none 0 0] 26)
    simp only [World.size_alloc] at h9
    exact h9
  have Q0 := Lib.hid (show W1.cell? ⟨w.heap.size + 1, 0, none⟩ = some (.int .i64 0) by rw [cell_of hb]; rfl)
  have Q1 := Lib.hid (show W1.cell? ⟨w.heap.size + 1, 1, none⟩ = some (.slice none 0 0) by rw [cell_of hb]; rfl)
  have Q2 := Lib.hid (show W1.cell? ⟨w.heap.size + 1, 2, none⟩ = some (.slice none 0 0) by rw [cell_of hb]; rfl)
  have Q3 := Lib.hid (show W1.cell? ⟨w.heap.size + 1, 3, none⟩ = some (.slice none 0 0) by rw [cell_of hb]; rfl)
  have QB := Lib.hid hb
  have hzq : w.heap.size + 1 < W1.heap.size := by omega
  clear hb
  have HW := Lib.hid hW
  have HK := Lib.hid hk
  have HSZ := Lib.hid hsz
  clear hW hk hsz
  go_enter Try.func23, Try.ntmps23
  go_wp2_with fail
  rw [HW.out]
  have g0 := ((Kept.refl Nil W1)).cell G0.out (fun h => h)
  have g1 := ((Kept.refl Nil W1)).cell G1.out (fun h => h)
  have g2 := ((Kept.refl Nil W1)).cell G2.out (fun h => h)
  have g3 := ((Kept.refl Nil W1)).cell G3.out (fun h => h)
  have q0 := ((Kept.refl Nil W1)).cell Q0.out (fun h => h)
  have q1 := ((Kept.refl Nil W1)).cell Q1.out (fun h => h)
  have q2 := ((Kept.refl Nil W1)).cell Q2.out (fun h => h)
  have q3 := ((Kept.refl Nil W1)).cell Q3.out (fun h => h)
  go_upto_region 1 with fail
  go_cut [] from 5 to 16 (fun wx => ∃ A c B d E f n, wx.heap[w.heap.size]? = some (.cells #[.int .i64 ver, .slice A ps.length c, .slice B ls.length d, .slice E es.length f] 26 (0, 0)) ∧ NewRow W1.heap.size wx A 52 4 prCells ps ∧ NewRow n wx B 48 5 lkCells ls ∧ NewRow n wx E 57 3 evCells es ∧ W1.heap.size ≤ n ∧ (∀ g off, A = some ⟨g, off, none⟩ → g < n) ∧ (A = none → c = 0) ∧ (B = none → d = 0) ∧ (E = none → f = 0) ∧ ps.length ≤ c ∧ ls.length ≤ d ∧ es.length ≤ f ∧ Kept (fun b => b = w.heap.size) W1 wx)
  case first =>
    go_region_with (first
    | (go_at_call 42; with_reducible refine (CloneP_is ps pa pc W1.drew ?_ HO.out.pn hpl).mono ?_
       · exact rowOf_nil prCells_len HK.out.drew HM.out.p.rowOf
       rintro e w2 ⟨v2, rfl, hO2, hk2⟩
       have hk2b := (Kept.refl Nil W1).drew.step hk2
       have hz2 := hk2b.size
       have HO2 := Lib.hid hO2
       obtain ⟨A2, c2, rfl⟩ := own_slice hO2
       have HK2 := Lib.hid hk2b
       have m2 := hk2b.cell g2 (fun h => h)
       have m3 := hk2b.cell g3 (fun h => h)
       clear hO2 hk2 hk2b)
    | (go_at_call 40; with_reducible refine (CloneL_is ls la lc _ ?_ HO.out.ln hll).mono ?_
       · exact rowOf_nil lkCells_len (HK.out.step HK2.out) HM.out.l.rowOf
       rintro e w3 ⟨v3, rfl, hO3, hk3⟩
       have hk3b := HK2.out.step hk3
       have hz3 := hk3.size
       have HO3 := Lib.hid hO3
       obtain ⟨A3, c3, rfl⟩ := own_slice hO3
       have HK3 := Lib.hid hk3b
       have HK23 := Lib.hid hk3
       have l3 := hk3b.cell g3 (fun h => h)
       clear hO3 hk3 hk3b)
    | (go_at_call 43; with_reducible refine (CloneE_is es ea ec _ ?_ HO.out.en hel).mono ?_
       · exact rowOf_nil evCells_len (HK.out.step HK3.out) HM.out.e.rowOf
       rintro e w4 ⟨v4, rfl, hO4, hk4⟩
       have hk4b := HK3.out.step hk4
       have hz4 := hk4.size
       have HO4 := Lib.hid hO4
       obtain ⟨A4, c4, rfl⟩ := own_slice hO4
       have HK4 := Lib.hid hk4b
       have HK34 := Lib.hid hk4
       have hg4 : w.heap.size < w4.heap.size := by omega
       have j1 := hk4b.cell g1 (fun h => h)
       have j2 := hk4b.cell g2 (fun h => h)
       have j3 := hk4b.cell g3 (fun h => h)
       have n1 := hk4b.frozen (p := ⟨w.heap.size, 1, none⟩) hzg (frozen_of GB.out 1) (fun h => h)
       have n2 := hk4b.frozen (p := ⟨w.heap.size, 2, none⟩) hzg (frozen_of GB.out 2) (fun h => h)
       have n3 := hk4b.frozen (p := ⟨w.heap.size, 3, none⟩) hzg (frozen_of GB.out 3) (fun h => h)
       clear hO4 hk4 hk4b))
    all_goals (go_wp2_with fail)
    all_goals go_meet
    all_goals (refine ⟨A2, c2, A3, c3, A4, c4, w2.heap.size, ?_, ?_, ?_, ?_, hz2, (fun g off e => (HO2.out.lt g (by rw [e]; rfl)).2), cap_of_own HO2.out, cap_of_own HO3.out, cap_of_own HO4.out, le_of_own HO2.out, le_of_own HO3.out, le_of_own HO4.out, (((HK4.out.any (S := fun b => b = w.heap.size)).setCell (.inl rfl) _).setCell (.inl rfl) _).setCell (.inl rfl) _⟩)
    all_goals first
      | (rw [heap_set (heap_set (heap_set (HK4.out.heap GB.out (fun h => h)) 1 _) 2 _) 3 _]; rfl)
      | exact ((newRow_of_own (HK34.out.own (HK23.out.own HO2.out (fun _ _ h => h)) (fun _ _ h => h)) prCells_len (by decide)).kept ((((Kept.refl (fun b => b = w.heap.size) w4).setCell (.inl rfl) _).setCell (.inl rfl) _).setCell (.inl rfl) _) (fun i hi h => by have h8 := HSZ.out; have h7 : W1.heap.size ≤ i := hi; omega)).lower (Nat.le_refl _)
      | exact ((newRow_of_own (HK34.out.own HO3.out (fun _ _ h => h)) lkCells_len (by decide)).kept ((((Kept.refl (fun b => b = w.heap.size) w4).setCell (.inl rfl) _).setCell (.inl rfl) _).setCell (.inl rfl) _) (fun i hi h => by have h8 := HSZ.out; omega)).lower (Nat.le_refl _)
      | exact ((newRow_of_own HO4.out evCells_len (by decide)).kept ((((Kept.refl (fun b => b = w.heap.size) w4).setCell (.inl rfl) _).setCell (.inl rfl) _).setCell (.inl rfl) _) (fun i hi h => by have h8 := HSZ.out; omega)).lower hz3
  case rest =>
    obtain ⟨A, ca, B, cb, E, ce, nn, hG, hPR, hLR, hER, hnn, hlow, hca, hcb, hce, la1, lb1, le1, hkc⟩ := hcut
    have HG := Lib.hid hG
    have HPR := Lib.hid hPR
    have HLR := Lib.hid hLR
    have HER := Lib.hid hER
    have HLOW := Lib.hid hlow
    have HCA := Lib.hid hca
    have HCB := Lib.hid hcb
    have HCE := Lib.hid hce
    have HKC := Lib.hid hkc
    have hzc := hkc.size
    clear hG hPR hLR hER hlow hca hcb hce hkc g0 g1 g2 g3 q0 q1 q2 q3
    have HQ := Lib.hid (HKC.out.heap QB.out (by omega))
    have hsz9 := HSZ.out
    have hzw : w.heap.size + 1 < wc.heap.size := by omega
    have hrow : ∃ g, W1.heap.size ≤ g ∧ (ps ≠ [] → A = some ⟨g, 0, none⟩ ∧ RowAt wc g 52 4 prCells ps) := by
      by_cases hls : ps = []
      · exact ⟨W1.heap.size, Nat.le_refl _, fun h => absurd hls h⟩
      · obtain ⟨g, hb, e, hr⟩ := HPR.out hls
        exact ⟨g, hb, fun _ => ⟨e, hr⟩⟩
    obtain ⟨gg, hgb, hrow⟩ := hrow
    have HROW := Lib.hid hrow
    clear hrow
    have e0 : wc.cell? ⟨w.heap.size, 0, none⟩ = some (.int .i64 ver) := by rw [cell_of HG.out]; rfl
    have e1 : wc.cell? ⟨w.heap.size, 1, none⟩ = some (.slice A ps.length ca) := by rw [cell_of HG.out]; rfl
    have e2 : wc.cell? ⟨w.heap.size, 2, none⟩ = some (.slice B ls.length cb) := by rw [cell_of HG.out]; rfl
    have e3 : wc.cell? ⟨w.heap.size, 3, none⟩ = some (.slice E es.length ce) := by rw [cell_of HG.out]; rfl
    go_wp2_with fail
    clear e0 e1 e2 e3
    go_loopw [20] (fun i wr => ∃ (k : Nat) (qs : List Pr), k ≤ ps.length ∧ i = .int .i64 k ∧ RowsP w.heap.size W1.heap.size wr gg k ps qs ∧ (ps ≠ [] → RowAt wr gg 52 4 prCells qs) ∧ Kept (fun b => ps ≠ [] ∧ b = gg) wc wr) (fun i _ => ps.length - (intOf i).toNat)
    case atStart => exact ⟨0, ps, Nat.zero_le _, rfl, ⟨SamePs.refl ps, fun q hq => ((ProcX.of (HM.out.pp q hq) (HO.out.p q hq) (by omega) : ProcX w.heap.size W1.heap.size w gg q).kept (HK.out.any.trans HKC.out (fun i h => .inr (by omega)))), fun _ _ => rfl, fun j q hj => by omega⟩, fun h => (HROW.out h).2, Kept.refl _ _⟩
    case round =>
      obtain ⟨k, qs, hk, rfl, hqs, hrk, hK⟩ := hrel
      have HQS := Lib.hid hqs
      have HRK := Lib.hid hrk
      have HKR := Lib.hid hK
      have hzr := hK.size
      have HGR := Lib.hid (hK.heap HG.out (fun h => by have h9 := h.2; omega))
      have hx1 : w.heap.size < wr.heap.size := by omega
      have g0 : wr.cell? ⟨w.heap.size, 0, none⟩ = some (.int .i64 ver) := by rw [cell_of HGR.out]; rfl
      have g1 : wr.cell? ⟨w.heap.size, 1, none⟩ = some (.slice A ps.length ca) := by rw [cell_of HGR.out]; rfl
      have g2 : wr.cell? ⟨w.heap.size, 2, none⟩ = some (.slice B ls.length cb) := by rw [cell_of HGR.out]; rfl
      have g3 : wr.cell? ⟨w.heap.size, 3, none⟩ = some (.slice E es.length ce) := by rw [cell_of HGR.out]; rfl
      clear hrk hK hqs
      by_cases hlt : k < ps.length
      · obtain ⟨p, el⟩ : ∃ l, ps[k]? = some l := ⟨_, List.getElem?_eq_getElem hlt⟩
        have hne : ps ≠ [] := by intro h; rw [h] at hlt; simp at hlt
        have hA := (HROW.out hne).1
        have hrw := HRK.out hne
        have eq : qs[k]? = some p := by rw [HQS.out.e k (Nat.le_refl _)]; exact el
        have hx := HQS.out.x p (List.mem_of_getElem? eq)
        have hvs := HS.out.v p (List.mem_of_getElem? el)
        obtain ⟨pn, pw, va, vs, vc, sa, ss, sc⟩ := p
        have hvn := hx.o.vn
        have hsn := hx.o.sn
        simp only at hvs hvn hsn
        have HX := Lib.hid hx
        have HVN := Lib.hid hvn
        have HSN := Lib.hid hsn
        have hv1 := hvs.1
        have hv2 := hvs.2
        have c0 : wr.cell? ⟨gg, k * 4, none⟩ = some (.string pn) := hrw.cell eq (c := 0) (by decide)
        have c1 : wr.cell? ⟨gg, k * 4 + 1, none⟩ = some (.int .i64 pw) := hrw.cell eq (c := 1) (by decide)
        have c2 : wr.cell? ⟨gg, k * 4 + 2, none⟩ = some (.slice va vs.length vc) := hrw.cell eq (c := 2) (by decide)
        have c3 : wr.cell? ⟨gg, k * 4 + 3, none⟩ = some (.slice sa ss.length sc) := hrw.cell eq (c := 3) (by decide)
        have hgl := hrw.lt
        have HRW2 := Lib.hid hrw
        have EL := Lib.hid el
        have EQ := Lib.hid eq
        have hlt2 : (k : Int) < (ps.length : Int) := by omega
        have hw : IntKind.i64.wrap ((k : Int) + 1) = (k : Int) + 1 := by rw [IntKind.wrap_i64]; omega
        have HNE := Lib.hid hne
        clear el eq hrw hne hx hvs hvn hsn
        subst hA
        go_upto_region 5 with fail
        obtain ⟨W5, hW⟩ : ∃ W, (wr.alloc (.cells #[.string pn, .int .i64 pw, .slice va vs.length vc, .slice sa ss.length sc] 52)) = W := ⟨_, rfl⟩
        have hk : Kept Nil wr W5 := by rw [← hW]; exact ((Kept.refl Nil wr).alloc _)
        have hsz : W5.heap.size = wr.heap.size + 1 := by rw [← hW]; simp
        have hb : W5.heap[wr.heap.size]? = some (.cells #[.string pn, .int .i64 pw, .slice va vs.length vc, .slice sa ss.length sc] 52 (0, 0)) := by
          rw [← hW]
          have h9 := heap_new wr (.cells #[.string pn, .int .i64 pw, .slice va vs.length vc, .slice sa ss.length sc] 52)
          exact h9
        have B0 := Lib.hid (show W5.cell? ⟨wr.heap.size, 0, none⟩ = some (.string pn) by rw [cell_of hb]; rfl)
        have B1 := Lib.hid (show W5.cell? ⟨wr.heap.size, 1, none⟩ = some (.int .i64 pw) by rw [cell_of hb]; rfl)
        have B2 := Lib.hid (show W5.cell? ⟨wr.heap.size, 2, none⟩ = some (.slice va vs.length vc) by rw [cell_of hb]; rfl)
        have B3 := Lib.hid (show W5.cell? ⟨wr.heap.size, 3, none⟩ = some (.slice sa ss.length sc) by rw [cell_of hb]; rfl)
        have BB := Lib.hid hb
        have hzb : wr.heap.size < W5.heap.size := by omega
        clear hb
        have HW5 := Lib.hid hW
        have HK5 := Lib.hid hk
        have HSZ5 := Lib.hid hsz
        clear hW hk hsz
        rw [HW5.out]
        have hz5 := HSZ5.out
        have f1 := HK5.out.cell g1 (fun h => h)
        have b2 := B2.out
        have b3 := B3.out
        have d2 := HK5.out.cell c2 (fun h => h)
        have d3 := HK5.out.cell c3 (fun h => h)
        have df2 : W5.frozen? ⟨gg, k * 4 + 2, none⟩ = false := HK5.out.frozen (p := ⟨gg, k * 4 + 2, none⟩) hgl (HRW2.out.frozen _) (fun h => h)
        have df3 : W5.frozen? ⟨gg, k * 4 + 3, none⟩ = false := HK5.out.frozen (p := ⟨gg, k * 4 + 3, none⟩) hgl (HRW2.out.frozen _) (fun h => h)
        clear g0 g1 g2 g3 c0 c1 c2 c3
        have hgn : gg ≠ w.heap.size := by omega
        have hgn2 : gg ≠ wr.heap.size := by omega
        go_region_held3 (fun w' => w'.cell? ⟨w.heap.size, 1, none⟩ = some (.slice (some ⟨gg, 0, none⟩) ps.length ca) ∧ w'.cell? ⟨wr.heap.size, 2, none⟩ = some (.slice va vs.length vc) ∧ w'.cell? ⟨wr.heap.size, 3, none⟩ = some (.slice sa ss.length sc)) (go_keep) (first
          | (go_at_call 44; with_reducible refine (CloneV_is vs va vc _ ?_ HVN.out hv1).mono ?_
             · exact rowOf_nil vrCells_len HK5.out.drew (RVars.rowOf HX.out.r.v)
             rintro e w6 ⟨v6, rfl, hO6, hk6⟩
             have hk6b := (Kept.refl Nil W5).drew.step hk6
             have hz6 := hk6b.size
             have HO6 := Lib.hid hO6
             obtain ⟨A6, c6, rfl⟩ := own_slice hO6
             have HK6 := Lib.hid hk6b
             have m1 := hk6b.cell f1 (fun h => h)
             have m2 := hk6b.cell b2 (fun h => h)
             have m3 := hk6b.cell b3 (fun h => h)
             clear hO6 hk6 hk6b)
          | (go_at_call 45; with_reducible refine (CloneS_is ss sa sc _ ?_ HSN.out hv2).mono ?_
             · exact rowOf_nil stCells_len (HK5.out.step HK6.out) (RSteps.rowOf HX.out.r.s)
             rintro e w7 ⟨v7, rfl, hO7, hk7⟩
             have hk7b := HK6.out.step hk7
             have hz7 := hk7.size
             have HO7 := Lib.hid hO7
             obtain ⟨A7, c7, rfl⟩ := own_slice hO7
             have HK7 := Lib.hid hk7b
             have HK67 := Lib.hid hk7
             have l1 := hk7b.cell f1 (fun h => h)
             have l2 := hk7b.cell b2 (fun h => h)
             have l3 := hk7b.cell b3 (fun h => h)
             have s2 := hk7b.cell d2 (fun h => h)
             have s3 := hk7b.cell d3 (fun h => h)
             have sf2 := hk7b.frozen (p := ⟨gg, k * 4 + 2, none⟩) (show gg < W5.heap.size by omega) df2 (fun h => h)
             have sf3 := hk7b.frozen (p := ⟨gg, k * 4 + 3, none⟩) (show gg < W5.heap.size by omega) df3 (fun h => h)
             clear hO7 hk7 hk7b))
        go_wp2_with fail
        go_round
        obtain ⟨wz, hwz⟩ : ∃ x, ((w7.setCell ⟨gg, k * 4 + 2, none⟩ (.slice A6 vs.length c6)).setCell ⟨gg, k * 4 + 3, none⟩ (.slice A7 ss.length c7)) = x := ⟨_, rfl⟩
        rw [hwz]
        have hkz : Kept (fun b => b = gg) w7 wz := by rw [← hwz]; exact ((Kept.refl (fun b => b = gg) w7).setCell (.inl rfl) _).setCell (.inl rfl) _
        have hkz2 : Kept (fun b => b = gg) wr wz := (HK5.out.step HK7.out).any.trans hkz (fun i h => .inl h)
        have hN6 := (newRow_of_own (HK67.out.own HO6.out (fun _ _ h => h)) vrCells_len (by decide)).kept hkz (fun i hi h => by have h7 : W5.heap.size ≤ i := hi; omega)
        have hN7 := (newRow_of_own HO7.out stCells_len (by decide)).kept hkz (fun i hi h => by omega)
        have hpx : ProcX w.heap.size W1.heap.size wz gg ⟨pn, pw, A6, vs, c6, A7, ss, c7⟩ := by
          refine ⟨⟨RVars.ofRow hN6.row, RSteps.ofRow hN7.row, HX.out.r.vl, HX.out.r.sl, HX.out.r.si⟩, ⟨HX.out.o.n, HX.out.o.w, HX.out.o.v, HX.out.o.s, le_of_own HO6.out, cap_of_own HO6.out, le_of_own HO7.out, cap_of_own HO7.out⟩, fun b off hn e => ?_, fun b off hn e => ?_⟩
          · obtain ⟨g9, h1, h2, _⟩ := hN6 hn
            have h7 : W5.heap.size ≤ g9 := h1
            simp only at e
            rw [e] at h2; cases h2; exact ⟨by omega, .inr (by omega)⟩
          · obtain ⟨g9, h1, h2, _⟩ := hN7 hn
            simp only at e
            rw [e] at h2; cases h2; exact ⟨by omega, .inr (by omega)⟩
        have hfr : Fresh W1.heap.size ⟨pn, pw, A6, vs, c6, A7, ss, c7⟩ := by
          refine ⟨fun b off hn e => ?_, fun b off hn e => ?_⟩
          · obtain ⟨g9, h1, h2, _⟩ := hN6 hn
            have h7 : W5.heap.size ≤ g9 := h1
            simp only at e
            rw [e] at h2; cases h2; omega
          · obtain ⟨g9, h1, h2, _⟩ := hN7 hn
            simp only at e
            rw [e] at h2; cases h2; omega
        refine ⟨k + 1, qs.set k ⟨pn, pw, A6, vs, c6, A7, ss, c7⟩, by omega, rfl, (HQS.out.kept hkz2).set EL.out ⟨rfl, rfl, rfl, rfl⟩ hpx hfr, fun _ => ?_, HKR.out.trans hkz2 (fun i h => .inl ⟨HNE.out, h⟩)⟩
        · have h1 := (HRW2.out.kept (HK5.out.step HK7.out) (fun h => h)).set prCells_len EQ.out (o' := ⟨pn, pw, A6, vs, c6, sa, ss, sc⟩) (c := 2) (by decide) (u := .slice A6 vs.length c6) rfl
          have hkl := (List.getElem?_eq_some_iff.1 EQ.out).1
          have h2 := h1.set prCells_len (List.getElem?_set_self hkl) (o' := ⟨pn, pw, A6, vs, c6, A7, ss, c7⟩) (c := 3) (by decide) (u := .slice A7 ss.length c7) rfl
          rw [List.set_set, hwz] at h2
          exact h2
        case measure => (simp [intOf] <;> omega)
      · have hkl : k = ps.length := by omega
        subst hkl
        have HQ5 := Lib.hid (HKR.out.heap HQ.out (fun h => by have h9 := h.2; omega))
        have q0 : wr.cell? ⟨w.heap.size + 1, 0, none⟩ = some (.int .i64 0) := by rw [cell_of HQ5.out]; rfl
        have qf0 : wr.frozen? ⟨w.heap.size + 1, 0, none⟩ = false := frozen_of HQ5.out 0
        have q1 : wr.cell? ⟨w.heap.size + 1, 1, none⟩ = some (.slice none 0 0) := by rw [cell_of HQ5.out]; rfl
        have qf1 : wr.frozen? ⟨w.heap.size + 1, 1, none⟩ = false := frozen_of HQ5.out 1
        have q2 : wr.cell? ⟨w.heap.size + 1, 2, none⟩ = some (.slice none 0 0) := by rw [cell_of HQ5.out]; rfl
        have qf2 : wr.frozen? ⟨w.heap.size + 1, 2, none⟩ = false := frozen_of HQ5.out 2
        have q3 : wr.cell? ⟨w.heap.size + 1, 3, none⟩ = some (.slice none 0 0) := by rw [cell_of HQ5.out]; rfl
        have qf3 : wr.frozen? ⟨w.heap.size + 1, 3, none⟩ = false := frozen_of HQ5.out 3
        go_wp2_with fail
        obtain ⟨wq, hwq⟩ : ∃ wq, ((((wr.setCell ⟨w.heap.size + 1, 0, none⟩ (.int .i64 ver)).setCell ⟨w.heap.size + 1, 1, none⟩ (.slice A ps.length ca)).setCell ⟨w.heap.size + 1, 2, none⟩ (.slice B ls.length cb)).setCell ⟨w.heap.size + 1, 3, none⟩ (.slice E es.length ce)) = wq := ⟨_, rfl⟩
        simp only [hwq]
        have hqq : wq.heap[w.heap.size + 1]? = some (.cells #[.int .i64 ver, .slice A ps.length ca, .slice B ls.length cb, .slice E es.length ce] 26 (0, 0)) := by rw [← hwq, heap_set (heap_set (heap_set (heap_set HQ5.out 0 _) 1 _) 2 _) 3 _]; rfl
        have hkq : Kept (fun b => b = w.heap.size + 1) wr wq := by rw [← hwq]; exact ((((Kept.refl (fun b => b = w.heap.size + 1) wr).setCell (.inl rfl) _).setCell (.inl rfl) _).setCell (.inl rfl) _).setCell (.inl rfl) _
        have s0 : wq.cell? ⟨w.heap.size + 1, 0, none⟩ = some (.int .i64 ver) := by rw [cell_of hqq]; rfl
        have s1 : wq.cell? ⟨w.heap.size + 1, 1, none⟩ = some (.slice A ps.length ca) := by rw [cell_of hqq]; rfl
        have s2 : wq.cell? ⟨w.heap.size + 1, 2, none⟩ = some (.slice B ls.length cb) := by rw [cell_of hqq]; rfl
        have s3 : wq.cell? ⟨w.heap.size + 1, 3, none⟩ = some (.slice E es.length ce) := by rw [cell_of hqq]; rfl
        have hkall : Kept Nil w wq := ((HK.out.trans HKC.out (fun i h => .inr (by have h9 := HSZ.out; omega))).trans HKR.out (fun i h => .inr (by have h9 := h.2; omega))).trans hkq (fun i h => .inr (by omega))
        refine bodyPost_ret (v := .agg #[.int .i64 ver, .slice A ps.length ca, .slice B ls.length cb, .slice E es.length ce]) (by simp [results, Try.results23, go_sem, s0, s1, s2, s3]) rfl ?_
        have hlen := HQS.out.s.l
        refine ⟨hkall, ⟨ver, A, qs, ca, B, ls, cb, E, es, ce⟩, rfl, ⟨?_, ?_, ?_, ?_, by simp only; unfold maxLen; omega, by simp only; unfold maxLen; omega, by simp only; unfold maxLen; omega⟩, ⟨HO.out.v, fun q hq => (HQS.out.x q hq).o, HO.out.l, HO.out.e, by simp only; omega, HCA.out, lb1, HCB.out, le1, HCE.out⟩, ⟨rfl, HQS.out.s, rfl, rfl⟩, ⟨?_, ?_, ?_, ?_⟩⟩
        · by_cases hne : ps = []
          · simp only; rw [show qs = [] by rw [hne] at hlen; exact List.eq_nil_of_length_eq_zero hlen.symm]; exact .inl rfl
          · have h9 := (HRK.out hne).kept hkq (by omega)
            simp only
            rw [(HROW.out hne).1]
            exact RProcs.ofRow h9.row
        · intro q hq
          have hx := HQS.out.x q hq
          exact hx.r.kept hkq (fun b off hn e h => by have h9 := (hx.v b off hn e).2; have h8 := HSZ.out; omega) (fun b off hn e h => by have h9 := (hx.s b off hn e).2; have h8 := HSZ.out; omega)
        · exact RLinks.ofRow ((HLR.out.kept HKR.out (fun i hi h => by have h8 := HLOW.out _ _ (HROW.out h.1).1; have h9 := h.2; omega)).kept hkq (fun i hi h => by have h8 := HSZ.out; omega)).row
        · exact REvents.ofRow ((HER.out.kept HKR.out (fun i hi h => by have h8 := HLOW.out _ _ (HROW.out h.1).1; have h9 := h.2; omega)).kept hkq (fun i hi h => by have h8 := HSZ.out; omega)).row
        · intro g off hn e
          simp only at hn e
          have hne : ps ≠ [] := by intro h; rw [h] at hlen; exact hn (List.eq_nil_of_length_eq_zero hlen.symm)
          have h9 := (HROW.out hne).1
          rw [h9] at e; cases e; have h8 := HSZ.out; omega
        · intro q hq
          obtain ⟨j, hj, hq⟩ := List.mem_iff_getElem.1 hq
          have h9 := HQS.out.f j q (by simp only at hj; omega) (by rw [← hq]; exact List.getElem?_eq_getElem _)
          have h8 := HSZ.out
          exact ⟨fun g off hn e => by have := h9.v g off hn e; omega, fun g off hn e => by have := h9.s g off hn e; omega⟩
        · intro g off hn e
          simp only at hn e
          obtain ⟨g9, h1, h2, _⟩ := HLR.out hn
          rw [e] at h2; cases h2; have h8 := HSZ.out; omega
        · intro g off hn e
          simp only at hn e
          obtain ⟨g9, h1, h2, _⟩ := HER.out hn
          rw [e] at h2; cases h2; have h8 := HSZ.out; omega
end Go.Proofs.Ythgbahlkflmgiaa.Mo
