/- The walk of upgrade.weights. -/
import Derived.Test.YthgbahlkflmgiaaDelays
import Derived.Deep.RegionWith
import Derived.StillTailTactics
namespace Go.Proofs.Ythgbahlkflmgiaa.Mo
open Go Go.RowKit Go.Proofs.Ythgbahlkflmgiaa.Lb
set_option linter.unusedVariables false
set_option linter.unusedSimpArgs false
set_option maxRecDepth 8000
theorem max_two (ats : Array TypeId) (ty : TypeId) (a b : Value) : Builtin.max_ ats ty #[a, b] = (Builtin.max2 a b >>= fun s => pure s) := by simp only [Builtin.max_, List.foldlM_cons, List.foldlM_nil]
def wtI (n : Int) : Int := if n < 1 then 1 else n
theorem max2_one (k k' : IntKind) (x : Int) : Builtin.max2 (.int k x) (.int k' 1) = pure (.int k (wtI x)) := by simp only [Builtin.max2, gt_iff_lt, wtI]
attribute [local go_sem] max2_one max_two
/-- A thing with a weight that is not 0. -/
def wtP (p : Pr) : Pr := { p with weight := wtI p.weight }
def wtL (l : Lk) : Lk := { l with weight := wtI l.weight }
def partG {α : Type} (f : α → α) (ls : List α) (k : Nat) : List α := (ls.take k).map f ++ ls.drop k
theorem partG_zero {α : Type} (f : α → α) (ls : List α) : partG f ls 0 = ls := by simp [partG]
theorem partG_all {α : Type} (f : α → α) (ls : List α) : partG f ls ls.length = ls.map f := by simp [partG]
theorem partG_get {α : Type} (f : α → α) (ls : List α) {k : Nat} {l : α} (h : ls[k]? = some l) : (partG f ls k)[k]? = some l := by
  have hk := (List.getElem?_eq_some_iff.1 h).1
  unfold partG
  rw [List.getElem?_append_right (by simp; omega)]
  simp only [List.length_map, List.length_take, List.getElem?_drop]
  rw [show k + (k - min k ls.length) = k by omega]
  exact h
theorem partG_next {α : Type} (f : α → α) (ls : List α) {k : Nat} {l : α} (h : ls[k]? = some l) : (partG f ls k).set k (f l) = partG f ls (k + 1) := by
  have hk := (List.getElem?_eq_some_iff.1 h).1
  apply List.ext_getElem?
  intro j
  unfold partG
  rw [List.getElem?_set]
  by_cases e : k = j
  · subst e
    rw [if_pos rfl, if_pos (by simp; omega), List.getElem?_append_left (by simp; omega)]
    simp [List.getElem?_take, h]
  · rw [if_neg e]
    by_cases hj : j < k
    · rw [List.getElem?_append_left (by simp; omega), List.getElem?_append_left (by simp; omega)]
      simp [List.getElem?_take, hj, show j < k + 1 by omega]
    · rw [List.getElem?_append_right (by simp; omega), List.getElem?_append_right (by simp; omega)]
      simp only [List.length_map, List.length_take, List.getElem?_drop]
      congr 1
      omega
/-- A row that a call has made: nothing of it is there ahead of it. -/
def NewRow {α : Type} (b : Nat) (w : World) (A : Option Addr) (t : TypeId) (C : Nat) (cells : α → List Value) (l : List α) : Prop :=
  l ≠ [] → ∃ g, b ≤ g ∧ A = some ⟨g, 0, none⟩ ∧ RowAt w g t C cells l
theorem newRow_of_own {α : Type} {w : World} {base n C : Nat} {t : TypeId} {cells : α → List Value} {l : List α} {A : Option Addr} {m c : Nat} (h : w.ownsRow base t C (.slice A m c) n (l.flatMap cells)) (hC : ∀ a, (cells a).length = C) (hpos : 0 < C) : NewRow base w A t C cells l := by
  intro hne
  obtain ⟨g, cap, e, _, hb, _, hr⟩ := rowAt_of_own h hC hpos hne
  cases e
  exact ⟨g, hb, rfl, hr⟩
theorem NewRow.kept {α : Type} {w w' : World} {b C : Nat} {t : TypeId} {A : Option Addr} {cells : α → List Value} {l : List α} {S : Nat → Prop} (h : NewRow b w A t C cells l) (hk : Kept S w w') (hS : ∀ i, b ≤ i → ¬ S i) : NewRow b w' A t C cells l := by
  intro hne
  obtain ⟨g, hb, e, hr⟩ := h hne
  exact ⟨g, hb, e, hr.kept hk (hS g hb)⟩
theorem NewRow.row {α : Type} {w : World} {b C : Nat} {t : TypeId} {A : Option Addr} {cells : α → List Value} {l : List α} (h : NewRow b w A t C cells l) : RowOf w A C cells l := by
  by_cases hne : l = []
  · exact .inl hne
  · obtain ⟨g, _, rfl, hr⟩ := h hne
    exact hr.row
theorem NewRow.lower {α : Type} {w : World} {b b' C : Nat} {t : TypeId} {A : Option Addr} {cells : α → List Value} {l : List α} (h : NewRow b w A t C cells l) (hb : b' ≤ b) : NewRow b' w A t C cells l := by
  intro hne
  obtain ⟨g, h1, e, hr⟩ := h hne
  exact ⟨g, by omega, e, hr⟩
theorem cap_of_own {w : World} {base t C n m c : Nat} {xs : List Value} {A : Option Addr} (h : w.ownsRow base t C (.slice A m c) n xs) : A = none → c = 0 := by
  rcases own_form h with ⟨h1, h2, _⟩ | ⟨g, cap, h1, _, _, h4, _⟩
  · simp only [Value.slice.injEq] at h1; exact fun _ => h1.2.2
  · simp only [Value.slice.injEq] at h1; exact fun h => by rw [h1.1] at h; cases h
theorem le_of_own {w : World} {base t C n m c : Nat} {xs : List Value} {A : Option Addr} (h : w.ownsRow base t C (.slice A m c) n xs) : m ≤ c := by
  rcases own_form h with ⟨h1, h2, _⟩ | ⟨g, cap, h1, _, _, h4, _⟩
  · simp only [Value.slice.injEq] at h1; omega
  · simp only [Value.slice.injEq] at h1; omega
theorem rowAt_drew {α : Type} {w : World} {g C : Nat} {t : TypeId} {cells : α → List Value} {l : List α} (h : RowAt w g t C cells l) : RowAt w.drew g t C cells l := ⟨h.ex⟩
structure WeightsEnd (ver : Int) (ps : List Pr) (ls : List Lk) (ne : Nat) (ea : Option Addr) (ec : Nat) (w : World) (e : Ending) (w' : World) : Prop where
  k : Kept Nil w w'
  ok : ∃ A c B d, e = .returned (.agg #[.int .i64 ver, .slice A ps.length c, .slice B ls.length d, .slice ea ne ec]) ∧ RProcs w' A (ps.map wtP) ∧ RLinks w' B (ls.map wtL) ∧ (A = none → c = 0) ∧ (B = none → d = 0) ∧ ps.length ≤ c ∧ ls.length ≤ d ∧ (∀ g off, ps ≠ [] → A = some ⟨g, off, none⟩ → w.heap.size ≤ g) ∧ (∀ g off, ls ≠ [] → B = some ⟨g, off, none⟩ → w.heap.size ≤ g)
set_option maxHeartbeats 16000000 in
theorem weights_is (ver : Int) (ps : List Pr) (ls : List Lk) (es : List Ev) (pa la ea : Option Addr) (pc lc ec : Nat) (w : World) (hp : RProcs w pa ps) (hpn : pa = none → pc = 0) (hr : RLinks w la ls) (hn : la = none → lc = 0) (hl : ls.length ≤ 100000) (hpl : ps.length ≤ 100000) :
    Calls Try.prog 22 #[.agg #[.int .i64 ver, .slice pa ps.length pc, .slice la ls.length lc, .slice ea es.length ec]] w fun e w' => WeightsEnd ver ps ls es.length ea ec w e w' := by
  have HP := Lib.hid hp
  have HPN := Lib.hid hpn
  have HR := Lib.hid hr
  have HN := Lib.hid hn
  clear hr hn hp hpn
  obtain ⟨W1, hW⟩ : ∃ W, ((w.alloc (.cells #[.int .i64 ver, .slice pa ps.length pc, .slice la ls.length lc, .slice ea es.length ec] 26)).alloc (.cells #[.int .i64 0, .slice none 0 0, .slice none 0 0, .slice none 0 0] 26)) = W := ⟨_, rfl⟩
  have hk : Kept Nil w W1 := by rw [← hW]; exact (((Kept.refl Nil w).alloc _).alloc _)
  have hsz : W1.heap.size = w.heap.size + 2 := by rw [← hW]; simp
  have hb : W1.heap[w.heap.size]? = some (.cells #[.int .i64 ver, .slice pa ps.length pc, .slice la ls.length lc, .slice ea es.length ec] 26 (0, 0)) := by
    rw [← hW]
    rw [heap_old _ _ (by simp only [World.size_alloc]; omega)]
    have h9 := heap_new w (.cells #[.int .i64 ver, .slice pa ps.length pc, .slice la ls.length lc, .slice ea es.length ec] 26)
    exact h9
  have G0 := Lib.hid (show W1.cell? ⟨w.heap.size, 0, none⟩ = some (.int .i64 ver) by rw [cell_of hb]; rfl)
  have G1 := Lib.hid (show W1.cell? ⟨w.heap.size, 1, none⟩ = some (.slice pa ps.length pc) by rw [cell_of hb]; rfl)
  have G2 := Lib.hid (show W1.cell? ⟨w.heap.size, 2, none⟩ = some (.slice la ls.length lc) by rw [cell_of hb]; rfl)
  have G3 := Lib.hid (show W1.cell? ⟨w.heap.size, 3, none⟩ = some (.slice ea es.length ec) by rw [cell_of hb]; rfl)
  have GB := Lib.hid hb
  have hzg : w.heap.size < W1.heap.size := by omega
  clear hb
  have hb : W1.heap[w.heap.size + 1]? = some (.cells #[.int .i64 0, .slice none 0 0, .slice none 0 0, .slice none 0 0] 26 (0, 0)) := by
    rw [← hW]
    have h9 := heap_new (w.alloc (.cells #[.int .i64 ver, .slice pa ps.length pc, .slice la ls.length lc, .slice ea es.length ec] 26)) (.cells #[.int .i64 0, .slice none 0 0, .slice none 0 0, .slice none 0 0] 26)
    simp only [World.size_alloc] at h9
    exact h9
  have Q0 := Lib.hid (show W1.cell? ⟨w.heap.size + 1, 0, none⟩ = some (.int .i64 0) by rw [cell_of hb]; rfl)
  have Q1 := Lib.hid (show W1.cell? ⟨w.heap.size + 1, 1, none⟩ = some (.slice none 0 0) by rw [cell_of hb]; rfl)
  have Q2 := Lib.hid (show W1.cell? ⟨w.heap.size + 1, 2, none⟩ = some (.slice none 0 0) by rw [cell_of hb]; rfl)
  have Q3 := Lib.hid (show W1.cell? ⟨w.heap.size + 1, 3, none⟩ = some (.slice none 0 0) by rw [cell_of hb]; rfl)
  have QB := Lib.hid hb
  have hzq : w.heap.size + 1 < W1.heap.size := by omega
  clear hb
  have HW := Lib.hid hW
  have HK := Lib.hid hk
  have HSZ := Lib.hid hsz
  clear hW hk hsz
  go_enter Try.func22, Try.ntmps22
  go_wp2_with fail
  rw [HW.out]
  have g0 := ((Kept.refl Nil W1)).cell G0.out (fun h => h)
  have g1 := ((Kept.refl Nil W1)).cell G1.out (fun h => h)
  have g2 := ((Kept.refl Nil W1)).cell G2.out (fun h => h)
  have g3 := ((Kept.refl Nil W1)).cell G3.out (fun h => h)
  have q0 := ((Kept.refl Nil W1)).cell Q0.out (fun h => h)
  have q1 := ((Kept.refl Nil W1)).cell Q1.out (fun h => h)
  have q2 := ((Kept.refl Nil W1)).cell Q2.out (fun h => h)
  have q3 := ((Kept.refl Nil W1)).cell Q3.out (fun h => h)
  go_upto_region 1 with fail
  go_cut [] from 5 to 12 (fun wx => ∃ A c B d n, wx.heap[w.heap.size]? = some (.cells #[.int .i64 ver, .slice A ps.length c, .slice B ls.length d, .slice ea es.length ec] 26 (0, 0)) ∧ NewRow W1.heap.size wx A 52 4 prCells ps ∧ NewRow n wx B 48 5 lkCells ls ∧ W1.heap.size ≤ n ∧ (∀ g off, A = some ⟨g, off, none⟩ → g < n) ∧ (A = none → c = 0) ∧ (B = none → d = 0) ∧ ps.length ≤ c ∧ ls.length ≤ d ∧ Kept (fun b => b = w.heap.size) W1 wx)
  case first =>
    go_region_with (first
    | (go_at_call 42; with_reducible refine (CloneP_is ps pa pc W1.drew ?_ HPN.out hpl).mono ?_
       · exact rowOf_nil prCells_len HK.out.drew HP.out.rowOf
       rintro e w2 ⟨v2, rfl, hO2, hk2⟩
       have hk2b := (Kept.refl Nil W1).drew.step hk2
       have hz2 := hk2b.size
       have HO2 := Lib.hid hO2
       obtain ⟨A2, c2, rfl⟩ := own_slice hO2
       have HK2 := Lib.hid hk2b
       have m2 := hk2b.cell g2 (fun h => h)
       clear hO2 hk2 hk2b)
    | (go_at_call 40; with_reducible refine (CloneL_is ls la lc _ ?_ HN.out hl).mono ?_
       · exact rowOf_nil lkCells_len (HK.out.step HK2.out) HR.out.rowOf
       rintro e w3 ⟨v3, rfl, hO3, hk3⟩
       have hk3b := HK2.out.step hk3
       have hz3 := hk3.size
       have HO3 := Lib.hid hO3
       obtain ⟨A3, c3, rfl⟩ := own_slice hO3
       have HK3 := Lib.hid hk3b
       have HK23 := Lib.hid hk3
       have j1 := hk3b.cell g1 (fun h => h)
       have j2 := hk3b.cell g2 (fun h => h)
       have n1 := hk3b.frozen (p := ⟨w.heap.size, 1, none⟩) hzg (frozen_of GB.out 1) (fun h => h)
       have n2 := hk3b.frozen (p := ⟨w.heap.size, 2, none⟩) hzg (frozen_of GB.out 2) (fun h => h)
       have hg3 : w.heap.size < w3.heap.size := by omega
       clear hO3 hk3 hk3b))
    all_goals (go_wp2_with fail)
    all_goals go_meet
    all_goals (refine ⟨A2, c2, A3, c3, w2.heap.size, ?_, ?_, ?_, hz2, (fun g off e => (HO2.out.lt g (by rw [e]; rfl)).2), cap_of_own HO2.out, cap_of_own HO3.out, le_of_own HO2.out, le_of_own HO3.out, ((HK3.out.any (S := fun b => b = w.heap.size)).setCell (.inl rfl) _).setCell (.inl rfl) _⟩)
    all_goals first
      | (rw [heap_set (heap_set (HK3.out.heap GB.out (fun h => h)) 1 _) 2 _]; rfl)
      | exact ((newRow_of_own (HK23.out.own HO2.out (fun _ _ h => h)) prCells_len (by decide)).kept (((Kept.refl (fun b => b = w.heap.size) w3).setCell (.inl rfl) _).setCell (.inl rfl) _) (fun i hi h => by have h8 := HSZ.out; have h7 : W1.heap.size ≤ i := hi; omega)).lower (Nat.le_refl _)
      | exact ((newRow_of_own HO3.out lkCells_len (by decide)).kept (((Kept.refl (fun b => b = w.heap.size) w3).setCell (.inl rfl) _).setCell (.inl rfl) _) (fun i hi h => by have h8 := HSZ.out; omega)).lower (Nat.le_refl _)
  case rest =>
    obtain ⟨A, ca, B, cb, nn, hG, hPR, hLR, hnn, hlow, hca, hcb, lca, lcb, hkc⟩ := hcut
    have HG := Lib.hid hG
    have HPR := Lib.hid hPR
    have HLR := Lib.hid hLR
    have HLOW := Lib.hid hlow
    have HCA := Lib.hid hca
    have HCB := Lib.hid hcb
    have HKC := Lib.hid hkc
    have hzc := hkc.size
    clear hG hPR hLR hlow hca hcb hkc g0 g1 g2 g3 q0 q1 q2 q3
    have HQ := Lib.hid (HKC.out.heap QB.out (by omega))
    have hsz9 := HSZ.out
    have hzw : w.heap.size + 1 < wc.heap.size := by omega
    clear hsz9
    have hrow : ∃ g, W1.heap.size ≤ g ∧ (ps ≠ [] → A = some ⟨g, 0, none⟩ ∧ RowAt wc g 52 4 prCells ps) := by
      by_cases hls : ps = []
      · exact ⟨W1.heap.size, Nat.le_refl _, fun h => absurd hls h⟩
      · obtain ⟨g, hb, e, hr⟩ := HPR.out hls
        exact ⟨g, hb, fun _ => ⟨e, hr⟩⟩
    obtain ⟨ggP, hgbP, hrow⟩ := hrow
    have HROWP := Lib.hid hrow
    clear hrow
    have e0 : wc.cell? ⟨w.heap.size, 0, none⟩ = some (.int .i64 ver) := by rw [cell_of HG.out]; rfl
    have e1 : wc.cell? ⟨w.heap.size, 1, none⟩ = some (.slice A ps.length ca) := by rw [cell_of HG.out]; rfl
    have e2 : wc.cell? ⟨w.heap.size, 2, none⟩ = some (.slice B ls.length cb) := by rw [cell_of HG.out]; rfl
    have e3 : wc.cell? ⟨w.heap.size, 3, none⟩ = some (.slice ea es.length ec) := by rw [cell_of HG.out]; rfl
    go_wp2_with fail
    clear e0 e1 e2 e3
    go_loopw [16] (fun i wr => ∃ k : Nat, k ≤ ps.length ∧ i = .int .i64 k ∧ (ps ≠ [] → RowAt wr ggP 52 4 prCells (partG wtP ps k)) ∧ Kept (fun b => ps ≠ [] ∧ b = ggP) wc wr) (fun i _ => ps.length - (intOf i).toNat)
    case atStart => exact ⟨0, Nat.zero_le _, rfl, fun h => by rw [partG_zero]; exact (HROWP.out h).2, Kept.refl _ _⟩
    case round =>
      obtain ⟨k, hk, rfl, hrk, hK⟩ := hrel
      have HRKP := Lib.hid hrk
      have HKRP := Lib.hid hK
      have hzrP := hK.size
      have HGRP := Lib.hid (hK.heap HG.out (fun h => by have h9 := h.2; omega))
      have hx1 : w.heap.size < wr.heap.size := by omega
      have g0 : wr.cell? ⟨w.heap.size, 0, none⟩ = some (.int .i64 ver) := by rw [cell_of HGRP.out]; rfl
      have g1 : wr.cell? ⟨w.heap.size, 1, none⟩ = some (.slice A ps.length ca) := by rw [cell_of HGRP.out]; rfl
      have g2 : wr.cell? ⟨w.heap.size, 2, none⟩ = some (.slice B ls.length cb) := by rw [cell_of HGRP.out]; rfl
      have g3 : wr.cell? ⟨w.heap.size, 3, none⟩ = some (.slice ea es.length ec) := by rw [cell_of HGRP.out]; rfl
      clear hrk hK
      by_cases hlt : k < ps.length
      · obtain ⟨l, el⟩ : ∃ l, ps[k]? = some l := ⟨_, List.getElem?_eq_getElem hlt⟩
        have hne : ps ≠ [] := by intro h; rw [h] at hlt; simp at hlt
        have hA := (HROWP.out hne).1
        have hrw := HRKP.out hne
        have cw : wr.cell? ⟨ggP, k * 4 + 1, none⟩ = some (.int .i64 l.weight) := hrw.cell (partG_get wtP ps el) (c := 1) (by decide)
        have fw : wr.frozen? ⟨ggP, k * 4 + 1, none⟩ = false := hrw.frozen _
        have hgl := hrw.lt
        have HRW2 := Lib.hid hrw
        have EL := Lib.hid el
        have hlt2 : (k : Int) < (ps.length : Int) := by omega
        have hw : IntKind.i64.wrap ((k : Int) + 1) = (k : Int) + 1 := by rw [IntKind.wrap_i64]; omega
        have HNE := Lib.hid hne
        clear el hrw hne
        subst hA
        go_upto_region 5 with fail
        go_region
        go_wp2_with fail
        go_round
        refine ⟨k + 1, by omega, rfl, fun _ => ?_, (HKRP.out.setCell (.inl ⟨HNE.out, rfl⟩) _).drew⟩
        · have h9 := rowAt_drew (HRW2.out.set prCells_len (partG_get wtP ps EL.out) (o' := wtP l) (c := 1) (by decide) (u := .int .i64 (wtI l.weight)) rfl)
          rw [partG_next wtP ps EL.out] at h9; exact h9
        case measure => (simp [intOf] <;> omega)
      · have hkl : k = ps.length := by omega
        subst hkl
        obtain ⟨wa, h⟩ : ∃ x, x = wr := ⟨_, rfl⟩
        subst h
        clear g0 g1 g2 g3
        have HPE := Lib.hid (show ps ≠ [] → A = some ⟨ggP, 0, none⟩ ∧ RowAt wa ggP 52 4 prCells (ps.map wtP) from fun h => ⟨(HROWP.out h).1, by have h9 := HRKP.out h; rw [partG_all] at h9; exact h9⟩)
        have HKA := Lib.hid (show Kept (fun b => ps ≠ [] ∧ b = ggP) wc wa from HKRP.out)
        have HLA := Lib.hid (show NewRow nn wa B 48 5 lkCells ls from fun hne => by
          obtain ⟨g, h1, h2, h3⟩ := HLR.out hne
          by_cases hps : ps = []
          · exact ⟨g, h1, h2, h3.kept HKRP.out (fun h => h.1 hps)⟩
          · exact ⟨g, h1, h2, h3.kept HKRP.out (fun h => by have h8 := HLOW.out _ _ (HROWP.out hps).1; have h9 := h.2; omega)⟩)
        clear HRKP
        have hrow : ∃ g, nn ≤ g ∧ (ls ≠ [] → B = some ⟨g, 0, none⟩ ∧ RowAt wa g 48 5 lkCells ls) := by
          by_cases hls : ls = []
          · exact ⟨nn, Nat.le_refl _, fun h => absurd hls h⟩
          · obtain ⟨g, hb, e, hr⟩ := HLA.out hls
            exact ⟨g, hb, fun _ => ⟨e, hr⟩⟩
        obtain ⟨ggL, hgbL, hrow⟩ := hrow
        have HROWL := Lib.hid hrow
        clear hrow
        have e0 : wa.cell? ⟨w.heap.size, 0, none⟩ = some (.int .i64 ver) := by rw [cell_of HGRP.out]; rfl
        have e1 : wa.cell? ⟨w.heap.size, 1, none⟩ = some (.slice A ps.length ca) := by rw [cell_of HGRP.out]; rfl
        have e2 : wa.cell? ⟨w.heap.size, 2, none⟩ = some (.slice B ls.length cb) := by rw [cell_of HGRP.out]; rfl
        have e3 : wa.cell? ⟨w.heap.size, 3, none⟩ = some (.slice ea es.length ec) := by rw [cell_of HGRP.out]; rfl
        go_wp2_with fail
        clear e0 e1 e2 e3
        go_loopw [35] (fun i wr => ∃ k : Nat, k ≤ ls.length ∧ i = .int .i64 k ∧ (ls ≠ [] → RowAt wr ggL 48 5 lkCells (partG wtL ls k)) ∧ Kept (fun b => ls ≠ [] ∧ b = ggL) wa wr) (fun i _ => ls.length - (intOf i).toNat)
        case atStart => exact ⟨0, Nat.zero_le _, rfl, fun h => by rw [partG_zero]; exact (HROWL.out h).2, Kept.refl _ _⟩
        case round =>
          obtain ⟨k, hk, rfl, hrk, hK⟩ := hrel
          have HRKL := Lib.hid hrk
          have HKRL := Lib.hid hK
          have hzrL := hK.size
          have HGRL := Lib.hid (hK.heap HGRP.out (fun h => by have h9 := h.2; omega))
          have hx1 : w.heap.size < wr.heap.size := by omega
          have g0 : wr.cell? ⟨w.heap.size, 0, none⟩ = some (.int .i64 ver) := by rw [cell_of HGRL.out]; rfl
          have g1 : wr.cell? ⟨w.heap.size, 1, none⟩ = some (.slice A ps.length ca) := by rw [cell_of HGRL.out]; rfl
          have g2 : wr.cell? ⟨w.heap.size, 2, none⟩ = some (.slice B ls.length cb) := by rw [cell_of HGRL.out]; rfl
          have g3 : wr.cell? ⟨w.heap.size, 3, none⟩ = some (.slice ea es.length ec) := by rw [cell_of HGRL.out]; rfl
          clear hrk hK
          by_cases hlt : k < ls.length
          · obtain ⟨l, el⟩ : ∃ l, ls[k]? = some l := ⟨_, List.getElem?_eq_getElem hlt⟩
            have hne : ls ≠ [] := by intro h; rw [h] at hlt; simp at hlt
            have hA := (HROWL.out hne).1
            have hrw := HRKL.out hne
            have cw : wr.cell? ⟨ggL, k * 5 + 4, none⟩ = some (.int .i64 l.weight) := hrw.cell (partG_get wtL ls el) (c := 4) (by decide)
            have fw : wr.frozen? ⟨ggL, k * 5 + 4, none⟩ = false := hrw.frozen _
            have hgl := hrw.lt
            have HRW2 := Lib.hid hrw
            have EL := Lib.hid el
            have hlt2 : (k : Int) < (ls.length : Int) := by omega
            have hw : IntKind.i64.wrap ((k : Int) + 1) = (k : Int) + 1 := by rw [IntKind.wrap_i64]; omega
            have HNE := Lib.hid hne
            clear el hrw hne
            subst hA
            go_upto_region 10 with fail
            go_region
            go_wp2_with fail
            go_round
            refine ⟨k + 1, by omega, rfl, fun _ => ?_, (HKRL.out.setCell (.inl ⟨HNE.out, rfl⟩) _).drew⟩
            · have h9 := rowAt_drew (HRW2.out.set lkCells_len (partG_get wtL ls EL.out) (o' := wtL l) (c := 4) (by decide) (u := .int .i64 (wtI l.weight)) rfl)
              rw [partG_next wtL ls EL.out] at h9; exact h9
            case measure => (simp [intOf] <;> omega)
          · have hkl : k = ls.length := by omega
            subst hkl
            have hq0 := (HKA.out.heap HQ.out (fun h => by have h9 := h.2; omega))
            have hzq := HKA.out.size
            have HQ5 := Lib.hid (HKRL.out.heap hq0 (fun h => by have h9 := h.2; omega))
            clear hq0
            have q0 : wr.cell? ⟨w.heap.size + 1, 0, none⟩ = some (.int .i64 0) := by rw [cell_of HQ5.out]; rfl
            have qf0 : wr.frozen? ⟨w.heap.size + 1, 0, none⟩ = false := frozen_of HQ5.out 0
            have q1 : wr.cell? ⟨w.heap.size + 1, 1, none⟩ = some (.slice none 0 0) := by rw [cell_of HQ5.out]; rfl
            have qf1 : wr.frozen? ⟨w.heap.size + 1, 1, none⟩ = false := frozen_of HQ5.out 1
            have q2 : wr.cell? ⟨w.heap.size + 1, 2, none⟩ = some (.slice none 0 0) := by rw [cell_of HQ5.out]; rfl
            have qf2 : wr.frozen? ⟨w.heap.size + 1, 2, none⟩ = false := frozen_of HQ5.out 2
            have q3 : wr.cell? ⟨w.heap.size + 1, 3, none⟩ = some (.slice none 0 0) := by rw [cell_of HQ5.out]; rfl
            have qf3 : wr.frozen? ⟨w.heap.size + 1, 3, none⟩ = false := frozen_of HQ5.out 3
            go_wp2_with fail
            obtain ⟨wq, hwq⟩ : ∃ wq, ((((wr.setCell ⟨w.heap.size + 1, 0, none⟩ (.int .i64 ver)).setCell ⟨w.heap.size + 1, 1, none⟩ (.slice A ps.length ca)).setCell ⟨w.heap.size + 1, 2, none⟩ (.slice B ls.length cb)).setCell ⟨w.heap.size + 1, 3, none⟩ (.slice ea es.length ec)) = wq := ⟨_, rfl⟩
            simp only [hwq]
            have hqq : wq.heap[w.heap.size + 1]? = some (.cells #[.int .i64 ver, .slice A ps.length ca, .slice B ls.length cb, .slice ea es.length ec] 26 (0, 0)) := by rw [← hwq, heap_set (heap_set (heap_set (heap_set HQ5.out 0 _) 1 _) 2 _) 3 _]; rfl
            have hkq : Kept (fun b => b = w.heap.size + 1) wr wq := by rw [← hwq]; exact ((((Kept.refl (fun b => b = w.heap.size + 1) wr).setCell (.inl rfl) _).setCell (.inl rfl) _).setCell (.inl rfl) _).setCell (.inl rfl) _
            have s0 : wq.cell? ⟨w.heap.size + 1, 0, none⟩ = some (.int .i64 ver) := by rw [cell_of hqq]; rfl
            have s1 : wq.cell? ⟨w.heap.size + 1, 1, none⟩ = some (.slice A ps.length ca) := by rw [cell_of hqq]; rfl
            have s2 : wq.cell? ⟨w.heap.size + 1, 2, none⟩ = some (.slice B ls.length cb) := by rw [cell_of hqq]; rfl
            have s3 : wq.cell? ⟨w.heap.size + 1, 3, none⟩ = some (.slice ea es.length ec) := by rw [cell_of hqq]; rfl
            have hkall : Kept Nil w wq := (((HK.out.trans HKC.out (fun i h => .inr (by have h9 := HSZ.out; omega))).trans HKA.out (fun i h => .inr (by have h9 := h.2; omega))).trans HKRL.out (fun i h => .inr (by have h9 := h.2; omega))).trans hkq (fun i h => .inr (by omega))
            refine bodyPost_ret (v := .agg #[.int .i64 ver, .slice A ps.length ca, .slice B ls.length cb, .slice ea es.length ec]) (by simp [results, Try.results22, go_sem, s0, s1, s2, s3]) rfl ?_
            refine ⟨hkall, A, ca, B, cb, rfl, ?_, ?_, HCA.out, HCB.out, lca, lcb, fun g9 off hn e => by (rw [(HPE.out hn).1] at e; cases e; have h9 := HSZ.out; omega), fun g9 off hn e => by (rw [(HROWL.out hn).1] at e; cases e; have h9 := HSZ.out; omega)⟩
            · by_cases hne : ps = []
              · rw [hne]; exact .inl rfl
              · obtain ⟨e, hr⟩ := HPE.out hne
                rw [e]
                have hlow := HLOW.out _ _ e
                exact RProcs.ofRow ((hr.kept HKRL.out (fun h => by have h9 := h.2; omega)).kept hkq (by omega)).row
            · by_cases hne : ls = []
              · rw [hne]; exact .inl rfl
              · have h9 := (HRKL.out hne).kept hkq (by omega)
                rw [partG_all] at h9
                rw [(HROWL.out hne).1]
                exact RLinks.ofRow h9.row
end Go.Proofs.Ythgbahlkflmgiaa.Mo
