/- The walks of (*rule.machine).arg and (*rule.machine).step. -/
import Derived.Test.YtnohhpinigkccaaRight
import Derived.Laws.OwnMore
import Derived.Deep.AppendLies
import Derived.Deep.RegionLaw
namespace Go.Proofs.Ytnohhpinigkccaa.Mo
open Go Go.RowKit Go.Proofs.Ytnohhpinigkccaa.Lb
set_option linter.unusedVariables false
set_option linter.unusedSimpArgs false

/-- What is sent. -/
abbrev Se := ByteArray × Int
def sc (e : Se) : List Value := [.string e.1, .int .i64 e.2]
theorem sc_len (e : Se) : (sc e).length = 2 := rfl
def argV (vs : List V) (now : List Int) (value : Int) (s : S) : Int := if s.ak = 1 then (now[(varIx vs s.as_).toNat]?).getD 0 else if s.ak = 2 then value else s.an
/-- A machine in memory: block m; its variables: block g; what was sent: sv. -/
structure Mach (W : World) (base m g c : Nat) (p : Pr) (value : Int) (now : List Int) (sv : Value) (sent : List Se) : Prop where
  bm : base ≤ m
  hd : W.heap[m]? = some (.cells #[.string p.name, .int .i64 p.weight, .slice p.va p.vs.length p.vc, .slice p.sa p.ss.length p.sc, .slice (some ⟨g, 0, none⟩) now.length c, .int .i64 value, sv] 65 (0, 0))
  own1 : W.ownsRow base 2 1 (.slice (some ⟨g, 0, none⟩) now.length c) now.length (now.map (Value.int .i64))
  own2 : W.ownsRow base 54 2 sv sent.length (sent.flatMap sc)
  neg : g ≠ m
  nes : sv.ownBlock ≠ some m
  negs : sv.ownBlock ≠ some g
  hva : ∀ b off, p.vs ≠ [] → p.va = some ⟨b, off, none⟩ → b < base
  hsa : ∀ b off, p.ss ≠ [] → p.sa = some ⟨b, off, none⟩ → b < base
  pr : RProc W p
  nl : now.length = p.vs.length
  ni : ∀ z ∈ now, Sc.I64 z
  vi : Sc.I64 value
def OwnM (m g : Nat) (sv : Value) : Nat → Prop := fun i => i = m ∨ i = g ∨ sv.ownBlock = some i
section
variable {W W' : World} {base m g c : Nat} {p : Pr} {value : Int} {now : List Int} {sv : Value} {sent : List Se}
theorem Mach.cells (M : Mach W base m g c p value now sv sent) :
    W.cell? ⟨m, 0, none⟩ = some (.string p.name) ∧ W.cell? ⟨m, 1, none⟩ = some (.int .i64 p.weight) ∧ W.cell? ⟨m, 2, none⟩ = some (.slice p.va p.vs.length p.vc) ∧ W.cell? ⟨m, 3, none⟩ = some (.slice p.sa p.ss.length p.sc) ∧
    W.cell? ⟨m, 4, none⟩ = some (.slice (some ⟨g, 0, none⟩) now.length c) ∧ W.cell? ⟨m, 5, none⟩ = some (.int .i64 value) ∧ W.cell? ⟨m, 6, none⟩ = some sv ∧ (∀ k, W.frozen? ⟨m, k, none⟩ = false) ∧ m < W.heap.size :=
  ⟨by rw [cell_of M.hd]; rfl, by rw [cell_of M.hd]; rfl, by rw [cell_of M.hd]; rfl, by rw [cell_of M.hd]; rfl, by rw [cell_of M.hd]; rfl, by rw [cell_of M.hd]; rfl, by rw [cell_of M.hd]; rfl, frozen_of M.hd, (Array.getElem?_eq_some_iff.1 M.hd).1⟩
theorem Mach.glt (M : Mach W base m g c p value now sv sent) : base ≤ g ∧ g < W.heap.size := M.own1.lt g rfl
theorem Mach.nil (M : Mach W base m g c p value now sv sent) (hk : Kept Nil W W') : Mach W' base m g c p value now sv sent :=
  ⟨M.bm, hk.heap M.hd (fun h => h), hk.own M.own1 (fun _ _ h => h), hk.own M.own2 (fun _ _ h => h), M.neg, M.nes, M.negs, M.hva, M.hsa, M.pr.nil hk, M.nl, M.ni, M.vi⟩
theorem Mach.at (M : Mach W base m g c p value now sv sent) {j : Nat} {x : Int} (h : now[j]? = some x) : W.cell? ⟨g, j, none⟩ = some (.int .i64 x) :=
  own_cell M.own1 (by rw [List.getElem?_map, h]; rfl)
theorem Mach.own_base (M : Mach W base m g c p value now sv sent) (i : Nat) (h : OwnM m g sv i) : base ≤ i := by
  rcases h with rfl | rfl | h
  · exact M.bm
  · exact M.glt.1
  · exact (M.own2.lt i h).1
theorem Mach.own_lt (M : Mach W base m g c p value now sv sent) {i : Nat} (h : OwnM m g sv i) : i < W.heap.size := by
  rcases h with rfl | rfl | h
  · exact M.cells.2.2.2.2.2.2.2.2
  · exact M.glt.2
  · exact (M.own2.lt i h).2
/-- A variable is written. -/
theorem Mach.put (M : Mach W base m g c p value now sv sent) (j : Nat) {x : Int} (hx : Sc.I64 x) : Mach (W.setCell ⟨g, j, none⟩ (.int .i64 x)) base m g c p value (now.set j x) sv sent := by
  have hk : Kept (fun i => i = g) W (W.setCell ⟨g, j, none⟩ (.int .i64 x)) := (Kept.refl (fun i => i = g) W).setCell (.inl rfl) _
  refine ⟨M.bm, by rw [List.length_set]; exact hk.heap M.hd (fun h => M.neg h.symm), ?_, hk.own M.own2 (fun i e h => M.negs (h ▸ e)), M.neg, M.nes, M.negs, M.hva, M.hsa, M.pr.kept hk (fun b off hne e h => by have := M.hva b off hne e; have := M.glt.1; omega) (fun b off hne e h => by have := M.hsa b off hne e; have := M.glt.1; omega), by rw [List.length_set]; exact M.nl, fun z hz => ?_, M.vi⟩
  · have := (M.own1.stored j (.int .i64 x)).1
    rw [List.length_set, List.map_set]
    exact this
  · rcases List.mem_or_eq_of_mem_set hz with h | h
    · exact M.ni z h
    · subst h; exact hx
/-- Something more was sent. -/
theorem Mach.send (M : Mach W base m g c p value now sv sent) {w3 : World} {g' c' : Nat} (e : Se) (kk : Kept (fun i => sv.ownBlock = some i) W w3) (hown : w3.ownsRow base 54 2 (.slice (some ⟨g', 0, none⟩) (sent.length + 1) c') (sent.length + 1) (sent.flatMap sc ++ sc e))
    (hat : sv.ownBlock = some g' ∨ W.heap.size ≤ g') : Mach (w3.setCell ⟨m, 6, none⟩ (.slice (some ⟨g', 0, none⟩) (sent.length + 1) c')) base m g c p value now (.slice (some ⟨g', 0, none⟩) (sent.length + 1) c') (sent ++ [e]) ∧
    Kept (OwnM m g sv) W (w3.setCell ⟨m, 6, none⟩ (.slice (some ⟨g', 0, none⟩) (sent.length + 1) c')) ∧ ∀ i, OwnM m g (.slice (some ⟨g', 0, none⟩) (sent.length + 1) c') i → OwnM m g sv i ∨ W.heap.size ≤ i := by
  have hml := M.cells.2.2.2.2.2.2.2.2
  have hgm : g' ≠ m := by
    rcases hat with h | h
    · exact fun e => M.nes (e ▸ h)
    · omega
  have hgg : g' ≠ g := by
    rcases hat with h | h
    · exact fun e => M.negs (e ▸ h)
    · have := M.glt.2; omega
  have hk2 : Kept (fun i => i = m) w3 (w3.setCell ⟨m, 6, none⟩ (.slice (some ⟨g', 0, none⟩) (sent.length + 1) c')) := (Kept.refl (fun i => i = m) w3).setCell (.inl rfl) _
  have hk : Kept (OwnM m g sv) W (w3.setCell ⟨m, 6, none⟩ (.slice (some ⟨g', 0, none⟩) (sent.length + 1) c')) := (kk.mono (fun i _ h => .inr (.inr h))).trans hk2 (fun i h => .inl (.inl h))
  refine ⟨⟨M.bm, ?_, ?_, ?_, M.neg, by simp [Value.ownBlock]; exact hgm, by simp [Value.ownBlock]; exact hgg, M.hva, M.hsa, M.pr.kept hk (fun b off hne e h => by have := M.hva b off hne e; have := M.own_base b h; omega) (fun b off hne e h => by have := M.hsa b off hne e; have := M.own_base b h; omega), M.nl, M.ni, M.vi⟩, hk, ?_⟩
  · have h3 := kk.heap M.hd M.nes
    rw [heap_set h3]
    rfl
  · exact hk2.own (kk.own M.own1 (fun i e h => by cases e; exact M.negs h)) (fun i e h => by cases e; exact M.neg h)
  · have := hk2.own hown (fun i e h => by cases e; exact hgm h)
    simpa using this
  · intro i hi
    rcases hi with h | h | h
    · exact .inl (.inl h)
    · exact .inl (.inr (.inl h))
    · cases h
      rcases hat with h | h
      · exact .inl (.inr (.inr h))
      · exact .inr h
end
set_option maxHeartbeats 2000000 in
theorem arg_is {W : World} {base m g c : Nat} {p : Pr} {value : Int} {now : List Int} {sv : Value} {sent : List Se} (M : Mach W base m g c p value now sv sent) (s : S) (hs : s.ak = 1 → 0 ≤ varIx p.vs s.as_) :
    Calls Try.prog 31 #[.pointer (some ⟨m, 0, none⟩), s.arg] W fun e w' => e = .returned (.int .i64 (argV p.vs now value s)) ∧ Kept Nil W w' := by
  obtain ⟨c0, c1, c2, c3, c4, c5, c6, cf, cm⟩ := M.cells
  have HM := Lib.hid M
  obtain ⟨x, hx⟩ : ∃ x, argV p.vs now value s = x := ⟨_, rfl⟩
  rw [hx]
  have HX := Lib.hid hx
  have HS := Lib.hid hs
  have hvl := M.pr.vl
  unfold maxLen at hvl
  clear M cf hx hs
  obtain ⟨k, nm, ak, an, as_⟩ := s
  unfold S.arg
  go_enter Try.func31, Try.ntmps31
  by_cases h1 : ak = 1
  · subst h1
    rcases varIx_cases p.vs as_ with hx | ⟨j, _, hx, hj⟩
    · exact absurd (HS.out rfl) (by simp only; omega)
    · have hjn : j < now.length := by have := HM.out.nl; omega
      obtain ⟨y, ey⟩ : ∃ y, now[j]? = some y := ⟨_, List.getElem?_eq_getElem hjn⟩
      have hxy : x = y := by
        have := HX.out
        simp only [argV, if_true] at this
        rw [hx, Int.toNat_natCast, ey] at this
        exact this.symm
      subst hxy
      have HY := Lib.hid ey
      have HI := Lib.hid hx
      clear ey hx
      go_wp2_with fail
      have hka0 : Kept Nil W (W.alloc (.cells #[.int .i64 1, .int .i64 an, .string as_] 45)) := (Kept.refl Nil W).alloc _
      have d0 := hka0.cell c0 (fun h => h)
      have d1 := hka0.cell c1 (fun h => h)
      have d2 := hka0.cell c2 (fun h => h)
      have d3 := hka0.cell c3 (fun h => h)
      have d4 := hka0.cell c4 (fun h => h)
      have dj := hka0.cell (HM.out.at HY.out) (fun h => h)
      have d8 : (W.alloc (.cells #[.int .i64 1, .int .i64 an, .string as_] 45)).cell? ⟨W.heap.size, 2, none⟩ = some (.string as_) := by simp
      have HKA0 := Lib.hid hka0
      clear hka0
      go_region_held3 (fun w' => w'.cell? ⟨m, 0, none⟩ = some (.string p.name) ∧ w'.cell? ⟨m, 1, none⟩ = some (.int .i64 p.weight) ∧ w'.cell? ⟨m, 2, none⟩ = some (.slice p.va p.vs.length p.vc) ∧ w'.cell? ⟨m, 3, none⟩ = some (.slice p.sa p.ss.length p.sc) ∧
          w'.cell? ⟨m, 4, none⟩ = some (.slice (some ⟨g, 0, none⟩) now.length c) ∧ w'.cell? ⟨W.heap.size, 2, none⟩ = some (.string as_) ∧ w'.cell? ⟨g, j, none⟩ = some (.int .i64 x)) (go_keep) (first
        | (go_at_call 30
           refine (Var_is p as_ _ (HM.out.pr.nil HKA0.out.drew)).mono ?_
           rintro e w2 ⟨rfl, hk2⟩
           rw [show varIx _ _ = _ from HI.out]
           have hka := HKA0.out.drew.step hk2
           have cj := hka.cell (HM.out.at HY.out) (fun h => h)
           have e0 := hka.cell c0 (fun h => h)
           have e1 := hka.cell c1 (fun h => h)
           have e2 := hka.cell c2 (fun h => h)
           have e3 := hka.cell c3 (fun h => h)
           have e4 := hka.cell c4 (fun h => h)
           have e8 := hk2.cell (p := ⟨W.heap.size, 2, none⟩) (v := .string as_) (by simp) (fun h => h)
           have HKA := Lib.hid hka
           clear hka hk2))
      go_wp2_with fail
      go_ret
      exact ⟨rfl, HKA.out⟩
  · have h1b : (ak == 1) = false := by simp [h1]
    by_cases h2 : ak = 2
    · subst h2
      have hxv : x = value := by
        have := HX.out
        simp [argV] at this
        exact this.symm
      subst hxv
      clear h1
      go_wp2_with fail
      go_wp2_with fail
      go_ret
      exact ⟨rfl, (by (repeat (first | exact Kept.refl _ _ | refine Kept.drew ?_ | refine Kept.alloc ?_ _)))⟩
    · have h2b : (ak == 2) = false := by simp [h2]
      have hxv : x = an := by
        have := HX.out
        simp [argV, h1, h2] at this
        exact this.symm
      subst hxv
      clear h1 h2
      go_wp2_with fail
      go_ret
      exact ⟨rfl, (by (repeat (first | exact Kept.refl _ _ | refine Kept.drew ?_ | refine Kept.alloc ?_ _)))⟩
end Go.Proofs.Ytnohhpinigkccaa.Mo
