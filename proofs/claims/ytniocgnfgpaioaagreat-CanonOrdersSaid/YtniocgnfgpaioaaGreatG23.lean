/- Graphs in memory; the walks of graph.there, Len, Weight, Between, Join; The walk of graph.Join; The walks of slices.Clone at int64 and graph.New. -/
import Derived.Test.YtniocgnfgpaioaaGreatG22
set_option linter.unusedVariables false
set_option linter.unusedSimpArgs false
section
namespace Go.Proofs.YtniocgnfgpaioaaGreat.Gr
open Go Go.RowKit Go.Maps Go.Shelf Go.Proofs.YtniocgnfgpaioaaGreat.Lb Go.Proofs.YtniocgnfgpaioaaGreat.Mo
set_option maxRecDepth 8000
structure GMap where
 mb : Nat
 v : Value
 es : List En
def GMap.ptr (m : GMap) : Value := .pointer (some ⟨m.mb, 0, none⟩)
/-- A graph in memory. -/
structure IsG (w : World) (base gb : Nat) (A : Option Addr) (c : Nat) (B : Option Addr) (d : Nat) (ws : List Int) (ms : List GMap) : Prop where
 hb : base ≤ gb
 hd : w.heap[gb]? = some (.cells #[.slice A ws.length c, .slice B ms.length d] 102 (0, 0))
 hw : w.ownsRow base 2 1 (.slice A ws.length c) ws.length (ws.map (.int .i64))
 hn : w.ownsRow base 105 1 (.slice B ms.length d) ms.length (ms.map GMap.ptr)
 hm : ∀ m ∈ ms, IsMap w base m.mb m.v m.es
 hx : ∀ (i j : Nat) (a b : GMap), i ≠ j → ms[i]? = some a → ms[j]? = some b → a.mb ≠ b.mb ∧ ∀ t, a.v.ownBlock = some t → b.v.ownBlock ≠ some t
 hl : ws.length = ms.length
 few : ms.length ≤ 4096
theorem IsG.nil {w w' : World} {base gb c d : Nat} {A B : Option Addr} {ws : List Int} {ms : List GMap} (H : IsG w base gb A c B d ws ms) (hk : Kept Nil w w') : IsG w' base gb A c B d ws ms :=
 ⟨H.hb, hk.heap H.hd (fun h => h), hk.own H.hw (fun _ _ h => h), hk.own H.hn (fun _ _ h => h), fun m hm => (H.hm m hm).nil hk, H.hx, H.hl, H.few⟩
theorem IsG.set {w w' : World} {base gb c d a : Nat} {A B : Option Addr} {ws : List Int} {ms : List GMap} {p : GMap} {v' : Value} {es' : List En} (H : IsG w base gb A c B d ws ms) (hp : ms[a]? = some p) (hend : IsMap w' base p.mb v' es')
  (hv : v'.ownBlock = p.v.ownBlock ∨ ∃ i, v'.ownBlock = some i ∧ w.heap.size ≤ i) (hk : Kept (fun i => i = p.mb ∨ p.v.ownBlock = some i) w w') : IsG w' base gb A c B d ws (ms.set a ⟨p.mb, v', es'⟩) := by
 have hal := (List.getElem?_eq_some_iff.1 hp).1
 have hpm := H.hm p (List.mem_of_getElem? hp)
 have hmapt : ∀ {g t : Nat} {cur : Array Value}, w.heap[g]? = some (.cells cur t (0, 0)) → t ≠ 138 → t ≠ 146 → ¬ (g = p.mb ∨ p.v.ownBlock = some g) := by
  intro g t cur h1 h2 h3 h4
  rcases h4 with rfl | h4
  ·exact ne_type h1 hpm.hd h2 rfl
  ·obtain ⟨cur2, h5⟩ := own_type hpm.own h4
   exact ne_type h1 h5 h3 rfl
 have hptr : (ms.set a ⟨p.mb, v', es'⟩).map GMap.ptr = ms.map GMap.ptr := by
  rw [List.map_set]
  refine List.ext_getElem? fun j => ?_
  rw [List.getElem?_set]
  by_cases e : a = j
  ·subst e
   rw [if_pos rfl, if_pos (by simpa using hal), List.getElem?_map, hp]
   rfl
  ·rw [if_neg e]
 refine ⟨H.hb, ?_, ?_, ?_, fun m hm => ?_, fun i j x y hij hx hy => ?_, by rw [List.length_set]; exact H.hl, by rw [List.length_set]; exact H.few⟩
 ·rw [List.length_set]
  exact hk.heap H.hd (hmapt H.hd (by decide) (by decide))
 ·exact hk.own H.hw (fun i e => by obtain ⟨cur, h9⟩ := own_type H.hw e; exact hmapt h9 (by decide) (by decide))
 ·rw [List.length_set, hptr]
  exact hk.own H.hn (fun i e => by obtain ⟨cur, h9⟩ := own_type H.hn e; exact hmapt h9 (by decide) (by decide))
 ·obtain ⟨j, hj, rfl⟩ := List.mem_iff_getElem.1 hm
  rw [List.length_set] at hj
  rw [List.getElem_set]
  by_cases e : a = j
  ·rw [if_pos e]; exact hend
  ·rw [if_neg e]
   have hmj := H.hm ms[j] (List.getElem_mem _)
   obtain ⟨x1, x2⟩ := H.hx a j p ms[j] e hp (List.getElem?_eq_getElem hj)
   refine hmj.kept hk (fun h => ?_) (fun i hi h => ?_)
   ·rcases h with h | h
    ·exact x1 h.symm
    ·obtain ⟨cur, h9⟩ := own_type hpm.own h
     exact ne_type h9 hmj.hd (by decide) rfl
   ·rcases h with h | h
    ·obtain ⟨cur, h9⟩ := own_type hmj.own hi
     exact ne_type h9 hpm.hd (by decide) h
    ·exact x2 i h hi
 ·have hlow : ∀ (m : GMap), m ∈ ms → ∀ i, m.v.ownBlock = some i → i < w.heap.size := fun m hm i hi => ((H.hm m hm).own.lt i hi).2
  rw [List.getElem?_set] at hx hy
  by_cases e1 : a = i
  ·rw [if_pos e1, if_pos hal] at hx
   rw [if_neg (by omega)] at hy
   cases hx
   obtain ⟨x1, x2⟩ := H.hx a j p y (by omega) hp hy
   refine ⟨x1, fun t ht hty => ?_⟩
   rcases hv with h | ⟨i9, h, hi9⟩
   ·simp only at ht; rw [h] at ht; exact x2 t ht hty
   ·simp only at ht; rw [h] at ht; cases ht; have := hlow y (List.mem_of_getElem? hy) _ hty; omega
  ·rw [if_neg e1] at hx
   by_cases e2 : a = j
   ·rw [if_pos e2, if_pos hal] at hy
    cases hy
    obtain ⟨x1, x2⟩ := H.hx i a x p (by omega) hx hp
    refine ⟨x1, fun t ht hty => ?_⟩
    rcases hv with h | ⟨i9, h, hi9⟩
    ·simp only at hty; rw [h] at hty; exact x2 t ht hty
    ·simp only at hty; rw [h] at hty; cases hty; have := hlow x (List.mem_of_getElem? hx) _ ht; omega
   ·rw [if_neg e2] at hy
    exact H.hx i j x y hij hx hy
theorem there_is (base gb c d : Nat) (A B : Option Addr) (ws : List Int) (ms : List GMap) (i : Nat) (w : World) (H : IsG w base gb A c B d ws ms) (hi : i < ms.length) :
  Calls Tryz.prog 62 #[.pointer (some ⟨gb, 0, none⟩), .int .i64 i] w fun e w' => e = .returned (.bool true) ∧ w' = w := by
 have c0 : w.cell? ⟨gb, 0, none⟩ = some (.slice A ms.length c) := by rw [cell_of H.hd, H.hl]; rfl
 have hgb : gb < w.heap.size := World.block_lt_of_cell? _ _ c0
 have h1 : decide ((0 : Int) ≤ (i : Int)) = true := decide_eq_true (by omega)
 have h2 : decide ((i : Int) < (ms.length : Int)) = true := decide_eq_true (by omega)
 clear H
 go_enter Tryz.func62, Tryz.ntmps62
 go_wp2
 go_ret
 exact ⟨rfl, rfl⟩
theorem Len_is (base gb c d : Nat) (A B : Option Addr) (ws : List Int) (ms : List GMap) (w : World) (H : IsG w base gb A c B d ws ms) :
  Calls Tryz.prog 20 #[.pointer (some ⟨gb, 0, none⟩)] w fun e w' => e = .returned (.int .i64 ms.length) ∧ w' = w := by
 have c0 : w.cell? ⟨gb, 0, none⟩ = some (.slice A ms.length c) := by rw [cell_of H.hd, H.hl]; rfl
 have hgb : gb < w.heap.size := World.block_lt_of_cell? _ _ c0
 clear H
 go_enter Tryz.func20, Tryz.ntmps20
 go_wp2
 go_ret
 exact ⟨rfl, rfl⟩
theorem Weight_is (base gb c d : Nat) (A B : Option Addr) (ws : List Int) (ms : List GMap) (i : Nat) (x : Int) (w : World) (H : IsG w base gb A c B d ws ms) (hx : ws[i]? = some x) :
  Calls Tryz.prog 21 #[.pointer (some ⟨gb, 0, none⟩), .int .i64 i] w fun e w' => e = .returned (.int .i64 x) ∧ w' = w := by
 have hi := (List.getElem?_eq_some_iff.1 hx).1
 have hth := there_is base gb c d A B ws ms i w H (by rw [← H.hl]; exact hi)
 obtain ⟨g, cap, e1, hbg, hgs, _, _⟩ := (own_form H.hw).resolve_left (fun h => by omega)
 cases e1
 have c0 : w.cell? ⟨gb, 0, none⟩ = some (.slice (some ⟨g, 0, none⟩) ws.length c) := by rw [cell_of H.hd]; rfl
 have hgb : gb < w.heap.size := World.block_lt_of_cell? _ _ c0
 have c1 : w.cell? ⟨g, i, none⟩ = some (.int .i64 x) := own_cell H.hw (by rw [List.getElem?_map, hx]; rfl)
 clear H hx
 go_enter Tryz.func21, Tryz.ntmps21
 go_wp2_with (go_at_call 62; with_reducible refine hth.mono ?_; rintro e9 w5 ⟨rfl, rfl⟩)
 go_ret
 exact ⟨rfl, rfl⟩
theorem Between_is (base gb c d : Nat) (A B : Option Addr) (ws : List Int) (ms : List GMap) (a b : Nat) (m : GMap) (w : World) (H : IsG w base gb A c B d ws ms) (hm : ms[a]? = some m) :
  Calls Tryz.prog 23 #[.pointer (some ⟨gb, 0, none⟩), .int .i64 a, .int .i64 b] w fun e w' => e = .returned (.int .i64 (val b m.es)) ∧ Kept Nil w w' := by
 have ha := (List.getElem?_eq_some_iff.1 hm).1
 have hth := there_is base gb c d A B ws ms a w H ha
 obtain ⟨g, cap, e1, hbg, hgs, _, _⟩ := (own_form H.hn).resolve_left (fun h => by omega)
 cases e1
 have c0 : w.cell? ⟨gb, 1, none⟩ = some (.slice (some ⟨g, 0, none⟩) ms.length d) := by rw [cell_of H.hd]; rfl
 have hgb : gb < w.heap.size := World.block_lt_of_cell? _ _ c0
 have c1 : w.cell? ⟨g, a, none⟩ = some (.pointer (some ⟨m.mb, 0, none⟩)) := own_cell H.hn (by rw [List.getElem?_map, hm]; rfl)
 have hget := Get_is base m.mb m.v m.es b w (H.hm m (List.mem_of_getElem? hm))
 clear H hm
 go_enter Tryz.func23, Tryz.ntmps23
 go_wp2_with (first | (go_at_call 62; with_reducible refine hth.mono ?_; rintro e9 w5 ⟨rfl, rfl⟩) | (go_at_call 63; with_reducible refine hget.mono ?_; rintro e9 w6 ⟨rfl, hk6⟩))
 go_ret
 exact ⟨rfl, hk6⟩
end Go.Proofs.YtniocgnfgpaioaaGreat.Gr
end
section
namespace Go.Proofs.YtniocgnfgpaioaaGreat.Gr
open Go Go.RowKit Go.Maps Go.Shelf Go.Proofs.YtniocgnfgpaioaaGreat.Lb Go.Proofs.YtniocgnfgpaioaaGreat.Mo
set_option maxRecDepth 8000
structure JoinEnd (base gb c d : Nat) (A B : Option Addr) (ws : List Int) (ms : List GMap) (a b : Nat) (p q : GMap) (x : Int) (w : World) (e : Ending) (w' : World) : Prop where
 r : ∃ n, e = .returned (.int .i64 n)
 m : ∃ p' q' : GMap, p'.es = put b (val b p.es + x) p.es ∧ q'.es = put a (val b p.es + x) q.es ∧ IsG w' base gb A c B d ws ((ms.set a p').set b q')
 k : Kept (fun i => base ≤ i) w w'
set_option maxHeartbeats 4000000 in
theorem Join_is (base gb c d : Nat) (A B : Option Addr) (ws : List Int) (ms : List GMap) (a b : Nat) (p q : GMap) (x : Int) (w : World) (H : IsG w base gb A c B d ws ms) (hp : ms[a]? = some p) (hq : ms[b]? = some q) (hab : a ≠ b) (hm1 : mayB x = true) (hm2 : mayB (val b p.es + x) = true)
  (h1 : hit b p.es = true ∨ pos b p.es = p.es.length) (h2 : hit a q.es = true ∨ pos a q.es = q.es.length) (hf1 : p.es.length < 10000) (hf2 : q.es.length < 10000) :
  Calls Tryz.prog 58 #[.pointer (some ⟨gb, 0, none⟩), .int .i64 a, .int .i64 b, .int .i64 x] w fun e w' => JoinEnd base gb c d A B ws ms a b p q x w e w' := by
 have ha := (List.getElem?_eq_some_iff.1 hp).1
 have hb := (List.getElem?_eq_some_iff.1 hq).1
 have HH := Lib.hid H
 have HHP := Lib.hid hp
 have HHQ := Lib.hid hq
 have HB1 := Lib.hid H.hb
 obtain ⟨v, hv⟩ : ∃ v, val b p.es = v := ⟨_, rfl⟩
 have hth1 := there_is base gb c d A B ws ms a w H ha
 have hth2 := there_is base gb c d A B ws ms b w H hb
 have hbt := Between_is base gb c d A B ws ms a b p w H hp
 rw [hv] at hbt hm2
 have hy1 := may_is x
 have hy2 := may_is (v + x)
 rw [hm1] at hy1
 rw [hm2] at hy2
 have hwr : IntKind.i64.wrap (v + x) = v + x := by
  unfold mayB inB at hm2
  simp at hm2
  rw [IntKind.wrap_i64]
  omega
 have hne : ((a : Int) == (b : Int)) = false := by simp; omega
 have hned : decide ((a : Int) = (b : Int)) = false := by simp; omega
 obtain ⟨g, cap, e1, hbg, hgs, _, _⟩ := (own_form H.hn).resolve_left (fun h => by omega)
 cases e1
 have C0 := Lib.hid (show w.cell? ⟨gb, 1, none⟩ = some (.slice (some ⟨g, 0, none⟩) ms.length d) by rw [cell_of H.hd]; rfl)
 have CA := Lib.hid (show w.cell? ⟨g, a, none⟩ = some p.ptr from own_cell H.hn (by rw [List.getElem?_map, hp]; rfl))
 have CB := Lib.hid (show w.cell? ⟨g, b, none⟩ = some q.ptr from own_cell H.hn (by rw [List.getElem?_map, hq]; rfl))
 have hgb : gb < w.heap.size := World.block_lt_of_cell? _ _ C0.out
 have HM1 := Lib.hid hm1
 have HM2 := Lib.hid hm2
 have HV := Lib.hid hv
 have HH1 := Lib.hid h1
 have HH2 := Lib.hid h2
 clear H hp hq hv hm1 hm2 h1 h2
 go_enter Tryz.func58, Tryz.ntmps58
 go_wp2_with (first | (go_at_call 62; with_reducible refine hth1.mono ?_; rintro e9 w5 ⟨rfl, h5⟩; have h5s := h5.symm; clear h5; subst h5s) | (go_at_call 62; with_reducible refine hth2.mono ?_; rintro e9 w5 ⟨rfl, h5⟩; have h5s := h5.symm; clear h5; subst h5s) | (go_at_call 23; with_reducible refine hbt.mono ?_; rintro e9 w6 ⟨rfl, hk6⟩; have c0 := hk6.cell C0.out (fun h => h); have ca := hk6.cell CA.out (fun h => h); have cb := hk6.cell CB.out (fun h => h); have hz6 := hk6.size; have hgb6 : gb < w6.heap.size := (by omega); have hg6 : g < w6.heap.size := (by omega); have HK6 := Lib.hid hk6; clear hk6) | (go_at_call 92; with_reducible refine (hy1 _).mono ?_; rintro e9 w7 ⟨rfl, rfl⟩) | (go_at_call 92; with_reducible refine (hy2 _).mono ?_; rintro e9 w7 ⟨rfl, rfl⟩))
 unfold GMap.ptr
 have hh7 := HH.out.nil HK6.out
 have hpm := hh7.hm p (List.mem_of_getElem? HHP.out)
 refine (Put_is base p.mb p.v p.es b (v + x) _ hpm HH1.out hf1).mono ?_
 rintro e9 w8 ⟨⟨r8, rfl⟩, ⟨v8, hm8, hv8⟩, hk8⟩
 have hg8 := hh7.set HHP.out hm8 hv8 hk8
 have hb8 : ∀ i, i = p.mb ∨ p.v.ownBlock = some i → base ≤ i := fun i h => by
  rcases h with rfl | h
  ·exact hpm.hb
  ·exact (hpm.own.lt i h).1
 have hgb8 : gb < w8.heap.size := by have := hk8.size; omega
 have hgg8 : g < w8.heap.size := by have := hk8.size; omega
 have hqa : (ms.set a ⟨p.mb, v8, put b (v + x) p.es⟩)[b]? = some q := by rw [List.getElem?_set_ne hab]; exact HHQ.out
 have k0 : w8.cell? ⟨gb, 1, none⟩ = some (.slice (some ⟨g, 0, none⟩) ms.length d) := by
  have h9 := hg8.hd
  rw [List.length_set] at h9
  rw [cell_of h9]; rfl
 have kb : w8.cell? ⟨g, b, none⟩ = some (.pointer (some ⟨q.mb, 0, none⟩)) := own_cell hg8.hn (by rw [List.getElem?_map, hqa]; rfl)
 have HG8 := Lib.hid hg8
 have HK8 := Lib.hid (show Kept (fun i => base ≤ i) w w8 from HK6.out.any.trans (hk8.mono (fun i _ h => hb8 i h)) (fun i h => .inl h))
 have HQA := Lib.hid hqa
 clear hh7 hpm hm8 hv8 hk8 hg8 hb8 hqa c0 ca cb
 go_wp2_with fail
 have hqm := HG8.out.hm q (List.mem_of_getElem? HQA.out)
 refine (Put_is base q.mb q.v q.es a (v + x) _ hqm HH2.out hf2).mono ?_
 rintro e9 w9 ⟨⟨r9, rfl⟩, ⟨v9, hm9, hv9⟩, hk9⟩
 have hg9 := HG8.out.set HQA.out hm9 hv9 hk9
 have hb9 : ∀ i, i = q.mb ∨ q.v.ownBlock = some i → base ≤ i := fun i h => by
  rcases h with rfl | h
  ·exact hqm.hb
  ·exact (hqm.own.lt i h).1
 have HG9 := Lib.hid hg9
 have HK9 := Lib.hid (show Kept (fun i => base ≤ i) w w9 from HK8.out.trans (hk9.mono (fun i _ h => hb9 i h)) (fun i h => .inl h))
 clear hqm hm9 hv9 hk9 hg9 hb9 k0 kb
 go_wp2_with fail
 go_ret
 exact ⟨⟨_, rfl⟩, ⟨⟨p.mb, v8, put b (v + x) p.es⟩, ⟨q.mb, v9, put a (v + x) q.es⟩, by rw [HV.out], by rw [HV.out], HG9.out⟩, HK9.out⟩
end Go.Proofs.YtniocgnfgpaioaaGreat.Gr
end
section
namespace Go.Proofs.YtniocgnfgpaioaaGreat.Gr
open Go Go.RowKit Go.Maps Go.Shelf Go.Proofs.YtniocgnfgpaioaaGreat.Lb Go.Proofs.YtniocgnfgpaioaaGreat.Mo
set_option maxRecDepth 8000
def i64c (z : Int) : List Value := [.int .i64 z]
theorem i64c_len (z : Int) : (i64c z).length = 1 := rfl
theorem i64c_flat (zs : List Int) : zs.flatMap i64c = zs.map (.int .i64) := by
 induction zs with
 | nil => rfl
 | cons z zs ih => rw [List.flatMap_cons, ih]; rfl
theorem i64c_one (zs : List Int) : ∀ u ∈ zs.flatMap i64c, u.oneCell' = true := by
 rw [i64c_flat]
 intro u hu
 obtain ⟨z, _, rfl⟩ := List.mem_map.1 hu
 rfl
theorem infoI : (Tryz.prog.info? 2).map (fun i => (i.zero, i.size, i.bytes)) = some (some (.int .i64 0), 1, 8) := by kernel_rfl
theorem infoMp : (Tryz.prog.info? 105).map (fun i => (i.zero, i.size, i.bytes)) = some (some (.pointer none), 1, 8) := by kernel_rfl
/-- A graph that is being made. -/
structure NewAt (w : World) (base gb : Nat) (A : Option Addr) (c : Nat) (B : Option Addr) (d : Nat) (ws : List Int) (ms : List GMap) : Prop where
 hd : w.heap[gb]? = some (.cells #[.slice A ws.length c, .slice B ms.length d] 102 (0, 0))
 hn : w.ownsRow base 105 1 (.slice B ms.length d) ms.length (ms.map GMap.ptr)
 hm : ∀ m ∈ ms, m.v = .slice none 0 0 ∧ m.es = [] ∧ base ≤ m.mb ∧ w.heap[m.mb]? = some (.cells #[.slice none 0 0] 138 (0, 0))
 hx : ∀ (i j : Nat) (a b : GMap), i ≠ j → ms[i]? = some a → ms[j]? = some b → a.mb ≠ b.mb
theorem NewAt.low {w : World} {base gb c d : Nat} {A B : Option Addr} {ws : List Int} {ms : List GMap} (H : NewAt w base gb A c B d ws ms) {m : GMap} (hm : m ∈ ms) : m.mb < w.heap.size := (Array.getElem?_eq_some_iff.1 (H.hm m hm).2.2.2).1
theorem NewAt.ne {w : World} {base gb c d : Nat} {A B : Option Addr} {ws : List Int} {ms : List GMap} (H : NewAt w base gb A c B d ws ms) {i : Nat} (hi : (Value.slice B ms.length d).ownBlock = some i) : i ≠ gb ∧ ∀ m ∈ ms, i ≠ m.mb := by
 obtain ⟨cur, h9⟩ := own_type H.hn hi
 exact ⟨ne_type h9 H.hd (by decide), fun m hm => ne_type h9 (H.hm m hm).2.2.2 (by decide)⟩
theorem NewAt.isG {w : World} {base gb c d : Nat} {A B : Option Addr} {ws : List Int} {ms : List GMap} (H : NewAt w base gb A c B d ws ms) (hb : base ≤ gb) (hw : w.ownsRow base 2 1 (.slice A ws.length c) ws.length (ws.map (.int .i64))) (hl : ws.length = ms.length) (few : ms.length ≤ 4096) : IsG w base gb A c B d ws ms :=
 ⟨hb, H.hd, hw, H.hn, fun m hm => by
  obtain ⟨h1, h2, h3, h4⟩ := H.hm m hm
  rw [h1, h2]
  exact ⟨h3, h4, World.ownsRow_nil _ _ _ _, by simp, List.Pairwise.nil⟩, fun i j a b hij ha hb => ⟨H.hx i j a b hij ha hb, fun t ht => by rw [(H.hm a (List.mem_of_getElem? ha)).1] at ht; simp [Value.ownBlock] at ht⟩, hl, few⟩
set_option maxHeartbeats 2000000 in
theorem CloneI_is (l : List Int) (A : Option Addr) (cap : Nat) (w : World) (hr : RowOf w A 1 i64c l) (hn : A = none → cap = 0) (hl : l.length ≤ 100000) :
  Calls Tryz.prog 91 #[.slice A l.length cap] w fun e w' => ∃ v, e = .returned v ∧ w'.ownsRow w.heap.size 2 1 v l.length (l.flatMap i64c) ∧ Kept Nil w w' := by
 obtain ⟨j0, hjnf, hy0, hy1, hy2⟩ := info_parts infoI
 cases A with
 | none =>
  have h0 : l = [] := by rcases hr with h | ⟨b, off, h, _⟩; exact h; cases h
  have hc := hn rfl
  subst h0 hc
  simp only [List.length_nil]
  have hnil : ∀ w : World, (binOp .eql 95 (.slice none 0 0) (.slice none 0 0)).run Tryz.prog w = .ok (.bool true) w := fun _ => by kernel_rfl
  go_enter Tryz.func91, Tryz.ntmps91
  go_wp2_with fail
  go_ret
  exact ⟨_, rfl, World.ownsRow_nil _ _ _ _, Kept.refl _ _⟩
 | some a =>
  have HR := Lib.hid hr
  clear hr hn
  have hsome : ∀ (n c : Nat) (w : World), (binOp .eql 95 (.slice (some a) n c) (.slice none 0 0)).run Tryz.prog w = .ok (.bool false) w := fun _ _ _ => by kernel_rfl
  go_enter Tryz.func91, Tryz.ntmps91
  go_wp2_with (at_builtin; refine stop_append _ _ _ rfl ?_)
  unfold StopA
  refine wpList_append_src rfl _ _ 95 rfl w.heap.size 2 j0 (.int .i64 0) 1 8 Tryz.underlying95 hjnf hy0 hy1 hy2 rfl (by decide) (.slice (some ⟨w.heap.size, 0, none⟩) 0 0) 0 [] rfl (World.ownsRow_lit (base := w.heap.size) (e := 2) (size := 1) w #[] 0 (Nat.le_refl _) (by decide) rfl) (.slice (some a) l.length cap) l.length (l.flatMap i64c) rfl ((rowOf_nil i64c_len ((Kept.refl Nil w).alloc _) HR.out).src i64c_len (by decide) (fun h => by cases h)) (i64c_one l) (by unfold maxLen; omega) (by omega) (by simp) ?_
  intro v5 w5 hown5 hgrow5
  rw [Nat.zero_add, List.nil_append] at hown5
  have hk5 : Kept Nil w w5 := ((Kept.refl Nil w).alloc (.cells #[] 2)).grown hgrow5 (fun j e => .inr (by have h9 : w.heap.size = j := (by simpa [Value.ownBlock] using e); omega))
  obtain ⟨A5, c5, rfl⟩ := own_slice hown5
  have HO := Lib.hid hown5
  have HK := Lib.hid hk5
  clear hown5 hgrow5 hk5
  go_wp2_with fail
  go_ret
  exact ⟨_, rfl, HO.out, HK.out⟩
structure NewEnd (ws : List Int) (w : World) (e : Ending) (w' : World) : Prop where
 k : Kept Nil w w'
 ok : ∃ gb A c B d ms, e = .returned (.tuple #[.pointer (some ⟨gb, 0, none⟩), .int .i64 0]) ∧ IsG w' w.heap.size gb A c B d ws ms ∧ ∀ m ∈ ms, m.es = []
set_option maxHeartbeats 4000000 in
theorem New_is (ws : List Int) (A0 : Option Addr) (c0 : Nat) (w : World) (hr : RowOf w A0 1 i64c ws) (hn : A0 = none → c0 = 0) (hl : ws.length ≤ 4096) (hm : ∀ x ∈ ws, mayB x = true) :
  Calls Tryz.prog 57 #[.slice A0 ws.length c0] w fun e w' => NewEnd ws w e w' := by
 obtain ⟨j0, hjnf, hy0, hy1, hy2⟩ := info_parts infoMp
 have HR := Lib.hid hr
 have HN := Lib.hid hn
 have HM := Lib.hid hm
 have h40 : decide ((4096 : Int) < (ws.length : Int)) = false := decide_eq_false (by omega)
 clear hr hn hm
 go_enter Tryz.func57, Tryz.ntmps57
 go_wp2_with (go_at_call 91; with_reducible refine (CloneI_is ws A0 c0 w HR.out HN.out (by omega)).mono ?_; rintro e9 w1 ⟨v1, rfl, ho1, hk1⟩; obtain ⟨A, c, rfl⟩ := own_slice ho1; have HO1 := Lib.hid ho1; have HK1 := Lib.hid hk1; have hz1 := hk1.size; clear ho1 hk1)
 obtain ⟨W2, hW2⟩ : ∃ W2, w1.alloc (.cells #[.slice A ws.length c, .slice none 0 0] 102) = W2 := ⟨_, rfl⟩
 rw [hW2]
 have hG2 : W2.heap[w1.heap.size]? = some (.cells #[.slice A ws.length c, .slice none 0 0] 102 (0, 0)) := by rw [← hW2]; exact heap_new _ _
 have HG2 := Lib.hid hG2
 have hk2 : Kept Nil w1 W2 := by rw [← hW2]; exact (Kept.refl Nil w1).alloc _
 have HK2 := Lib.hid (HK1.out.step hk2)
 have HO2 := Lib.hid (hk2.own HO1.out (fun _ _ h => h))
 have hz2 := hk2.size
 clear hW2 hG2 hk2
 go_loopw [16] (fun i wr => ∃ (k : Nat) (B : Option Addr) (d : Nat) (ms : List GMap), k ≤ ws.length ∧ i = .int .i64 k ∧ ms.length = k ∧ NewAt wr w.heap.size w1.heap.size A c B d ws ms ∧ wr.ownsRow w.heap.size 2 1 (.slice A ws.length c) ws.length (ws.map (.int .i64)) ∧ Kept Nil w wr) (fun i _ => ws.length - (intOf i).toNat)
 case atStart =>
  exact ⟨0, none, 0, [], Nat.zero_le _, rfl, rfl, ⟨HG2.out, World.ownsRow_nil _ _ _ _, fun m hm => by simp at hm, fun i j a b _ ha => by simp at ha⟩, by rw [← i64c_flat]; exact HO2.out, HK2.out⟩
 case round =>
  obtain ⟨k, B, d, ms, hk, rfl, hml, hna, how, hK⟩ := hrel
  have HML := Lib.hid hml
  have HNA := Lib.hid hna
  have HOW := Lib.hid how
  have HKR := Lib.hid hK
  have hzr := hK.size
  have hgr : w1.heap.size < wr.heap.size := (Array.getElem?_eq_some_iff.1 hna.hd).1
  clear hml hna how hK
  by_cases hlt : k < ws.length
  ·obtain ⟨x, ex⟩ : ∃ x, ws[k]? = some x := ⟨_, List.getElem?_eq_getElem hlt⟩
   have hlt2 : (k : Int) < (ws.length : Int) := by omega
   have hw : IntKind.i64.wrap ((k : Int) + 1) = (k : Int) + 1 := by rw [IntKind.wrap_i64]; omega
   have hmay := may_is x
   rw [HM.out x (List.mem_of_getElem? ex)] at hmay
   obtain ⟨b, off, rfl, hx0⟩ : ∃ b off, A0 = some ⟨b, off, none⟩ ∧ wr.cell? ⟨b, off + k, none⟩ = some (.int .i64 x) := by
    rcases HR.out with h | ⟨b, off, e, hc⟩
    ·rw [h] at hlt; simp at hlt
    ·have h9 := hc k x ex 0 (by decide)
     rw [Nat.mul_one, Nat.add_zero] at h9
     exact ⟨b, off, e, HKR.out.cell h9 (fun h => h)⟩
   have hbs : b < wr.heap.size := World.block_lt_of_cell? _ _ hx0
   have n1 : wr.cell? ⟨w1.heap.size, 1, none⟩ = some (.slice B k d) := by rw [cell_of HNA.out.hd, HML.out]; rfl
   clear ex
   go_wp2_with (first | (go_at_call 92; with_reducible refine (hmay _).mono ?_; rintro e9 w7 ⟨rfl, h7⟩; have h7s := h7.symm; clear h7; subst h7s) | (at_builtin; refine stop_append _ _ _ rfl ?_))
   unfold StopA
   obtain ⟨Wa, hWa⟩ : ∃ Wa, wr.alloc (.cells #[.slice none 0 0] 138) = Wa := ⟨_, rfl⟩
   have hka : Kept Nil wr Wa := by rw [← hWa]; exact (Kept.refl Nil wr).alloc _
   have hsa : Wa.heap.size = wr.heap.size + 1 := by rw [← hWa]; simp
   have hma : Wa.heap[wr.heap.size]? = some (.cells #[.slice none 0 0] 138 (0, 0)) := by rw [← hWa]; exact heap_new _ _
   have hoa : Wa.ownsRow w.heap.size 105 1 (.slice B k d) k (ms.map GMap.ptr) := by
    have h9 := hka.own HNA.out.hn (fun _ _ h => h)
    rw [HML.out] at h9
    exact h9
   rw [hWa]
   have HWA := Lib.hid hsa
   have HMA := Lib.hid hma
   have HKA := Lib.hid hka
   have HOA := Lib.hid hoa
   clear hWa hma hka hoa
   refine wpList_append_own_at _ rfl _ _ 100 rfl w.heap.size 105 j0 (.pointer none) 1 8 Tryz.underlying100 hjnf hy0 hy1 hy2 rfl (by decide) (.slice B k d) k (ms.map GMap.ptr) rfl (HOA.out.alloc _) ⟨wr.heap.size + 1, 0, none⟩ 1 1 [.pointer (some ⟨wr.heap.size, 0, none⟩)] rfl rfl (by rw [← HWA.out]; exact cells_new _ _ _) (by simp [Value.oneCell']) (by unfold maxLen; omega) (by omega) (by simp; omega) ?_
   intro v9 w9 hown9 hgrow9 _ hat9
   obtain ⟨g9, c9, rfl⟩ := ownsRow_succ hown9
   have hkb : Kept (fun i => (Value.slice B k d).ownBlock = some i) Wa w9 := ((Kept.refl (fun i => (Value.slice B k d).ownBlock = some i) Wa).alloc _).grown hgrow9 (fun j e => .inl e)
   have hnb : ∀ i, (Value.slice B k d).ownBlock = some i → i ≠ w1.heap.size ∧ ∀ m ∈ ms, i ≠ m.mb := fun i hi => HNA.out.ne (by rw [HML.out]; exact hi)
   have hob : ∀ i, (Value.slice B k d).ownBlock = some i → w.heap.size ≤ i ∧ i < wr.heap.size := fun i hi => by
    have h9 := HNA.out.hn
    rw [HML.out] at h9
    exact h9.lt i hi
   have hg9 : w9.heap[w1.heap.size]? = some (.cells #[.slice A ws.length c, .slice B k d] 102 (0, 0)) := by
    have h9 := HNA.out.hd
    rw [HML.out] at h9
    exact hkb.heap (HKA.out.heap h9 (fun h => h)) (fun h => (hnb _ h).1 rfl)
   have hm9 : w9.heap[wr.heap.size]? = some (.cells #[.slice none 0 0] 138 (0, 0)) := hkb.heap HMA.out (fun h => by have := (hob _ h).2; omega)
   have hms9 : ∀ m ∈ ms, m.v = .slice none 0 0 ∧ m.es = [] ∧ w.heap.size ≤ m.mb ∧ w9.heap[m.mb]? = some (.cells #[.slice none 0 0] 138 (0, 0)) := fun m hm => by
    obtain ⟨h1, h2, h3, h4⟩ := HNA.out.hm m hm
    exact ⟨h1, h2, h3, hkb.heap (HKA.out.heap h4 (fun h => h)) (fun h => (hnb _ h).2 m hm rfl)⟩
   have hz9 := hkb.size
   have HKB := Lib.hid hkb
   have HOB := Lib.hid hob
   have HG9 := Lib.hid hg9
   have HM9 := Lib.hid hm9
   have HMS9 := Lib.hid hms9
   have HO9 := Lib.hid hown9
   have hgg9 : w1.heap.size < w9.heap.size := by omega
   clear hown9 hgrow9 hat9 hkb hnb hob hg9 hm9 hms9 n1 hx0 hsa
   have n1 : w9.cell? ⟨w1.heap.size, 1, none⟩ = some (.slice B k d) := by rw [cell_of HG9.out]; rfl
   have nf1 : w9.frozen? ⟨w1.heap.size, 1, none⟩ = false := frozen_of HG9.out 1
   go_wp2_with fail
   obtain ⟨W10, hW10⟩ : ∃ W10, w9.setCell ⟨w1.heap.size, 1, none⟩ (.slice (some ⟨g9, 0, none⟩) (k + 1) c9) = W10 := ⟨_, rfl⟩
   simp only [hW10]
   have hk10 : Kept (fun i => i = w1.heap.size) w9 W10 := by rw [← hW10]; exact (Kept.refl (fun i => i = w1.heap.size) w9).setCell (.inl rfl) _
   have hg10 : W10.heap[w1.heap.size]? = some (.cells #[.slice A ws.length c, .slice (some ⟨g9, 0, none⟩) (k + 1) c9] 102 (0, 0)) := by rw [← hW10, heap_set HG9.out 1 _]; rfl
   have hlow : ∀ m ∈ ms, m.mb < wr.heap.size := fun m hm => HNA.out.low hm
   have hmne : ∀ m ∈ ms, m.mb ≠ w1.heap.size := fun m hm => ne_type (HMS9.out m hm).2.2.2 HG9.out (by decide)
   have hkall : Kept Nil w W10 := by
    have h1 : Kept (fun i => w.heap.size ≤ i) w w9 := (HKR.out.step HKA.out).any.trans HKB.out (fun i h => .inl (HOB.out i h).1)
    exact (h1.trans hk10 (fun i h => .inl (by (have h9 : i = w1.heap.size := h); omega))).mono (fun i hi h => absurd hi (by (have h9 : w.heap.size ≤ i := h); omega))
   go_round
   refine ⟨k + 1, some ⟨g9, 0, none⟩, c9, ms ++ [⟨wr.heap.size, .slice none 0 0, []⟩], by omega, by go_num, by simp [HML.out], ⟨?_, ?_, fun m hm => ?_, fun i j a b hij ha hb => ?_⟩, ?_, hkall⟩
   ·simp only [List.length_append, List.length_cons, List.length_nil, HML.out]; exact hg10
   ·have h9 := hk10.own HO9.out (fun i e h => by (have h9 : i = w1.heap.size := h); obtain ⟨cur, h8⟩ := own_type HO9.out e; exact ne_type h8 HG9.out (by decide) h9)
    simp only [List.length_append, List.length_cons, List.length_nil, HML.out, List.map_append, List.map_cons, List.map_nil]
    exact h9
   ·rcases List.mem_append.1 hm with h | h
    ·obtain ⟨h1, h2, h3, h4⟩ := HMS9.out m h
     exact ⟨h1, h2, h3, hk10.heap h4 (hmne m h)⟩
    ·simp only [List.mem_cons, List.not_mem_nil, or_false] at h
     subst h
     exact ⟨rfl, rfl, by simp only; omega, hk10.heap HM9.out (fun h => by (have h9 : wr.heap.size = w1.heap.size := h); omega)⟩
   ·by_cases e1 : i < ms.length
    ·rw [List.getElem?_append_left e1] at ha
     by_cases e2 : j < ms.length
     ·rw [List.getElem?_append_left e2] at hb
      exact HNA.out.hx i j a b hij ha hb
     ·rw [List.getElem?_append_right (by omega)] at hb
      have hb2 := List.mem_of_getElem? hb
      simp only [List.mem_cons, List.not_mem_nil, or_false] at hb2
      subst hb2
      have := hlow a (List.mem_of_getElem? ha)
      simp only; omega
    ·rw [List.getElem?_append_right (by omega)] at ha
     have ha2 := List.mem_of_getElem? ha
     simp only [List.mem_cons, List.not_mem_nil, or_false] at ha2
     subst ha2
     have hi2 := (List.getElem?_eq_some_iff.1 ha).1
     simp only [List.length_cons, List.length_nil] at hi2
     by_cases e2 : j < ms.length
     ·rw [List.getElem?_append_left e2] at hb
      have := hlow b (List.mem_of_getElem? hb)
      simp only; omega
     ·rw [List.getElem?_append_right (by omega)] at hb
      have hj2 := (List.getElem?_eq_some_iff.1 hb).1
      simp only [List.length_cons, List.length_nil] at hj2
      omega
   ·exact hk10.own (HKB.out.own (HKA.out.own HOW.out (fun _ _ h => h)) (fun i e h => by
     obtain ⟨cur, h8⟩ := own_type (HKA.out.own HOW.out (fun _ _ h => h)) e
     obtain ⟨cur2, h9⟩ := own_type HOA.out h
     exact ne_type h8 h9 (by decide) rfl)) (fun i e h => by
     (have h9 : i = w1.heap.size := h)
     obtain ⟨cur, h8⟩ := own_type HOW.out e
     have h7 := HNA.out.hd
     exact ne_type h8 h7 (by decide) h9)
   case measure => (simp [intOf] <;> omega)
  ·obtain rfl : k = ws.length := by omega
   go_wp2_with fail
   go_ret2
   exact ⟨HKR.out, w1.heap.size, A, c, B, d, ms, rfl, HNA.out.isG (by omega) HOW.out HML.out.symm (by rw [HML.out]; omega), fun m hm => (HNA.out.hm m hm).2.1⟩
end Go.Proofs.YtniocgnfgpaioaaGreat.Gr
end
