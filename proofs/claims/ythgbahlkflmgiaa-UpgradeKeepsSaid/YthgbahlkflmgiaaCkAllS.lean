/- What model.Check calls ahead of its checks: names and their places. -/
import Derived.Test.YthgbahlkflmgiaaCkEach
import Derived.Test.YthgbahlkflmgiaaIndex
import Derived.Test.YthgbahlkflmgiaaCkRefC
namespace Go.Proofs.Ythgbahlkflmgiaa.Mo
open Go Go.RowKit Go.Proofs.Ythgbahlkflmgiaa.Lb
set_option linter.unusedVariables false
set_option linter.unusedSimpArgs false

theorem cell_nil {w w' : World} {p : Addr} {v : Value} (hk : Kept Nil w w') (h : w.cell? p = some v) : w'.cell? p = some v := hk.cell h (fun h => h)
theorem rprocs_nil {w w' : World} {A : Option Addr} {ps : List Pr} (hk : Kept Nil w w') (h : RProcs w A ps) : RProcs w' A ps := by
  rcases h with e | ⟨b, off, e, hc⟩
  · exact .inl e
  · exact .inr ⟨b, off, e, fun j p hj => by obtain ⟨h1, h2, h3, h4⟩ := hc j p hj; exact ⟨hk.cell h1 (fun h => h), hk.cell h2 (fun h => h), hk.cell h3 (fun h => h), hk.cell h4 (fun h => h)⟩⟩
theorem NamesV_is (a b c d : Value) (ha : a.oneCell' = true) (hb : b.oneCell' = true) (hc : c.oneCell' = true) (hd : d.oneCell' = true) (A1 A2 A3 : Option Addr) (n1 n2 n3 c1 c2 c3 : Nat) (v : Int) (ea : a = .int .i64 v) (eb : b = .slice A1 n1 c1) (ec : c = .slice A2 n2 c2) (ed : d = .slice A3 n3 c3) (w : World) :
    Calls Try.prog 32 #[.agg #[a, b, c, d]] w fun e w' => e = .returned (.func (.func 52) #[] #[.pointer (some ⟨w.heap.size, 0, none⟩)]) ∧ w' = w.alloc (.cells #[a, b, c, d] 26) := by
  subst ea eb ec ed
  clear ha hb hc hd
  go_enter Try.func32, Try.ntmps32
  go_wp2
  go_ret
  exact ⟨rfl, rfl⟩
theorem names_bare (ps : List Pr) (A : Option Addr) (cap : Nat) (ver : Int) : mdNames ⟨ver, A, ps.map bareP, cap, none, [], 0, none, [], 0⟩ = ps.map Pr.name := by
  unfold mdNames
  simp only [List.map_nil, List.append_nil]
  induction ps with
  | nil => rfl
  | cons p ps ih => simp [List.flatMap_cons, prNames, bareP] at ih ⊢; exact ih
theorem names_links (ls : List Lk) (A : Option Addr) (cap : Nat) (ver : Int) : mdNames ⟨ver, none, [], 0, A, ls, cap, none, [], 0⟩ = ls.map Lk.name := by
  unfold mdNames; simp
theorem NamesBox_is (v : Int) (A1 A2 A3 : Option Addr) (n1 n2 n3 c1 c2 c3 : Nat) (w : World) :
    Calls Try.prog 32 #[.agg #[.int .i64 v, .slice A1 n1 c1, .slice A2 n2 c2, .slice A3 n3 c3]] w fun e w' => ∃ b, e = .returned (.func (.func 52) #[] #[.pointer (some ⟨b, 0, none⟩)]) ∧ w'.cell? ⟨b, 1, none⟩ = some (.slice A1 n1 c1) ∧ w'.cell? ⟨b, 2, none⟩ = some (.slice A2 n2 c2) ∧ Kept Nil w w' := by
  refine (NamesV_is _ _ _ _ rfl rfl rfl rfl A1 A2 A3 n1 n2 n3 c1 c2 c3 v rfl rfl rfl rfl w).mono ?_
  rintro e w' ⟨rfl, rfl⟩
  exact ⟨_, rfl, by simp, by simp, (Kept.refl Nil w).alloc _⟩
theorem IndexB_is (ps : List Pr) (A : Option Addr) (cap Bx : Nat) (w : World) (h1 : w.cell? ⟨Bx, 1, none⟩ = some (.slice A ps.length cap)) (h2 : w.cell? ⟨Bx, 2, none⟩ = some (.slice none 0 0)) (hr : RProcs w A (ps.map bareP)) (hsz : ∀ p ∈ ps, p.name.size ≤ maxLen) (hl : ps.length ≤ 4096) :
    Calls Try.prog 31 #[.func (.func 52) #[] #[.pointer (some ⟨Bx, 0, none⟩)]] w fun e w' => ∃ b, e = .returned (.map (some b)) ∧ (∃ k, IxS Try.prog 9 3 b k (ixF (ps.map Pr.name)) w') ∧ Kept Nil w w' := by
  have hn := names_bare ps A cap 0
  have hml : ps.length ≤ maxLen := by unfold maxLen; omega
  refine (index_is ⟨0, A, ps.map bareP, cap, none, [], 0, none, [], 0⟩ Bx w (by simpa using h1) (by simpa using h2) ⟨hr, ?_, .inl rfl, .inl rfl, by simp; omega, by simp, by simp⟩ ?_ (by simp; omega) (by simp) ?_ (by rw [hn]; simp; omega)).mono ?_
  · intro q hq
    obtain ⟨p, -, rfl⟩ := List.mem_map.1 hq
    exact ⟨.inl rfl, .inl rfl, by simp [bareP], by simp [bareP], by simp [bareP]⟩
  · rw [hn]
    intro s hs
    obtain ⟨p, hp, rfl⟩ := List.mem_map.1 hs
    exact hsz p hp
  · intro q hq
    obtain ⟨p, -, rfl⟩ := List.mem_map.1 hq
    simp [bareP]
  · rintro e w' ⟨rfl, hix, hk⟩
    rw [hn] at hix
    exact ⟨_, rfl, ⟨_, hix⟩, hk⟩
theorem IndexL_is (ls : List Lk) (A : Option Addr) (cap Bx : Nat) (w : World) (h1 : w.cell? ⟨Bx, 1, none⟩ = some (.slice none 0 0)) (h2 : w.cell? ⟨Bx, 2, none⟩ = some (.slice A ls.length cap)) (hr : RLinks w A ls) (hsz : ∀ l ∈ ls, l.name.size ≤ maxLen) (hl : ls.length ≤ 16384) :
    Calls Try.prog 31 #[.func (.func 52) #[] #[.pointer (some ⟨Bx, 0, none⟩)]] w fun e w' => ∃ b, e = .returned (.map (some b)) ∧ (∃ k, IxS Try.prog 9 3 b k (ixF (ls.map Lk.name)) w') ∧ Kept Nil w w' := by
  have hn := names_links ls A cap 0
  have hml : ls.length ≤ maxLen := by unfold maxLen; omega
  refine (index_is ⟨0, none, [], 0, A, ls, cap, none, [], 0⟩ Bx w (by simpa using h1) (by simpa using h2) ⟨.inl rfl, by simp, hr, .inl rfl, by simp, by simp; omega, by simp⟩ ?_ (by simp) (by simp; omega) (by simp) (by rw [hn]; simp; omega)).mono ?_
  · rw [hn]
    intro s hs
    obtain ⟨p, hp, rfl⟩ := List.mem_map.1 hs
    exact hsz p hp
  · rintro e w' ⟨rfl, hix, hk⟩
    rw [hn] at hix
    exact ⟨_, rfl, ⟨_, hix⟩, hk⟩
end Go.Proofs.Ythgbahlkflmgiaa.Mo
