/- What the statements of the chapter share: contracts over held models; one number of a new model turned; Numbers turned in place: what was a number is one; other blocks read as they did. Nothing of the program is named. -/
import Derived.Test.YtniocgnfgpaioaaGreatG34
import Derived.Test.YtniocgnfgpaioaaGreatG35
import Derived.Test.YtniocgnfgpaioaaGreatG36
import Derived.Test.YtniocgnfgpaioaaGreatG39
import Derived.Test.YtniocgnfgpaioaaGreatG40
import Derived.Test.YtniocgnfgpaioaaGreatG5
set_option linter.unusedVariables false
set_option linter.unusedSimpArgs false
section
namespace Go.Proofs.YtniocgnfgpaioaaGreat.Mo
open Go Go.RowKit Go.Proofs.YtniocgnfgpaioaaGreat.Lb Go.Proofs.YtniocgnfgpaioaaGreat.HpPure
set_option maxRecDepth 8000
theorem held_of_few {w : World} {m : Md} (hr : RModel w m) (ho : OkM m) (hf : FewP m) : HeldM w m :=
 ⟨hr, ho, ⟨by have := hf.pl; omega, by have := hf.ll; omega, by have := hf.el; omega, fun p hp => by have := hf.vs p hp; omega⟩⟩
theorem Few_h {ver : Int} {pa : Option Addr} {ps : List Pr} {pc : Nat} {la : Option Addr} {ls : List Lk} {lc : Nat} {ea : Option Addr} {es : List Ev} {ec : Nat} (w : World) (hm : RModel w ⟨ver, pa, ps, pc, la, ls, lc, ea, es, ec⟩) : Calls Tryz.prog 10 #[.agg #[.int .i64 ver, .slice pa ps.length pc, .slice la ls.length lc, .slice ea es.length ec]] w fun e w' => FewEnd ⟨ver, pa, ps, pc, la, ls, lc, ea, es, ec⟩ w e w' := Few_is ⟨ver, pa, ps, pc, la, ls, lc, ea, es, ec⟩ w hm
theorem Copy_h {ver : Int} {pa : Option Addr} {ps : List Pr} {pc : Nat} {la : Option Addr} {ls : List Lk} {lc : Nat} {ea : Option Addr} {es : List Ev} {ec : Nat} (w : World) (hm : HeldM w ⟨ver, pa, ps, pc, la, ls, lc, ea, es, ec⟩) : Calls Tryz.prog 11 #[.agg #[.int .i64 ver, .slice pa ps.length pc, .slice la ls.length lc, .slice ea es.length ec]] w fun e w' => CopyEnd ⟨ver, pa, ps, pc, la, ls, lc, ea, es, ec⟩ w e w' := Copy_is ver ps ls es pa la ea pc lc ec w hm
theorem Canon_h {ver : Int} {pa : Option Addr} {ps : List Pr} {pc : Nat} {la : Option Addr} {ls : List Lk} {lc : Nat} {ea : Option Addr} {es : List Ev} {ec : Nat} (w : World) (hm : HeldM w ⟨ver, pa, ps, pc, la, ls, lc, ea, es, ec⟩) : Calls Tryz.prog 12 #[.agg #[.int .i64 ver, .slice pa ps.length pc, .slice la ls.length lc, .slice ea es.length ec]] w fun e w' => CanEnd ⟨ver, pa, ps, pc, la, ls, lc, ea, es, ec⟩ w e w' := Canon_is ver ps ls es pa la ea pc lc ec w hm
theorem RefCanon_h {ver : Int} {pa : Option Addr} {ps : List Pr} {pc : Nat} {la : Option Addr} {ls : List Lk} {lc : Nat} {ea : Option Addr} {es : List Ev} {ec : Nat} (w : World) (hm : HeldM w ⟨ver, pa, ps, pc, la, ls, lc, ea, es, ec⟩) : Calls Tryz.prog 13 #[.agg #[.int .i64 ver, .slice pa ps.length pc, .slice la ls.length lc, .slice ea es.length ec]] w fun e w' => RefCanEnd ⟨ver, pa, ps, pc, la, ls, lc, ea, es, ec⟩ w e w' := RefCanon_is ver ps ls es pa la ea pc lc ec w hm
theorem cSame_h {ver1 : Int} {pa1 : Option Addr} {ps1 : List Pr} {pc1 : Nat} {la1 : Option Addr} {ls1 : List Lk} {lc1 : Nat} {ea1 : Option Addr} {es1 : List Ev} {ec1 : Nat} {ver2 : Int} {pa2 : Option Addr} {ps2 : List Pr} {pc2 : Nat} {la2 : Option Addr} {ls2 : List Lk} {lc2 : Nat} {ea2 : Option Addr} {es2 : List Ev} {ec2 : Nat} (w : World) (h1 : HeldM w ⟨ver1, pa1, ps1, pc1, la1, ls1, lc1, ea1, es1, ec1⟩) (h2 : HeldM w ⟨ver2, pa2, ps2, pc2, la2, ls2, lc2, ea2, es2, ec2⟩) {r : Bool} (hr : eqM ⟨ver1, pa1, ps1, pc1, la1, ls1, lc1, ea1, es1, ec1⟩ ⟨ver2, pa2, ps2, pc2, la2, ls2, lc2, ea2, es2, ec2⟩ = r) : Calls Tryz.prog 16 #[.agg #[.int .i64 ver1, .slice pa1 ps1.length pc1, .slice la1 ls1.length lc1, .slice ea1 es1.length ec1], .agg #[.int .i64 ver2, .slice pa2 ps2.length pc2, .slice la2 ls2.length lc2, .slice ea2 es2.length ec2]] w fun e w' => e = .returned (.bool r) ∧ Kept Nil w w' := by
 rw [← hr]
 exact cSame_is ver1 ver2 ps1 ps2 ls1 ls2 es1 es2 pa1 pa2 la1 la2 ea1 ea2 pc1 pc2 lc1 lc2 ec1 ec2 w h1 h2
theorem rSame_h {ver1 : Int} {pa1 : Option Addr} {ps1 : List Pr} {pc1 : Nat} {la1 : Option Addr} {ls1 : List Lk} {lc1 : Nat} {ea1 : Option Addr} {es1 : List Ev} {ec1 : Nat} {ver2 : Int} {pa2 : Option Addr} {ps2 : List Pr} {pc2 : Nat} {la2 : Option Addr} {ls2 : List Lk} {lc2 : Nat} {ea2 : Option Addr} {es2 : List Ev} {ec2 : Nat} (w : World) (h1 : HeldM w ⟨ver1, pa1, ps1, pc1, la1, ls1, lc1, ea1, es1, ec1⟩) (h2 : HeldM w ⟨ver2, pa2, ps2, pc2, la2, ls2, lc2, ea2, es2, ec2⟩) {r : Bool} (hr : eqM ⟨ver1, pa1, ps1, pc1, la1, ls1, lc1, ea1, es1, ec1⟩ ⟨ver2, pa2, ps2, pc2, la2, ls2, lc2, ea2, es2, ec2⟩ = r) : Calls Tryz.prog 14 #[.agg #[.int .i64 ver1, .slice pa1 ps1.length pc1, .slice la1 ls1.length lc1, .slice ea1 es1.length ec1], .agg #[.int .i64 ver2, .slice pa2 ps2.length pc2, .slice la2 ls2.length lc2, .slice ea2 es2.length ec2]] w fun e w' => e = .returned (.bool r) ∧ Kept Nil w w' := by
 rw [← hr]
 exact rSame_is ver1 ver2 ps1 ps2 ls1 ls2 es1 es2 pa1 pa2 la1 la2 ea1 ea2 pc1 pc2 lc1 lc2 ec1 ec2 w h1 h2
theorem cIs_h {ver : Int} {pa : Option Addr} {ps : List Pr} {pc : Nat} {la : Option Addr} {ls : List Lk} {lc : Nat} {ea : Option Addr} {es : List Ev} {ec : Nat} (w : World) (hm : HeldM w ⟨ver, pa, ps, pc, la, ls, lc, ea, es, ec⟩) {r : Bool} (hr : eqM ⟨ver, pa, ps, pc, la, ls, lc, ea, es, ec⟩ (canM ⟨ver, pa, ps, pc, la, ls, lc, ea, es, ec⟩) = r) : Calls Tryz.prog 15 #[.agg #[.int .i64 ver, .slice pa ps.length pc, .slice la ls.length lc, .slice ea es.length ec]] w fun e w' => e = .returned (.bool r) ∧ Kept Nil w w' := by
 rw [← hr]
 exact cIs_is ver ps ls es pa la ea pc lc ec w hm
theorem eqM_symm (a b : Md) : eqM a b = eqM b a := by rw [Bool.eq_iff_iff, eqM_iff, eqM_iff]; exact ⟨SameM.symm, SameM.symm⟩
theorem eqM_self (a : Md) : eqM a a = true := eqM_iff.2 (SameM.rfl' a)
theorem eqM_right {a b c : Md} (h : SameM b c) : eqM a b = eqM a c := by rw [Bool.eq_iff_iff, eqM_iff, eqM_iff]; exact ⟨fun k => k.trans h, fun k => k.trans h.symm⟩
theorem eqM_left {a b c : Md} (h : SameM a b) : eqM a c = eqM b c := by rw [eqM_symm a, eqM_symm b, eqM_right h]
/-- Events in place, one turned. -/
theorem HoldN.events {b : Nat} {w w' : World} {v : Int} {ps : List Pr} {ls : List Lk} {es es' : List Ev} {pa la ea : Option Addr} {pc lc ec gg : Nat} (h : HoldN b w ⟨v, pa, ps, pc, la, ls, lc, ea, es, ec⟩) (hne : es ≠ []) (hx : ∀ q ∈ ps, OutP (fun i => ∃ off, ea = some ⟨i, off, none⟩) q)
  (hg : ea = some ⟨gg, 0, none⟩ ∧ RowAt w' gg 48 3 evCells es') (hk : Kept (fun i => i = gg) w w') (hl : es'.length = es.length) (ho : ∀ l ∈ es', OkE l) : HeldM w' ⟨v, pa, ps, pc, la, ls, lc, ea, es', ec⟩ := by
 obtain ⟨rfl, hr⟩ := hg
 obtain ⟨g0, hb0, e0, hr0⟩ := h.n.e hne
 cases e0
 have hp : NewRow b w' pa 34 4 prCells ps := fun hn => by
  obtain ⟨g1, hb1, e1, hr1⟩ := h.n.p hn
  exact ⟨g1, hb1, e1, hr1.kept hk (rowAt_ne hr1 hr0 (by decide))⟩
 have he : NewRow b w' la 42 5 lkCells ls := fun hn => by
  obtain ⟨g1, hb1, e1, hr1⟩ := h.n.l hn
  exact ⟨g1, hb1, e1, hr1.kept hk (rowAt_ne hr1 hr0 (by decide))⟩
 refine ⟨⟨RProcs.ofRow hp.row, fun q hq => ?_, RLinks.ofRow he.row, REvents.ofRow hr.row, h.h.r.pl, h.h.r.ll, by simp only [hl]; exact h.h.r.el⟩, ⟨h.h.o.v, h.h.o.p, h.h.o.l, ho, h.h.o.pc, h.h.o.pn, h.h.o.lc, h.h.o.ln, by simp only [hl]; exact h.h.o.ec, h.h.o.en⟩, ⟨h.h.s.p, h.h.s.l, by simp only [hl]; exact h.h.s.e, h.h.s.v⟩⟩
 exact (h.h.r.pp q hq).kept hk (fun g off hn e hh => (hx q hq).v g off hn e ⟨0, by rw [hh]⟩) (fun g off hn e hh => (hx q hq).s g off hn e ⟨0, by rw [hh]⟩)
/-- Processes in place, one with another weight. -/
theorem HoldN.weigh {b : Nat} {w w' : World} {v : Int} {ps : List Pr} {ls : List Lk} {es : List Ev} {pa la ea : Option Addr} {pc lc ec gg k : Nat} {p : Pr} {x : Int} (h : HoldN b w ⟨v, pa, ps, pc, la, ls, lc, ea, es, ec⟩) (hp0 : ps[k]? = some p)
  (hg : pa = some ⟨gg, 0, none⟩ ∧ RowAt w' gg 34 4 prCells (ps.set k { p with weight := x })) (hk : Kept (fun i => i = gg) w w') (hx0 : Sc.I64 x) : HeldM w' ⟨v, pa, ps.set k { p with weight := x }, pc, la, ls, lc, ea, es, ec⟩ := by
 obtain ⟨rfl, hr⟩ := hg
 have hne : ps ≠ [] := fun e => by rw [e] at hp0; simp at hp0
 obtain ⟨g0, hb0, e0, hr0⟩ := h.n.p hne
 cases e0
 have hl : NewRow b w' la 42 5 lkCells ls := fun hn => by
  obtain ⟨g1, hb1, e1, hr1⟩ := h.n.l hn
  exact ⟨g1, hb1, e1, hr1.kept hk (rowAt_ne hr1 hr0 (by decide))⟩
 have he : NewRow b w' ea 48 3 evCells es := fun hn => by
  obtain ⟨g1, hb1, e1, hr1⟩ := h.n.e hn
  exact ⟨g1, hb1, e1, hr1.kept hk (rowAt_ne hr1 hr0 (by decide))⟩
 have hmem : ∀ q ∈ ps.set k { p with weight := x }, q ∈ ps ∨ q = { p with weight := x } := fun q hq => List.mem_or_eq_of_mem_set hq
 have hpm := List.mem_of_getElem? hp0
 have hrp : ∀ q ∈ ps, RProc w' q := fun q hq => (h.h.r.pp q hq).kept hk (fun g off hn e hh => (h.n.xp q hq).v g off hn e ⟨0, by simp only; rw [hh]⟩) (fun g off hn e hh => (h.n.xp q hq).s g off hn e ⟨0, by simp only; rw [hh]⟩)
 refine ⟨⟨RProcs.ofRow hr.row, fun q hq => ?_, RLinks.ofRow hl.row, REvents.ofRow he.row, by simp only [List.length_set]; exact h.h.r.pl, h.h.r.ll, h.h.r.el⟩, ⟨h.h.o.v, fun q hq => ?_, h.h.o.l, h.h.o.e, by simp only [List.length_set]; exact h.h.o.pc, h.h.o.pn, h.h.o.lc, h.h.o.ln, h.h.o.ec, h.h.o.en⟩, ⟨by simp only [List.length_set]; exact h.h.s.p, h.h.s.l, h.h.s.e, fun q hq => ?_⟩⟩
 ·rcases hmem q hq with h1 | rfl
  ·exact hrp q h1
  ·have h9 := hrp p hpm
   exact ⟨h9.v, h9.s, h9.vl, h9.sl, h9.si⟩
 ·rcases hmem q hq with h1 | rfl
  ·exact h.h.o.p q h1
  ·have h9 := h.h.o.p p hpm
   exact ⟨h9.n, hx0, h9.v, h9.s, h9.vc, h9.vn, h9.sc, h9.sn⟩
 ·rcases hmem q hq with h1 | rfl
  ·exact h.h.s.v q h1
  ·exact h.h.s.v p hpm
theorem xor_ne {a t : Int} (ha : Sc.I64 a) (ht : Sc.I64 t) (h : t ≠ 0) : bits .xor .i64 a t ≠ a ∧ Sc.I64 (bits .xor .i64 a t) := by
 rw [Sc.bits_xor_i64]
 refine ⟨fun e => h ?_, ?_⟩
 ·have h1 : BitVec.ofInt 64 ((BitVec.ofInt 64 a ^^^ BitVec.ofInt 64 t).toInt) = BitVec.ofInt 64 a := by rw [e]
  rw [BitVec.ofInt_toInt] at h1
  have h2 : BitVec.ofInt 64 t = 0#64 := by
   have h3 := congrArg (fun x => BitVec.ofInt 64 a ^^^ x) h1
   simpa [← BitVec.xor_assoc] using h3
  have h4 := congrArg BitVec.toInt h2
  rw [BitVec.toInt_ofInt] at h4
  unfold Sc.I64 at ht
  rw [Int.bmod_def] at h4
  simp at h4
  split at h4 <;> omega
 ·have key : ∀ z : BitVec 64, Sc.I64 z.toInt := fun z => by
   have h1 := BitVec.toInt_lt (x := z)
   have h2 := BitVec.le_toInt (x := z)
   unfold Sc.I64
   simp at h1 h2
   omega
  exact key _
end Go.Proofs.YtniocgnfgpaioaaGreat.Mo
end
section
namespace Go.Proofs.YtniocgnfgpaioaaGreat.Lb
open Go Go.RowKit
def IntAt (w : World) (g o : Nat) : Prop := ∃ z, w.cell? ⟨g, o, none⟩ = some (.int .i64 z)
structure Turned (K : Nat → Prop) (a b : World) : Prop where
 k : Kept K a b
 i : ∀ g o, IntAt a g o → IntAt b g o
 r : ∀ (g : Nat) (cur : Array Value) (t : TypeId), a.heap[g]? = some (.cells cur t (0, 0)) → ∃ cur' : Array Value, b.heap[g]? = some (.cells cur' t (0, 0))
theorem Turned.refl (K : Nat → Prop) (w : World) : Turned K w w := ⟨Kept.refl K w, fun _ _ h => h, fun g cur t h => ⟨cur, h⟩⟩
theorem Turned.set {K : Nat → Prop} {a b : World} (h : Turned K a b) {g o : Nat} {cur : Array Value} {t : TypeId} (hb : b.heap[g]? = some (.cells cur t (0, 0))) (hK : K g) (z : Int) : Turned K a (b.setCell ⟨g, o, none⟩ (.int .i64 z)) := by
 have hs := heap_set hb o (.int .i64 z)
 refine ⟨h.k.setCell (.inl hK) _, fun g' o' h' => ?_, fun g' cur' t' h' => ?_⟩
 ·obtain ⟨y, hy⟩ := h.i g' o' h'
  by_cases e : g' = g
  ·subst e
   rw [cell_of hb] at hy
   unfold IntAt
   rw [cell_of hs, Array.getElem?_setIfInBounds]
   by_cases e2 : o = o'
   ·subst e2
    have hlt := (Array.getElem?_eq_some_iff.1 hy).1
    rw [if_pos rfl, if_pos hlt]
    exact ⟨z, rfl⟩
   ·rw [if_neg e2]
    exact ⟨y, hy⟩
  ·refine ⟨y, ?_⟩
   have hk : Kept (fun i => i = g) b (b.setCell ⟨g, o, none⟩ (.int .i64 z)) := (Kept.refl (fun i => i = g) b).setCell (.inl rfl) _
   exact hk.cell hy e
 ·obtain ⟨c2, h2⟩ := h.r g' cur' t' h'
  by_cases e : g' = g
  ·subst e
   rw [hb] at h2
   cases h2
   exact ⟨_, hs⟩
  ·exact ⟨c2, by rw [heap_set_other e]; exact h2⟩
end Go.Proofs.YtniocgnfgpaioaaGreat.Lb
end
