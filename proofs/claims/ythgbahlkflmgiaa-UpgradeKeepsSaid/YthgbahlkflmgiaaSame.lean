/- The walks of sandtableref16.sameProc and Same: of models with the same contents. -/
import Derived.Test.YthgbahlkflmgiaaStructEq
import Derived.Test.YthgbahlkflmgiaaPlaces
import Derived.BigQuiet
import Derived.Deep.Cut
import Derived.Deep.CutRange
namespace Go.Proofs.Ythgbahlkflmgiaa.Mo
open Go Go.RowKit Go.Proofs.Ythgbahlkflmgiaa.Lb
set_option linter.unusedVariables false
set_option linter.unusedSimpArgs false
set_option maxRecDepth 8000
/-- The same contents. -/
structure SameP (p q : Pr) : Prop where
  n : p.name = q.name
  w : p.weight = q.weight
  v : p.vs = q.vs
  s : p.ss = q.ss
theorem SameP.rfl' (p : Pr) : SameP p p := ⟨rfl, rfl, rfl, rfl⟩
theorem SameP.symm {p q : Pr} (h : SameP p q) : SameP q p := ⟨h.n.symm, h.w.symm, h.v.symm, h.s.symm⟩
theorem SameP.trans {p q r : Pr} (h : SameP p q) (h' : SameP q r) : SameP p r := ⟨h.n.trans h'.n, h.w.trans h'.w, h.v.trans h'.v, h.s.trans h'.s⟩
structure SamePs (ps qs : List Pr) : Prop where
  l : ps.length = qs.length
  p : ∀ (j : Nat) (p q : Pr), ps[j]? = some p → qs[j]? = some q → SameP p q
structure SameM (a b : Md) : Prop where
  v : a.version = b.version
  p : SamePs a.ps b.ps
  l : a.ls = b.ls
  e : a.es = b.es
set_option maxHeartbeats 4000000 in
theorem sameProc_is (pn : ByteArray) (pw : Int) (vs : List V) (ss : List S) (va vb sa sb : Option Addr) (vc vd sc sd : Nat) (w : World) (h1 : RProc w ⟨pn, pw, va, vs, vc, sa, ss, sc⟩) (h2 : RProc w ⟨pn, pw, vb, vs, vd, sb, ss, sd⟩) (hv : vs.length ≤ 100000) (hs : ss.length ≤ 100000) :
    Calls Try.prog 25 #[.agg #[.string pn, .int .i64 pw, .slice va vs.length vc, .slice sa ss.length sc], .agg #[.string pn, .int .i64 pw, .slice vb vs.length vd, .slice sb ss.length sd]] w fun e w' => e = .returned (.bool true) ∧ Kept Nil w w' := by
  have H1 := Lib.hid h1
  have H2 := Lib.hid h2
  clear h1 h2
  obtain ⟨W1, hW⟩ : ∃ W, ((w.alloc (.cells #[.string pn, .int .i64 pw, .slice va vs.length vc, .slice sa ss.length sc] 52)).alloc (.cells #[.string pn, .int .i64 pw, .slice vb vs.length vd, .slice sb ss.length sd] 52)) = W := ⟨_, rfl⟩
  have hk : Kept Nil w W1 := by rw [← hW]; exact (((Kept.refl Nil w).alloc _).alloc _)
  have hsz : W1.heap.size = w.heap.size + 2 := by rw [← hW]; simp
  have hb : W1.heap[w.heap.size]? = some (.cells #[.string pn, .int .i64 pw, .slice va vs.length vc, .slice sa ss.length sc] 52 (0, 0)) := by
    rw [← hW]
    rw [heap_old _ _ (by simp only [World.size_alloc]; omega)]
    have h9 := heap_new w (.cells #[.string pn, .int .i64 pw, .slice va vs.length vc, .slice sa ss.length sc] 52)
    exact h9
  have G0 := Lib.hid (show W1.cell? ⟨w.heap.size, 0, none⟩ = some (.string pn) by rw [cell_of hb]; rfl)
  have G1 := Lib.hid (show W1.cell? ⟨w.heap.size, 1, none⟩ = some (.int .i64 pw) by rw [cell_of hb]; rfl)
  have G2 := Lib.hid (show W1.cell? ⟨w.heap.size, 2, none⟩ = some (.slice va vs.length vc) by rw [cell_of hb]; rfl)
  have G3 := Lib.hid (show W1.cell? ⟨w.heap.size, 3, none⟩ = some (.slice sa ss.length sc) by rw [cell_of hb]; rfl)
  have GB := Lib.hid hb
  have hzg : w.heap.size < W1.heap.size := by omega
  clear hb
  have hb : W1.heap[w.heap.size + 1]? = some (.cells #[.string pn, .int .i64 pw, .slice vb vs.length vd, .slice sb ss.length sd] 52 (0, 0)) := by
    rw [← hW]
    have h9 := heap_new (w.alloc (.cells #[.string pn, .int .i64 pw, .slice va vs.length vc, .slice sa ss.length sc] 52)) (.cells #[.string pn, .int .i64 pw, .slice vb vs.length vd, .slice sb ss.length sd] 52)
    simp only [World.size_alloc] at h9
    exact h9
  have Q0 := Lib.hid (show W1.cell? ⟨w.heap.size + 1, 0, none⟩ = some (.string pn) by rw [cell_of hb]; rfl)
  have Q1 := Lib.hid (show W1.cell? ⟨w.heap.size + 1, 1, none⟩ = some (.int .i64 pw) by rw [cell_of hb]; rfl)
  have Q2 := Lib.hid (show W1.cell? ⟨w.heap.size + 1, 2, none⟩ = some (.slice vb vs.length vd) by rw [cell_of hb]; rfl)
  have Q3 := Lib.hid (show W1.cell? ⟨w.heap.size + 1, 3, none⟩ = some (.slice sb ss.length sd) by rw [cell_of hb]; rfl)
  have QB := Lib.hid hb
  have hzq : w.heap.size + 1 < W1.heap.size := by omega
  clear hb
  have HW := Lib.hid hW
  have HK := Lib.hid hk
  have HSZ := Lib.hid hsz
  clear hW hk hsz
  go_enter Try.func25, Try.ntmps25
  go_wp2_with fail
  rw [HW.out]
  have g0 := ((Kept.refl Nil W1)).cell G0.out (fun h => h)
  have g1 := ((Kept.refl Nil W1)).cell G1.out (fun h => h)
  have g2 := ((Kept.refl Nil W1)).cell G2.out (fun h => h)
  have g3 := ((Kept.refl Nil W1)).cell G3.out (fun h => h)
  have q0 := ((Kept.refl Nil W1)).cell Q0.out (fun h => h)
  have q1 := ((Kept.refl Nil W1)).cell Q1.out (fun h => h)
  have q2 := ((Kept.refl Nil W1)).cell Q2.out (fun h => h)
  have q3 := ((Kept.refl Nil W1)).cell Q3.out (fun h => h)
  go_loopw [5] (fun i wr => ∃ k : Nat, k ≤ vs.length ∧ i = .int .i64 k ∧ Kept Nil W1 wr) (fun i _ => vs.length - (intOf i).toNat)
  case atStart => exact ⟨0, Nat.zero_le _, rfl, Kept.refl _ _⟩
  case round =>
    obtain ⟨k, hk, rfl, hK⟩ := hrel
    have HKR := Lib.hid hK
    have hzr := hK.size
    clear hK g0 g1 g2 g3 q0 q1 q2 q3
    have g0 := (HKR.out).cell G0.out (fun h => h)
    have g1 := (HKR.out).cell G1.out (fun h => h)
    have g2 := (HKR.out).cell G2.out (fun h => h)
    have g3 := (HKR.out).cell G3.out (fun h => h)
    have q0 := (HKR.out).cell Q0.out (fun h => h)
    have q1 := (HKR.out).cell Q1.out (fun h => h)
    have q2 := (HKR.out).cell Q2.out (fun h => h)
    have q3 := (HKR.out).cell Q3.out (fun h => h)
    by_cases hlt : k < vs.length
    · obtain ⟨o, eo⟩ : ∃ o, vs[k]? = some o := ⟨_, List.getElem?_eq_getElem hlt⟩
      obtain ⟨b, off, e1, c0, c1⟩ := ((H1.out.nil (HK.out.step HKR.out)).v).at eo
      obtain ⟨b2, off2, e2, d0, d1⟩ := ((H2.out.nil (HK.out.step HKR.out)).v).at eo
      have hbs : b < wr.heap.size := World.block_lt_of_cell? _ _ c0
      have hbs2 : b2 < wr.heap.size := World.block_lt_of_cell? _ _ d0
      have hlt2 : (k : Int) < (vs.length : Int) := by omega
      have hw : IntKind.i64.wrap ((k : Int) + 1) = (k : Int) + 1 := by rw [IntKind.wrap_i64]; omega
      obtain ⟨on, oi⟩ := o
      simp only at c0 c1 d0 d1
      have hne := ne_var on oi
      clear eo
      simp only at e1 e2
      subst e1
      subst e2
      go_upto_region 6 with fail
      go_big_quiet (fail)
      go_wp2_with fail
      go_round
      case measure => (simp [intOf] <;> omega)
      exact ⟨k + 1, by omega, by go_num, by first | exact HKR.out.drewN _ | exact HKR.out⟩
    · obtain rfl : k = vs.length := by omega
      go_wp2_with fail
      obtain ⟨W2, hW2⟩ : ∃ x, x = wr := ⟨_, rfl⟩
      subst hW2
      have HK2 := Lib.hid (HK.out.step HKR.out)
      have HKX := Lib.hid HKR.out
      go_loopw [6] (fun i wr => ∃ k : Nat, k ≤ ss.length ∧ i = .int .i64 k ∧ Kept Nil W2 wr) (fun i _ => ss.length - (intOf i).toNat)
      case atStart => exact ⟨0, Nat.zero_le _, rfl, Kept.refl _ _⟩
      case round =>
        obtain ⟨k, hk, rfl, hK⟩ := hrel
        have HKR := Lib.hid hK
        have hzr := hK.size
        clear hK g0 g1 g2 g3 q0 q1 q2 q3
        have g0 := ((HKX.out.step HKR.out)).cell G0.out (fun h => h)
        have g1 := ((HKX.out.step HKR.out)).cell G1.out (fun h => h)
        have g2 := ((HKX.out.step HKR.out)).cell G2.out (fun h => h)
        have g3 := ((HKX.out.step HKR.out)).cell G3.out (fun h => h)
        have q0 := ((HKX.out.step HKR.out)).cell Q0.out (fun h => h)
        have q1 := ((HKX.out.step HKR.out)).cell Q1.out (fun h => h)
        have q2 := ((HKX.out.step HKR.out)).cell Q2.out (fun h => h)
        have q3 := ((HKX.out.step HKR.out)).cell Q3.out (fun h => h)
        by_cases hlt : k < ss.length
        · obtain ⟨o, eo⟩ : ∃ o, ss[k]? = some o := ⟨_, List.getElem?_eq_getElem hlt⟩
          obtain ⟨b, off, e1, c0, c1, c2, c3, c4⟩ := ((H1.out.nil (HK2.out.step HKR.out)).s).at eo
          obtain ⟨b2, off2, e2, d0, d1, d2, d3, d4⟩ := ((H2.out.nil (HK2.out.step HKR.out)).s).at eo
          have hbs : b < wr.heap.size := World.block_lt_of_cell? _ _ c0
          have hbs2 : b2 < wr.heap.size := World.block_lt_of_cell? _ _ d0
          have hlt2 : (k : Int) < (ss.length : Int) := by omega
          have hw : IntKind.i64.wrap ((k : Int) + 1) = (k : Int) + 1 := by rw [IntKind.wrap_i64]; omega
          obtain ⟨ok, on, oak, oan, oas⟩ := o
          simp only at c0 c1 c2 c3 c4 d0 d1 d2 d3 d4
          have hne := ne_step ok on oak oan oas
          clear eo
          simp only at e1 e2
          subst e1
          subst e2
          go_upto_region 11 with fail
          go_big_quiet (fail)
          go_wp2_with fail
          go_round
          case measure => (simp [intOf] <;> omega)
          exact ⟨k + 1, by omega, by go_num, by first | exact HKR.out.drewN _ | exact HKR.out⟩
        · obtain rfl : k = ss.length := by omega
          go_wp2_with fail
          go_ret
          exact ⟨rfl, HK2.out.step HKR.out⟩
set_option maxHeartbeats 16000000 in
theorem SameM_at (ver : Int) (ps qs : List Pr) (ls : List Lk) (es : List Ev) (pa pb la lb ea eb : Option Addr) (pc pd lc ld ec ed : Nat) (w : World) (h1 : RModel w ⟨ver, pa, ps, pc, la, ls, lc, ea, es, ec⟩) (h2 : RModel w ⟨ver, pb, qs, pd, lb, ls, ld, eb, es, ed⟩) (hp : SamePs ps qs) (hpl : ps.length ≤ 100000) (hll : ls.length ≤ 100000) (hel : es.length ≤ 100000) (hvs : ∀ p ∈ ps, p.vs.length ≤ 100000 ∧ p.ss.length ≤ 100000) :
    Calls Try.prog 14 #[.agg #[.int .i64 ver, .slice pa ps.length pc, .slice la ls.length lc, .slice ea es.length ec], .agg #[.int .i64 ver, .slice pb ps.length pd, .slice lb ls.length ld, .slice eb es.length ed]] w fun e w' => e = .returned (.bool true) ∧ Kept Nil w w' := by
  have H1 := Lib.hid h1
  have H2 := Lib.hid h2
  have HP := Lib.hid hp
  have HVS := Lib.hid hvs
  clear h1 h2 hp hvs
  obtain ⟨W1, hW⟩ : ∃ W, ((w.alloc (.cells #[.int .i64 ver, .slice pa ps.length pc, .slice la ls.length lc, .slice ea es.length ec] 26)).alloc (.cells #[.int .i64 ver, .slice pb ps.length pd, .slice lb ls.length ld, .slice eb es.length ed] 26)) = W := ⟨_, rfl⟩
  have hk : Kept Nil w W1 := by rw [← hW]; exact (((Kept.refl Nil w).alloc _).alloc _)
  have hsz : W1.heap.size = w.heap.size + 2 := by rw [← hW]; simp
  have hb : W1.heap[w.heap.size]? = some (.cells #[.int .i64 ver, .slice pa ps.length pc, .slice la ls.length lc, .slice ea es.length ec] 26 (0, 0)) := by
    rw [← hW]
    rw [heap_old _ _ (by simp only [World.size_alloc]; omega)]
    have h9 := heap_new w (.cells #[.int .i64 ver, .slice pa ps.length pc, .slice la ls.length lc, .slice ea es.length ec] 26)
    exact h9
  have G0 := Lib.hid (show W1.cell? ⟨w.heap.size, 0, none⟩ = some (.int .i64 ver) by rw [cell_of hb]; rfl)
  have G1 := Lib.hid (show W1.cell? ⟨w.heap.size, 1, none⟩ = some (.slice pa ps.length pc) by rw [cell_of hb]; rfl)
  have G2 := Lib.hid (show W1.cell? ⟨w.heap.size, 2, none⟩ = some (.slice la ls.length lc) by rw [cell_of hb]; rfl)
  have G3 := Lib.hid (show W1.cell? ⟨w.heap.size, 3, none⟩ = some (.slice ea es.length ec) by rw [cell_of hb]; rfl)
  have GB := Lib.hid hb
  have hzg : w.heap.size < W1.heap.size := by omega
  clear hb
  have hb : W1.heap[w.heap.size + 1]? = some (.cells #[.int .i64 ver, .slice pb ps.length pd, .slice lb ls.length ld, .slice eb es.length ed] 26 (0, 0)) := by
    rw [← hW]
    have h9 := heap_new (w.alloc (.cells #[.int .i64 ver, .slice pa ps.length pc, .slice la ls.length lc, .slice ea es.length ec] 26)) (.cells #[.int .i64 ver, .slice pb ps.length pd, .slice lb ls.length ld, .slice eb es.length ed] 26)
    simp only [World.size_alloc] at h9
    exact h9
  have Q0 := Lib.hid (show W1.cell? ⟨w.heap.size + 1, 0, none⟩ = some (.int .i64 ver) by rw [cell_of hb]; rfl)
  have Q1 := Lib.hid (show W1.cell? ⟨w.heap.size + 1, 1, none⟩ = some (.slice pb ps.length pd) by rw [cell_of hb]; rfl)
  have Q2 := Lib.hid (show W1.cell? ⟨w.heap.size + 1, 2, none⟩ = some (.slice lb ls.length ld) by rw [cell_of hb]; rfl)
  have Q3 := Lib.hid (show W1.cell? ⟨w.heap.size + 1, 3, none⟩ = some (.slice eb es.length ed) by rw [cell_of hb]; rfl)
  have QB := Lib.hid hb
  have hzq : w.heap.size + 1 < W1.heap.size := by omega
  clear hb
  have HW := Lib.hid hW
  have HK := Lib.hid hk
  have HSZ := Lib.hid hsz
  clear hW hk hsz
  go_enter Try.func14, Try.ntmps14
  go_wp2_with fail
  rw [HW.out]
  have g0 := ((Kept.refl Nil W1)).cell G0.out (fun h => h)
  have g1 := ((Kept.refl Nil W1)).cell G1.out (fun h => h)
  have g2 := ((Kept.refl Nil W1)).cell G2.out (fun h => h)
  have g3 := ((Kept.refl Nil W1)).cell G3.out (fun h => h)
  have q0 := ((Kept.refl Nil W1)).cell Q0.out (fun h => h)
  have q1 := ((Kept.refl Nil W1)).cell Q1.out (fun h => h)
  have q2 := ((Kept.refl Nil W1)).cell Q2.out (fun h => h)
  have q3 := ((Kept.refl Nil W1)).cell Q3.out (fun h => h)
  go_loopw [5] (fun i wr => ∃ k : Nat, k ≤ ps.length ∧ i = .int .i64 k ∧ Kept Nil W1 wr) (fun i _ => ps.length - (intOf i).toNat)
  case atStart => exact ⟨0, Nat.zero_le _, rfl, Kept.refl _ _⟩
  case round =>
    obtain ⟨k, hk, rfl, hK⟩ := hrel
    have HKR := Lib.hid hK
    have hzr := hK.size
    clear hK g0 g1 g2 g3 q0 q1 q2 q3
    have g0 := (HKR.out).cell G0.out (fun h => h)
    have g1 := (HKR.out).cell G1.out (fun h => h)
    have g2 := (HKR.out).cell G2.out (fun h => h)
    have g3 := (HKR.out).cell G3.out (fun h => h)
    have q0 := (HKR.out).cell Q0.out (fun h => h)
    have q1 := (HKR.out).cell Q1.out (fun h => h)
    have q2 := (HKR.out).cell Q2.out (fun h => h)
    have q3 := (HKR.out).cell Q3.out (fun h => h)
    by_cases hlt : k < ps.length
    · obtain ⟨p, ep⟩ : ∃ o, ps[k]? = some o := ⟨_, List.getElem?_eq_getElem hlt⟩
      obtain ⟨q, eq⟩ : ∃ o, qs[k]? = some o := ⟨_, List.getElem?_eq_getElem (by rw [← HP.out.l]; exact hlt)⟩
      have hsp := HP.out.p k p q ep eq
      have hvs := HVS.out p (List.mem_of_getElem? ep)
      have hr1 := (H1.out.nil (HK.out.step HKR.out)).pp p (List.mem_of_getElem? ep)
      have hr2 := (H2.out.nil (HK.out.step HKR.out)).pp q (List.mem_of_getElem? eq)
      obtain ⟨b, off, e1, c0, c1, c2, c3⟩ := (H1.out.nil (HK.out.step HKR.out)).p.at ep
      obtain ⟨b2, off2, e2, d0, d1, d2, d3⟩ := (H2.out.nil (HK.out.step HKR.out)).p.at eq
      obtain ⟨pn, pw, va, vs, vc, sa, ss, sc⟩ := p
      obtain ⟨qn, qw, vb, us, vd, sb, ts, sd⟩ := q
      have n1 := hsp.n
      have n2 := hsp.w
      have n3 := hsp.v
      have n4 := hsp.s
      simp only at n1 n2 n3 n4 c0 c1 c2 c3 d0 d1 d2 d3 e1 e2 hvs
      subst n1 n2 n3 n4
      have HR1 := Lib.hid hr1
      have HR2 := Lib.hid hr2
      have C0 := Lib.hid c0
      have C1 := Lib.hid c1
      have C2 := Lib.hid c2
      have C3 := Lib.hid c3
      have D0 := Lib.hid d0
      have D1 := Lib.hid d1
      have D2 := Lib.hid d2
      have D3 := Lib.hid d3
      have hbs : b < wr.heap.size := World.block_lt_of_cell? _ _ c0
      have hbs2 : b2 < wr.heap.size := World.block_lt_of_cell? _ _ d0
      have hlt2 : (k : Int) < (ps.length : Int) := by omega
      have hw : IntKind.i64.wrap ((k : Int) + 1) = (k : Int) + 1 := by rw [IntKind.wrap_i64]; omega
      clear ep eq hsp hr1 hr2
      subst e1
      subst e2
      go_upto_region 6 with fail
      go_region_held3 (fun w' => w'.cell? ⟨w.heap.size, 0, none⟩ = some (.int .i64 ver) ∧ w'.cell? ⟨w.heap.size, 1, none⟩ = some (.slice (some ⟨b, off, none⟩) ps.length pc) ∧ w'.cell? ⟨w.heap.size, 2, none⟩ = some (.slice la ls.length lc) ∧ w'.cell? ⟨w.heap.size, 3, none⟩ = some (.slice ea es.length ec) ∧ w'.cell? ⟨w.heap.size + 1, 0, none⟩ = some (.int .i64 ver) ∧ w'.cell? ⟨w.heap.size + 1, 1, none⟩ = some (.slice (some ⟨b2, off2, none⟩) ps.length pd) ∧ w'.cell? ⟨w.heap.size + 1, 2, none⟩ = some (.slice lb ls.length ld) ∧ w'.cell? ⟨w.heap.size + 1, 3, none⟩ = some (.slice eb es.length ed) ∧ w'.cell? ⟨b, off + k * 4, none⟩ = some (.string pn) ∧ w'.cell? ⟨b, off + k * 4 + 1, none⟩ = some (.int .i64 pw) ∧ w'.cell? ⟨b, off + k * 4 + 2, none⟩ = some (.slice va vs.length vc) ∧ w'.cell? ⟨b, off + k * 4 + 3, none⟩ = some (.slice sa ss.length sc) ∧ w'.cell? ⟨b2, off2 + k * 4, none⟩ = some (.string pn) ∧ w'.cell? ⟨b2, off2 + k * 4 + 1, none⟩ = some (.int .i64 pw) ∧ w'.cell? ⟨b2, off2 + k * 4 + 2, none⟩ = some (.slice vb vs.length vd) ∧ w'.cell? ⟨b2, off2 + k * 4 + 3, none⟩ = some (.slice sb ss.length sd)) (go_keep) (first
        | (go_at_call 25
           with_reducible refine (sameProc_is pn pw vs ss va vb sa sb vc vd sc sd _ ?_ ?_ ?_ ?_).mono ?_
           · exact HR1.out.nil (by repeat (first | exact Kept.refl _ _ | assumption | refine Kept.drew ?_ | refine Kept.drewN ?_ _ | refine Kept.alloc ?_ _ | refine Kept.step ?_ (by assumption)))
           · exact HR2.out.nil (by repeat (first | exact Kept.refl _ _ | assumption | refine Kept.drew ?_ | refine Kept.drewN ?_ _ | refine Kept.alloc ?_ _ | refine Kept.step ?_ (by assumption)))
           · exact hvs.1
           · exact hvs.2
           rintro e w9 ⟨rfl, hk9⟩
           have hz : Kept Nil wr w9 := (by repeat (first | exact Kept.refl _ _ | assumption | refine Kept.drew ?_ | refine Kept.drewN ?_ _ | refine Kept.alloc ?_ _ | refine Kept.step ?_ (by assumption)))
           have w9_g0 := (HKR.out.step hz).cell G0.out (fun h => h)
           have w9_g1 := (HKR.out.step hz).cell G1.out (fun h => h)
           have w9_g2 := (HKR.out.step hz).cell G2.out (fun h => h)
           have w9_g3 := (HKR.out.step hz).cell G3.out (fun h => h)
           have w9_q0 := (HKR.out.step hz).cell Q0.out (fun h => h)
           have w9_q1 := (HKR.out.step hz).cell Q1.out (fun h => h)
           have w9_q2 := (HKR.out.step hz).cell Q2.out (fun h => h)
           have w9_q3 := (HKR.out.step hz).cell Q3.out (fun h => h)
           have w9_c0 := hz.cell C0.out (fun h => h)
           have w9_d0 := hz.cell D0.out (fun h => h)
           have w9_c1 := hz.cell C1.out (fun h => h)
           have w9_d1 := hz.cell D1.out (fun h => h)
           have w9_c2 := hz.cell C2.out (fun h => h)
           have w9_d2 := hz.cell D2.out (fun h => h)
           have w9_c3 := hz.cell C3.out (fun h => h)
           have w9_d3 := hz.cell D3.out (fun h => h)
           clear hz)
        )
      all_goals (try go_wp2_with fail)
      all_goals go_round
      case measure => (simp [intOf] <;> omega)
      exact ⟨k + 1, by omega, by go_num, HKR.out.step (by repeat (first | exact Kept.refl _ _ | assumption | refine Kept.drew ?_ | refine Kept.drewN ?_ _ | refine Kept.alloc ?_ _ | refine Kept.step ?_ (by assumption)))⟩
    · obtain rfl : k = ps.length := by omega
      go_wp2_with fail
      obtain ⟨W2, hW2⟩ : ∃ x, x = wr := ⟨_, rfl⟩
      subst hW2
      have HK2 := Lib.hid (HK.out.step HKR.out)
      have HKX := Lib.hid HKR.out
      go_loopw [6] (fun i wr => ∃ k : Nat, k ≤ ls.length ∧ i = .int .i64 k ∧ Kept Nil W2 wr) (fun i _ => ls.length - (intOf i).toNat)
      case atStart => exact ⟨0, Nat.zero_le _, rfl, Kept.refl _ _⟩
      case round =>
        obtain ⟨k, hk, rfl, hK⟩ := hrel
        have HKR := Lib.hid hK
        have hzr := hK.size
        clear hK g0 g1 g2 g3 q0 q1 q2 q3
        have g0 := ((HKX.out.step HKR.out)).cell G0.out (fun h => h)
        have g1 := ((HKX.out.step HKR.out)).cell G1.out (fun h => h)
        have g2 := ((HKX.out.step HKR.out)).cell G2.out (fun h => h)
        have g3 := ((HKX.out.step HKR.out)).cell G3.out (fun h => h)
        have q0 := ((HKX.out.step HKR.out)).cell Q0.out (fun h => h)
        have q1 := ((HKX.out.step HKR.out)).cell Q1.out (fun h => h)
        have q2 := ((HKX.out.step HKR.out)).cell Q2.out (fun h => h)
        have q3 := ((HKX.out.step HKR.out)).cell Q3.out (fun h => h)
        by_cases hlt : k < ls.length
        · obtain ⟨o, eo⟩ : ∃ o, ls[k]? = some o := ⟨_, List.getElem?_eq_getElem hlt⟩
          obtain ⟨b, off, e1, c0, c1, c2, c3, c4⟩ := ((H1.out.nil (HK2.out.step HKR.out)).l).at eo
          obtain ⟨b2, off2, e2, d0, d1, d2, d3, d4⟩ := ((H2.out.nil (HK2.out.step HKR.out)).l).at eo
          have hbs : b < wr.heap.size := World.block_lt_of_cell? _ _ c0
          have hbs2 : b2 < wr.heap.size := World.block_lt_of_cell? _ _ d0
          have hlt2 : (k : Int) < (ls.length : Int) := by omega
          have hw : IntKind.i64.wrap ((k : Int) + 1) = (k : Int) + 1 := by rw [IntKind.wrap_i64]; omega
          obtain ⟨oname, osrc, odst, odel, owt⟩ := o
          simp only at c0 c1 c2 c3 c4 d0 d1 d2 d3 d4
          have hne := ne_link oname osrc odst odel owt
          clear eo
          simp only at e1 e2
          subst e1
          subst e2
          go_upto_region 11 with fail
          go_big_quiet (fail)
          go_wp2_with fail
          go_round
          case measure => (simp [intOf] <;> omega)
          exact ⟨k + 1, by omega, by go_num, by first | exact HKR.out.drewN _ | exact HKR.out⟩
        · obtain rfl : k = ls.length := by omega
          go_wp2_with fail
          obtain ⟨W3, hW3⟩ : ∃ x, x = wr := ⟨_, rfl⟩
          subst hW3
          have HK3 := Lib.hid (HK2.out.step HKR.out)
          have HKX := Lib.hid (HKX.out.step HKR.out)
          go_loopw [7] (fun i wr => ∃ k : Nat, k ≤ es.length ∧ i = .int .i64 k ∧ Kept Nil W3 wr) (fun i _ => es.length - (intOf i).toNat)
          case atStart => exact ⟨0, Nat.zero_le _, rfl, Kept.refl _ _⟩
          case round =>
            obtain ⟨k, hk, rfl, hK⟩ := hrel
            have HKR := Lib.hid hK
            have hzr := hK.size
            clear hK g0 g1 g2 g3 q0 q1 q2 q3
            have g0 := ((HKX.out.step HKR.out)).cell G0.out (fun h => h)
            have g1 := ((HKX.out.step HKR.out)).cell G1.out (fun h => h)
            have g2 := ((HKX.out.step HKR.out)).cell G2.out (fun h => h)
            have g3 := ((HKX.out.step HKR.out)).cell G3.out (fun h => h)
            have q0 := ((HKX.out.step HKR.out)).cell Q0.out (fun h => h)
            have q1 := ((HKX.out.step HKR.out)).cell Q1.out (fun h => h)
            have q2 := ((HKX.out.step HKR.out)).cell Q2.out (fun h => h)
            have q3 := ((HKX.out.step HKR.out)).cell Q3.out (fun h => h)
            by_cases hlt : k < es.length
            · obtain ⟨o, eo⟩ : ∃ o, es[k]? = some o := ⟨_, List.getElem?_eq_getElem hlt⟩
              obtain ⟨b, off, e1, c0, c1, c2⟩ := ((H1.out.nil (HK3.out.step HKR.out)).e).at eo
              obtain ⟨b2, off2, e2, d0, d1, d2⟩ := ((H2.out.nil (HK3.out.step HKR.out)).e).at eo
              have hbs : b < wr.heap.size := World.block_lt_of_cell? _ _ c0
              have hbs2 : b2 < wr.heap.size := World.block_lt_of_cell? _ _ d0
              have hlt2 : (k : Int) < (es.length : Int) := by omega
              have hw : IntKind.i64.wrap ((k : Int) + 1) = (k : Int) + 1 := by rw [IntKind.wrap_i64]; omega
              obtain ⟨oto, oat, oval⟩ := o
              simp only at c0 c1 c2 d0 d1 d2
              have hne := ne_event oto oat oval
              clear eo
              simp only at e1 e2
              subst e1
              subst e2
              go_upto_region 16 with fail
              go_big_quiet (fail)
              go_wp2_with fail
              go_round
              case measure => (simp [intOf] <;> omega)
              exact ⟨k + 1, by omega, by go_num, by first | exact HKR.out.drewN _ | exact HKR.out⟩
            · obtain rfl : k = es.length := by omega
              go_wp2_with fail
              go_ret
              exact ⟨rfl, HK3.out.step HKR.out⟩
end Go.Proofs.Ythgbahlkflmgiaa.Mo
