/- ScalarRows' walk: a sum in two parts is the sum, turned round it is, too. Conditions: the row is read as it lies. -/
import Derived.Test.YtboniffcoohbjaaScalarSums
import Derived.Test.YtboniffcoohbjaaScalarEnds
import Derived.OwnWalk
import Derived.Maps.AppendAt
import Derived.Deep.AppendLies
namespace Go.Proofs.Ytboniffcoohbjaa.Sc
open Go Go.RowKit Go.WideShapes
set_option linter.unusedVariables false
set_option linter.unusedSimpArgs false

theorem own_reads {w : World} {base e : Nat} {v : Value} {n : Nat} {xs : List Int} (h : w.ownsRow base e 1 v n (xs.map (Value.int .i64))) :
    ∃ A cap, v = .slice A n cap ∧ n ≤ cap ∧ xs.length = n ∧ Reads w .i64 A xs := by
  have hl : xs.length = n := by have := h.1; simpa using this
  rcases h.2 with ⟨hv, hn⟩ | ⟨g, cap, cur, hv, _, hg, h1, _, _, _⟩
  · subst hn
    exact ⟨none, 0, hv, Nat.le_refl _, hl, .inl (List.eq_nil_of_length_eq_zero hl)⟩
  · refine ⟨_, cap, hv, h1, hl, .inr ⟨g, 0, rfl, fun j hj => ?_⟩⟩
    have := h.cells (g := g) (by rw [hv]; rfl) j (.int .i64 (xs[j]?.getD 0)) (by rw [List.getElem?_map, List.getElem?_eq_getElem hj]; rfl)
    rw [add_plain] at this
    simpa using this

theorem Reads.take {w : World} {K : IntKind} {A : Option Addr} {zs : List Int} (h : Reads w K A zs) (q : Nat) : Reads w K A (zs.take q) := by
  rcases h with rfl | ⟨b, off, rfl, hc⟩
  · exact .inl (by simp)
  · refine .inr ⟨b, off, rfl, fun j hj => ?_⟩
    rw [List.length_take] at hj
    rw [hc j (by omega), List.getElem?_take_of_lt (by omega)]

theorem Reads.drop {w : World} {K : IntKind} {b off : Nat} {zs : List Int} (h : Reads w K (some ⟨b, off, none⟩) zs) (q : Nat) : Reads w K (some ⟨b, off + q, none⟩) (zs.drop q) := by
  rcases h with rfl | ⟨b', off', h, hc⟩
  · exact .inl (by simp)
  · cases h
    refine .inr ⟨b, off + q, rfl, fun j hj => ?_⟩
    rw [List.length_drop] at hj
    rw [Nat.add_assoc, hc (q + j) (by omega), List.getElem?_drop]

theorem sumF_small (l : List Int) : ∀ acc : Int, (∀ x ∈ l, -1125899906842624 ≤ x ∧ x ≤ 1125899906842624) → -(1125899906842624 * (300 - (l.length : Int))) ≤ acc → acc ≤ 1125899906842624 * (300 - (l.length : Int)) → l.length ≤ 300 → sumF acc l = some (acc + l.sum) := by
  induction l with
  | nil => intro acc _ _ _ _; simp [sumF]
  | cons x l ih =>
    intro acc hx h1 h2 hl
    have b := hx x (by simp)
    simp only [List.length_cons] at *
    have hf : fits (acc + x) = true := by rw [fits_iff]; unfold I64; omega
    rw [sumF, if_pos hf, ih (acc + x) (fun y hy => hx y (by simp [hy])) (by omega) (by omega) (by omega), List.sum_cons]
    congr 1; omega
theorem sum_small (l : List Int) (hx : ∀ x ∈ l, -1125899906842624 ≤ x ∧ x ≤ 1125899906842624) (hl : l.length ≤ 300) : sumV l = l.sum ∧ sumB l = true := by
  have h := sumF_small l 0 hx (by omega) (by omega) hl
  unfold sumV sumB
  rw [h]; simp
theorem sum_bound (l : List Int) (hx : ∀ x ∈ l, -1125899906842624 ≤ x ∧ x ≤ 1125899906842624) (hl : l.length ≤ 300) : -(1125899906842624 * 300) ≤ l.sum ∧ l.sum ≤ 1125899906842624 * 300 := by
  have key : ∀ l : List Int, (∀ x ∈ l, -1125899906842624 ≤ x ∧ x ≤ 1125899906842624) → -(1125899906842624 * (l.length : Int)) ≤ l.sum ∧ l.sum ≤ 1125899906842624 * (l.length : Int) := by
    intro l
    induction l with
    | nil => intro _; simp
    | cons x l ih =>
      intro h
      have b := h x (by simp)
      have := ih (fun y hy => h y (by simp [hy]))
      simp only [List.length_cons, List.sum_cons]
      omega
  have := key l hx
  omega

theorem Try.info_i64 : (Try.prog.info? 2).map (fun i => (i.zero, i.size, i.bytes)) = some (some (.int .i64 0), 1, 8) := by kernel_rfl

theorem and511 (a : Int) : 0 ≤ bits BinOp.and IntKind.i64 a 511 := by
  rw [bits_and_i64]
  have h : (BitVec.ofInt 64 a &&& BitVec.ofInt 64 511).msb = false := by
    rw [BitVec.msb_and, msb_ofInt (a := 511) (by unfold I64; omega)]; simp
  rw [BitVec.toInt_eq_msb_cond, h]; simp

def heldL (zs : List Int) : List Int := zs.map fun z => clampS z (-1125899906842624) 1125899906842624

set_option maxHeartbeats 800000 in
theorem ScalarRows_calls (zs : List Int) (A : Option Addr) (cap : Nat) (cut : Int) (w : World) (hl : zs.length ≤ maxLen) (hz : ∀ z ∈ zs, I64 z) (hr : Reads w .i64 A zs) (hcut : I64 cut) :
    Calls Try.prog 10 #[.slice A zs.length cap, .int .i64 cut] w fun e w' => e = .returned (.bool true) ∧ Below w.heap.size w w' := by
  by_cases hlen : 300 < zs.length
  · clear hl hz hr hcut
    go_enter Try.func10, Try.ntmps10
    go_wp2_with fail
    refine (alive_calls _).mono ?_
    rintro e w1 ⟨rfl, hb⟩
    go_wp2
    go_ret
    exact ⟨rfl, hb⟩
  have hlen' : zs.length ≤ 300 := by omega
  obtain ⟨i0, hi, hz0, hz1, hz2⟩ := info_parts Try.info_i64
  have HR := Lib.hid fun w1 (hb : Below w.heap.size w w1) => hr.below hb
  have HZ := Lib.hid hz
  clear hr hz hl
  go_enter Try.func10, Try.ntmps10
  go_wp2_with fail
  refine (alive_calls _).mono ?_
  rintro e w1 ⟨rfl, hb⟩
  go_wp2_with fail
  obtain ⟨W2, hW2⟩ : ∃ W2, (w1.alloc (Obj.cells #[] 2)).alloc (Obj.cells #[] 2) = W2 := ⟨_, rfl⟩
  rw [hW2]
  have hsz : W2.heap.size = w1.heap.size + 2 := by rw [← hW2]; simp
  have hbel : Below w.heap.size w W2 := by rw [← hW2]; exact ((hb.alloc hb.size _).alloc (by have := hb.size; simp; omega) _)
  have o5 : W2.ownsRow w.heap.size 2 1 (.slice (some ⟨w1.heap.size, 0, none⟩) 0 0) 0 [] := by
    rw [← hW2]; exact World.ownsRow.alloc (World.ownsRow_made (size := 1) w1 #[] 0 hb.size (by simp [maxLen]) rfl) _
  have o6 : W2.ownsRow w.heap.size 2 1 (.slice (some ⟨w1.heap.size + 1, 0, none⟩) 0 0) 0 [] := by
    rw [← hW2]
    have := World.ownsRow_made (base := w.heap.size) (e := 2) (size := 1) (w1.alloc (Obj.cells #[] 2)) #[] 0 (by have := hb.size; simp; omega) (by simp [maxLen]) rfl
    simpa using this
  clear hW2
  go_loopw [5, 27] (fun v i wr => ∃ k : Nat, k ≤ zs.length ∧ i = .int .i64 k ∧ wr.ownsRow w.heap.size 2 1 v k ((heldL (zs.take k)).map (Value.int .i64)) ∧
      wr.ownsRow w.heap.size 2 1 (.slice (some ⟨w1.heap.size + 1, 0, none⟩) 0 0) 0 [] ∧ v.ownBlock ≠ some (w1.heap.size + 1) ∧ w1.heap.size + 2 ≤ wr.heap.size ∧ Below w.heap.size w wr) (fun _ i _ => zs.length - (intOf i).toNat)
  case atStart => exact ⟨0, Nat.zero_le _, rfl, o5, o6, by simp [Value.ownBlock], by omega, hbel⟩
  case round =>
    clear o5 o6 hbel hsz
    obtain ⟨k, hk, rfl, ow5, ow6, hne, hs, hB⟩ := hrel
    by_cases hlt : k < zs.length
    · have hrd := HR.out wr hB
      rcases hrd with rfl | ⟨b, off, rfl, hc⟩
      · simp at hlt
      replace hc := hc k hlt
      have hI : I64 (zs[k]?.getD 0) := by rw [List.getElem?_eq_getElem hlt]; exact HZ.out _ (List.getElem_mem _)
      have hL : heldL (zs.take (k + 1)) = heldL (zs.take k) ++ [clampS (zs[k]?.getD 0) (-1125899906842624) 1125899906842624] := by
        unfold heldL
        rw [List.take_succ_eq_append_getElem hlt, List.map_append, List.getElem?_eq_getElem hlt]; rfl
      have HL := Lib.hid hL
      clear hL hI
      generalize zs[k]?.getD 0 = z at *
      go_wp2_with fail
      refine (Clamp_calls z _ _ _).mono ?_
      rintro e w1 ⟨rfl, rfl⟩
      generalize clampS z (-1125899906842624) 1125899906842624 = cz at *
      go_wp2_with (at_builtin; refine wpList_append_own_at _ rfl _ _ 29 rfl w.heap.size 2 i0 (.int .i64 0) 1 8 Try.underlying29 hi hz0 hz1 hz2 rfl (by decide) _ _ _ rfl (ow5.alloc _) ⟨wr.heap.size, 0, none⟩ 1 1 [.int .i64 cz] rfl rfl (cell_one_new _ _ _) ?c1 ?c2 ?c3 ?c4 ?c5)
      case c1 => intro u hu; simp at hu; subst hu; rfl
      case c2 => unfold maxLen; omega
      case c3 => omega
      case c4 => have := hB.size; simp; omega
      intro v' w3 hown' hgrow hnil hat
      have o6' := (ow6.alloc (Obj.cells #[Value.int IntKind.i64 cz] 2)).kept hgrow (.inr (fun h => hne h.symm))
      have hB' := (hB.alloc hB.size (Obj.cells #[Value.int IntKind.i64 cz] 2)).grown hgrow (by have := hB.size; simp; omega) (fun j hj => (ow5.lt j hj).1)
      have hs' : w1.heap.size + 2 ≤ w3.heap.size := by have := hgrow.size; simp at this; omega
      have hne' : v'.ownBlock ≠ some (w1.heap.size + 1) := by
        rcases hat with h | h <;> rw [h]
        · exact hne
        · simp; omega
      have HN := Lib.hid hne'
      have HO := Lib.hid hown'
      have HO6 := Lib.hid o6'
      clear hat hnil hne hown' hne' hgrow o6' ow5 ow6 hB
      go_wp2
      go_roundw
      case rel => exact ⟨k + 1, by omega, by go_num, by rw [HL.out, List.map_append]; exact HO.out, HO6.out, HN.out, hs', hB'⟩
      case measure => simp [intOf]; omega
    · obtain rfl : k = zs.length := by omega
      rw [List.take_length] at ow5
      obtain ⟨A5, cap5, rfl, hcap5, hlen5, rd5⟩ := own_reads ow5
      have hsm : ∀ x ∈ heldL zs, -1125899906842624 ≤ x ∧ x ≤ 1125899906842624 := by
        intro x hx
        unfold heldL at hx
        obtain ⟨z, _, rfl⟩ := List.mem_map.1 hx
        exact clamp_bounds (by omega)
      generalize heldL zs = m at *
      have hm300 : m.length ≤ 300 := by omega
      have hne5 : (Value.slice A5 zs.length cap5).ownBlock ≠ (Value.slice (some ⟨w1.heap.size + 1, 0, none⟩) 0 0).ownBlock := hne
      clear hne HR HZ hb hlt hk hlen rd5
      generalize zs.length = n at *
      subst hlen5
      go_wp2_with fail
      go_loopw [6, 9] (fun v i wr2 => ∃ k : Nat, k ≤ m.length ∧ i = .int .i64 ((k : Int) - 1) ∧ wr2.ownsRow w.heap.size 2 1 v (m.length - k) ((m.drop k).reverse.map (Value.int .i64)) ∧
          wr2.ownsRow w.heap.size 2 1 (.slice A5 m.length cap5) m.length (m.map (Value.int .i64)) ∧ (Value.slice A5 m.length cap5).ownBlock ≠ v.ownBlock ∧ Below w.heap.size w wr2) (fun _ i _ => (intOf i + 1).toNat)
      case atStart => exact ⟨m.length, Nat.le_refl _, rfl, by simpa using ow6, ow5, hne5, hB⟩
      case round =>
        clear ow5 ow6 hne5 hB hs
        obtain ⟨k, hk, rfl, ow6, ow5, hne, hB⟩ := hrel
        cases k with
        | succ j =>
          have hi1 : (((j + 1 : Nat) : Int) - 1) = (j : Int) := by omega
          rw [hi1]
          clear hi1
          have hj : j < m.length := by omega
          obtain ⟨A, c, he, _, _, rd⟩ := own_reads ow5
          obtain ⟨rfl, rfl⟩ : A5 = A ∧ cap5 = c := by cases he; exact ⟨rfl, rfl⟩
          rcases rd with rfl | ⟨b, off, rfl, hc⟩
          · simp at hj
          replace hc := hc j hj
          have hL : (m.drop j).reverse = (m.drop (j + 1)).reverse ++ [m[j]?.getD 0] := by
            rw [List.drop_eq_getElem_cons hj, List.reverse_cons, List.getElem?_eq_getElem hj]; rfl
          have HL := Lib.hid hL
          have HM := Lib.hid hsm
          clear hL he hsm
          generalize m[j]?.getD 0 = x at *
          have hlen : m.length - (j + 1) + 1 = m.length - j := by omega
          have HLEN := Lib.hid hlen
          clear hlen
          go_wp2_with (at_builtin; refine wpList_append_own_at _ rfl _ _ 29 rfl w.heap.size 2 i0 (.int .i64 0) 1 8 Try.underlying29 hi hz0 hz1 hz2 rfl (by decide) _ _ _ rfl (ow6.alloc _) ⟨wr.heap.size, 0, none⟩ 1 1 [.int .i64 x] rfl rfl (cell_one_new _ _ _) ?d1 ?d2 ?d3 ?d4 ?d5)
          case d1 => rfl
          case d2 => unfold maxLen; omega
          case d3 => omega
          case d4 => have := hB.size; simp; omega
          intro v' w3 hown' hgrow hnil hat
          have o5' := (ow5.alloc (Obj.cells #[Value.int IntKind.i64 x] 2)).kept hgrow (.inr hne)
          have hB' := (hB.alloc hB.size (Obj.cells #[Value.int IntKind.i64 x] 2)).grown hgrow (by have := hB.size; simp; omega) (fun j hj => (ow6.lt j hj).1)
          have hne' : (Value.slice (some ⟨b, off, none⟩) m.length cap5).ownBlock ≠ v'.ownBlock := by
            rcases hat with h | h <;> rw [h]
            · exact hne
            · have := (ow5.lt b rfl).2
              simp [Value.ownBlock]; omega
          rw [HLEN.out] at hown'
          have hown2 : w3.ownsRow w.heap.size 2 1 v' (m.length - j) ((m.drop j).reverse.map (Value.int .i64)) := by rw [HL.out]; simpa using hown'
          have HN := Lib.hid hne'
          have HO := Lib.hid hown2
          have HO5 := Lib.hid o5'
          clear hat hnil hne hown' hown2 hne' hgrow o5' ow5 ow6 hB
          go_wp2
          go_roundw
          case rel => exact ⟨j, by omega, by go_num, HO.out, HO5.out, HN.out, hB'⟩
          case measure => simp [intOf]
        | zero =>
          rw [Nat.sub_zero, List.drop_zero] at ow6
          obtain ⟨A6, cap6, rfl, hcap6, _, rd6⟩ := own_reads ow6
          obtain ⟨q, hq, hqn⟩ : ∃ q : Nat, (bits BinOp.and IntKind.i64 cut 511).tmod ((m.length : Int) + 1) = (q : Int) ∧ q ≤ m.length := by
            have hnn := and511 cut
            generalize bits BinOp.and IntKind.i64 cut 511 = u at *
            rw [Int.tmod_eq_emod_of_nonneg hnn]
            have h1 := Int.emod_nonneg u (show (m.length : Int) + 1 ≠ 0 by omega)
            have h2 := Int.emod_lt_of_pos u (show (0 : Int) < (m.length : Int) + 1 by omega)
            exact ⟨(u % ((m.length : Int) + 1)).toNat, by omega, by omega⟩
          have st := fun (l : List Int) (h : ∀ x ∈ l, x ∈ m) (hl : l.length ≤ m.length) => sum_small l (fun x hx => hsm x (h x hx)) (by omega)
          have s1 := st m (fun x h => h) (Nat.le_refl _)
          have s2 := st (m.take q) (fun x h => List.mem_of_mem_take h) (by simp; omega)
          have s3 := st (m.drop q) (fun x h => List.mem_of_mem_drop h) (by simp)
          have s4 := st m.reverse (fun x h => by simpa using h) (by simp)
          have i64 : ∀ x ∈ m, I64 x := fun x hx => by have := hsm x hx; unfold I64; omega
          have T1 := fun A cap w hr => Sum64_calls m A cap w (by omega) i64 hr
          have T2 := fun A cap w hr => Sum64_calls (m.take q) A cap w (by simp; omega) (fun x h => i64 x (List.mem_of_mem_take h)) hr
          have T3 := fun A cap w hr => Sum64_calls (m.drop q) A cap w (by simp; omega) (fun x h => i64 x (List.mem_of_mem_drop h)) hr
          have T4 := fun A cap w hr => Sum64_calls m.reverse A cap w (by simp; omega) (fun x h => i64 x (by simpa using h)) hr
          have hsum : (m.take q).sum + (m.drop q).sum = m.sum := by rw [← List.sum_append, List.take_append_drop]
          have bd1 := sum_bound m hsm hm300
          have bd2 := sum_bound (m.take q) (fun x h => hsm x (List.mem_of_mem_take h)) (by simp; omega)
          have bd3 := sum_bound (m.drop q) (fun x h => hsm x (List.mem_of_mem_drop h)) (by simp; omega)
          simp only [s1] at T1
          simp only [s2, List.length_take, Nat.min_eq_left hqn] at T2
          simp only [s3, List.length_drop] at T3
          simp only [s4, List.sum_reverse, List.length_reverse] at T4
          generalize m.sum = a at *
          generalize (m.take q).sum = x at *
          generalize (m.drop q).sum = y at *
          have hxy : (x + y == a) = true := by simpa using hsum
          replace T1 := Lib.hid T1
          replace T2 := Lib.hid T2
          replace T3 := Lib.hid T3
          replace T4 := Lib.hid T4
          have HQ := Lib.hid hq
          have R6 := Lib.hid rd6
          clear ow6 hne hsm st s1 s2 s3 s4 hsum hq i64 rd6
          rcases ow5.2 with ⟨hv, hn⟩ | ⟨g, c, cur, hv, _, _, hc, _⟩
          · obtain ⟨rfl, rfl⟩ : A5 = none ∧ cap5 = 0 := by simp at hv; exact ⟨hv.1, hv.2.2⟩
            have hm0 : m = [] := List.eq_nil_of_length_eq_zero hn
            subst hm0
            obtain rfl : q = 0 := by simpa using hqn
            clear ow5 hv hn
            simp only [List.length_nil] at *
            go_wp2_with fail
            go_wp2_with fail
            refine (T1.out _ _ _ (.inl rfl)).mono ?_
            rintro e w1 ⟨rfl, rfl⟩
            go_wp2_with fail
            refine (T2.out _ _ _ (.inl rfl)).mono ?_
            rintro e w1 ⟨rfl, rfl⟩
            go_wp2_with fail
            refine (T3.out _ _ _ (.inl rfl)).mono ?_
            rintro e w1 ⟨rfl, rfl⟩
            go_wp2_with fail
            refine (T4.out _ _ _ R6.out).mono ?_
            rintro e w1 ⟨rfl, rfl⟩
            go_wp2
            go_ret
            exact ⟨rfl, hB⟩
          · obtain ⟨rfl, rfl⟩ : A5 = some ⟨g, 0, none⟩ ∧ cap5 = c := by cases hv; exact ⟨rfl, rfl⟩
            obtain ⟨A, c, he, _, _, rd5⟩ := own_reads ow5
            obtain ⟨rfl, rfl⟩ : some ⟨g, 0, none⟩ = A ∧ cap5 = c := by cases he; exact ⟨rfl, rfl⟩
            have rd5d := rd5.drop q
            rw [Nat.zero_add] at rd5d
            have R5 := Lib.hid rd5
            have R5t := Lib.hid (rd5.take q)
            have R5d := Lib.hid rd5d
            clear ow5 he rd5 rd5d hv
            by_cases hqc : q < cap5
            · go_wp2_with fail
              rw [HQ.out]
              go_wp2_with fail
              refine (T1.out _ _ _ R5.out).mono ?_
              rintro e w1 ⟨rfl, rfl⟩
              go_wp2_with fail
              refine (T2.out _ _ _ R5t.out).mono ?_
              rintro e w1 ⟨rfl, rfl⟩
              go_wp2_with fail
              refine (T3.out _ _ _ R5d.out).mono ?_
              rintro e w1 ⟨rfl, rfl⟩
              go_wp2_with fail
              refine (T4.out _ _ _ R6.out).mono ?_
              rintro e w1 ⟨rfl, rfl⟩
              go_wp2
              go_ret
              exact ⟨rfl, hB⟩
            · obtain rfl : q = cap5 := by omega
              obtain hmc : m.length = q := by omega
              have e3 : m.drop q = [] := by rw [← hmc]; exact List.drop_length
              have R3 : ∀ W A, Reads W .i64 A (m.drop q) := fun W A => .inl e3
              have T3' := Lib.hid (by
                have := T3.out
                rw [show m.length - q = 0 by omega] at this
                exact this)
              clear hqc hcap5 hcap6 e3 hmc
              go_wp2_with fail
              rw [HQ.out]
              go_wp2_with fail
              refine (T1.out _ _ _ R5.out).mono ?_
              rintro e w1 ⟨rfl, rfl⟩
              go_wp2_with fail
              refine (T2.out _ _ _ R5t.out).mono ?_
              rintro e w1 ⟨rfl, rfl⟩
              go_wp2_with fail
              refine (T3'.out _ _ _ (R3 _ _)).mono ?_
              rintro e w1 ⟨rfl, rfl⟩
              go_wp2_with fail
              refine (T4.out _ _ _ R6.out).mono ?_
              rintro e w1 ⟨rfl, rfl⟩
              go_wp2
              go_ret
              exact ⟨rfl, hB⟩
end Go.Proofs.Ytboniffcoohbjaa.Sc
