/- The walk of the statement HeapPlays. -/
import Derived.Test.YtfkhnhpphcpmmaaHpPlayP
import Derived.Test.YtfkhnhpphcpmmaaAppendR
import Derived.Test.YtfkhnhpphcpmmaaMask
import Derived.BigQuiet
import Derived.Deep.RegionHeld3
namespace Go.Proofs.Ytfkhnhpphcpmmaa.HpItem
open Go Go.RowKit Go.Shelf Go.Proofs.Ytfkhnhpphcpmmaa.Lb Go.Proofs.Ytfkhnhpphcpmmaa.HpPure Go.Proofs.Ytfkhnhpphcpmmaa.Ref06
set_option linter.unusedVariables false
set_option linter.unusedSimpArgs false

def Stop (p : Prop) : Prop := p
theorem stop_append {P : Program} {w : World} {ops : Array Oper} {rest : List Oper} {o : Oper} {a : Act} {Q : Exit → Act → World → Prop} (s x : Operand) (t : TypeId)
    (ho : o.op = .call { callee := .builtin .append, args := #[s, x], argTypes := #[t, t] }) (h : Stop (wpList P ops Q (o :: rest) a w)) : wpList P ops Q (o :: rest) a w := h
/-- A step of the statement's play. -/
structure Op3 where
  kind : Int
  key : Int
  n : Int
def OpsAt (w : World) (A : Option Addr) (ops : List Op3) : Prop :=
  ops = [] ∨ ∃ b off, A = some ⟨b, off, none⟩ ∧ ∀ j o, ops[j]? = some o → w.cell? ⟨b, off + j * 3, none⟩ = some (.int .i64 o.kind) ∧ w.cell? ⟨b, off + j * 3 + 1, none⟩ = some (.int .i64 o.key) ∧ w.cell? ⟨b, off + j * 3 + 2, none⟩ = some (.int .i64 o.n)
theorem OpsAt.kept {w w' : World} {A : Option Addr} {ops : List Op3} (h : OpsAt w A ops) (hk : Kept Nil w w') : OpsAt w' A ops := by
  rcases h with h | ⟨b, off, h, hc⟩
  · exact .inl h
  · exact .inr ⟨b, off, h, fun j o hj => by obtain ⟨h1, h2, h3⟩ := hc j o hj; exact ⟨hk.cell h1 (fun h => h), hk.cell h2 (fun h => h), hk.cell h3 (fun h => h)⟩⟩
theorem IsHeap.lower {w : World} {base base' h lf : Nat} {lcap : Array Value} {v : Value} {xs : List (It × Int)} {seq : Int} (H : IsHeap w base h lf lcap v xs seq) (hb : base' ≤ base) : IsHeap w base' h lf lcap v xs seq :=
  ⟨Nat.le_trans hb H.hb, H.hd, own_lower H.own (fun k hk => Nat.le_trans hb (H.own.lt k hk).1), H.ne, H.few⟩
theorem IsHeap.own_lt {w : World} {base h lf : Nat} {lcap : Array Value} {v : Value} {xs : List (It × Int)} {seq : Int} (H : IsHeap w base h lf lcap v xs seq) {i : Nat} (hi : Own h v i) : i < w.heap.size := by
  rcases hi with rfl | hi
  · exact H.cells.2.2.2.2
  · exact (H.own.lt i hi).2

theorem Same_n (xs : List It) (n : Nat) (A B : Option Addr) (capA capB : Nat) (w : World) (hn : xs.length = n) (hr : Row w A xs) (hr2 : Row w B xs) (hm : n ≤ 4294967296) :
    Calls Try.prog 17 #[.slice A n capA, .slice B n capB] w fun e w' => e = .returned (.bool true) ∧ Kept Nil w w' := by
  subst hn
  exact Same_is xs A B capA capB w hr hr2 hm
theorem Row.take {w : World} {A : Option Addr} {xs : List It} (h : Row w A xs) (n : Nat) : Row w A (xs.take n) := by
  rcases h with rfl | ⟨b, off, h, hc⟩
  · exact .inl (by simp)
  · exact .inr ⟨b, off, h, fun i x hx => hc i x (by rw [List.getElem?_take] at hx; split at hx; exact hx; cases hx)⟩
theorem sliced_own {w : World} {base n m : Nat} {v : Value} {l : List Value} (h : w.ownsRow base 27 2 v n l) (hm : m ≤ n) {A : Option Addr} {c : Nat} (hv : v = .slice A n c) (w' : World) :
    (Instr.slice 29 (.slice A n c) none (some (.int .i64 m)) none).run Try.prog w' = .ok (.slice A m c) w' := by
  have hc : n ≤ c ∧ (A = none ∨ ∃ g, A = some ⟨g, 0, none⟩) := by
    rcases own_form h with ⟨h1, h2, _⟩ | ⟨g, cap, h1, _, _, h4, _⟩
    · rw [h1] at hv; cases hv; exact ⟨Nat.le_refl _, .inl rfl⟩
    · rw [h1] at hv; cases hv; exact ⟨h4, .inr ⟨g, rfl⟩⟩
  have ht : Try.prog.underlying 29 = some (.slice (Try.prog.elem 29)) := by kernel_rfl
  rw [run_slice_h w' _ A n c ht .i64 (m : Int) (by omega) (by omega)]
  rcases hc.2 with rfl | ⟨g, rfl⟩
  · have : (if c = 0 then (none : Option Addr) else none) = none := by split <;> rfl
    simp [go_sem, sliced, Result.andThen]
  · simp [go_sem, sliced, Result.andThen]

set_option maxRecDepth 4000 in
set_option maxHeartbeats 8000000 in
theorem HeapPlays_calls (ops : List Op3) (A : Option Addr) (cap : Nat) (w : World) (hm : ops.length ≤ maxLen) (hr : OpsAt w A ops) :
    Calls Try.prog 3 #[.slice A ops.length cap] w fun e w' => e = .returned (.bool true) ∧ Below w.heap.size w w' := by
  obtain ⟨i0, hinf, hz0, hz1, hz2⟩ := info_parts info2
  have HR := Lib.hid hr
  clear hr
  unfold maxLen at hm
  by_cases h100 : 100 < ops.length
  · go_enter Try.func3, Try.ntmps3
    go_wp2_with fail
    refine (alive_is w).mono ?_
    rintro e w1 ⟨rfl, hk1⟩
    have HK := Lib.hid hk1
    clear hk1
    go_wp2
    go_ret
    exact ⟨rfl, HK.out.toBelow⟩
  · go_enter Try.func3, Try.ntmps3
    go_wp2_with fail
    refine (alive_is w).mono ?_
    rintro e w1 ⟨rfl, hk1⟩
    have HK := Lib.hid hk1
    have hw1 := hk1.size
    clear hk1
    go_wp2_with fail
    refine (New_is _ #[] w1).mono ?_
    rintro e w2 ⟨rfl, H2, hk2⟩
    have HH2 := Lib.hid (H2.lower hw1)
    have HK2 := Lib.hid (HK.out.step hk2)
    have hw2 := hk2.size
    have hh2 := H2.cells.2.2.2.2
    clear H2 hk2
    have L := less_is.up (Nat.zero_le w.heap.size)
    have LL := Lib.hid L
    clear L
    go_wp2_with fail
    go_loopw [4, 24] (fun r i wr => ∃ (k : Nat) (v : Value) (xs : List (It × Int)) (row : List It) (seq : Nat), k ≤ ops.length ∧ i = .int .i64 k ∧ seq ≤ k ∧ row.length ≤ k ∧ IsHeap wr w.heap.size w1.heap.size 10 #[] v xs seq ∧
        wr.ownsRow w.heap.size 27 2 r row.length (row.flatMap It.cells) ∧ (∀ j, r.ownBlock = some j → ¬ Own w1.heap.size v j) ∧ Play xs row seq ∧ Kept Nil w wr) (fun _ i _ => ops.length - (intOf i).toNat)
    case atStart =>
      exact ⟨0, _, [], [], 0, Nat.zero_le _, rfl, Nat.le_refl _, Nat.zero_le _, HH2.out.nil ((Kept.refl Nil _).alloc _), World.ownsRow_lit w2 #[] 0 (by omega) (by decide) rfl,
        fun j e h => by simp [Value.ownBlock] at e; subst e; have := HH2.out.own_lt h; omega, Play.nil, HK2.out.alloc _⟩
    case round =>
      obtain ⟨k, v, xs, row, seq, hk, rfl, hsq, hrl, hH, hO, hD, hP, hK⟩ := hrel
      have HH := Lib.hid hH
      have HO := Lib.hid hO
      have HD := Lib.hid hD
      have HP := Lib.hid hP
      have HKr := Lib.hid hK
      have hzz := hK.size
      have hxl := hP.len
      have HXL := Lib.hid hxl
      have hx100 : xs.length ≤ 100 := by omega
      clear hH hO hD hP hK hxl
      by_cases hlt : k < ops.length
      · obtain ⟨⟨k0, k1, k2⟩, eo⟩ : ∃ o, ops[k]? = some o := ⟨_, List.getElem?_eq_getElem hlt⟩
        obtain ⟨b, off, rfl, c0, c1, c2⟩ : ∃ b off, A = some ⟨b, off, none⟩ ∧ wr.cell? ⟨b, off + k * 3, none⟩ = some (.int .i64 k0) ∧ wr.cell? ⟨b, off + k * 3 + 1, none⟩ = some (.int .i64 k1) ∧ wr.cell? ⟨b, off + k * 3 + 2, none⟩ = some (.int .i64 k2) := by
          rcases HR.out.kept HKr.out with h | ⟨b, off, h, hc⟩
          · subst h; simp at hlt
          · obtain ⟨h1, h2, h3⟩ := hc k _ eo
            exact ⟨b, off, h, h1, h2, h3⟩
        obtain ⟨A1, cp1, e1, R1, B1⟩ := (row_of_own HO.out).2
        subst e1
        have HR1 := Lib.hid R1
        have HB1 := Lib.hid B1
        clear eo R1 B1
        go_wp2_with fail
        refine (First_is row A1 cp1 _ (HR1.out.kept ((Kept.refl Nil wr).alloc _) (fun _ _ h => h)) (by omega)).mono ?_
        rintro e w3 ⟨rfl, hk3⟩
        obtain ⟨at_, hat⟩ : ∃ x, atOf (firstGo row row.length) = x := ⟨_, rfl⟩
        rw [hat]
        have HAT := Lib.hid hat
        have hk3' := ((Kept.refl Nil wr).alloc (.cells #[.int .i64 k0, .int .i64 k1, .int .i64 k2] 31)).step hk3
        have o0 := hk3.cell (p := ⟨wr.heap.size, 0, none⟩) (v := .int .i64 k0) (by simp) (fun h => h)
        have o1 := hk3.cell (p := ⟨wr.heap.size, 1, none⟩) (v := .int .i64 k1) (by simp) (fun h => h)
        have o2 := hk3.cell (p := ⟨wr.heap.size, 2, none⟩) (v := .int .i64 k2) (by simp) (fun h => h)
        have hs3 := hk3.size
        rw [World.size_alloc] at hs3
        have HH3 := Lib.hid (HH.out.nil hk3')
        have HO3 := Lib.hid (hk3'.own HO.out (fun _ _ h => h))
        have HK3 := Lib.hid (HKr.out.step hk3')
        have HR3 := Lib.hid (HR1.out.kept hk3' (fun _ _ h => h))
        have HKW := Lib.hid hk3'
        clear hat hk3 hk3' c0 c1 c2
        by_cases h0 : k0 = 0 ∨ k0 = 1

        · rcases h0 with h0 | h0
          · subst h0
            go_wp2_with fail
            have hka : Kept Nil w3 (w3.alloc (.cells #[.int .i64 k1, .int .i64 k] 27)) := (Kept.refl Nil w3).alloc _
            refine (Push_is LL.out (HH3.out.nil hka) trivial k1 (k : Int) (by omega) (by omega) (by omega)).mono ?_
            rintro e w4 ⟨v4, rfl, H4, hk4, hv4⟩
            have hnx : ¬ Own w1.heap.size v w3.heap.size := fun h => by have := HH3.out.own_lt h; omega
            have x0 := hk4.cell (p := ⟨w3.heap.size, 0, none⟩) (v := .int .i64 k1) (by simp) hnx
            have x1 := hk4.cell (p := ⟨w3.heap.size, 1, none⟩) (v := .int .i64 k) (by simp) hnx
            have hs4 := hk4.size
            rw [World.size_alloc] at hs4
            have HDx := Lib.hid (show ∀ j, (Value.slice A1 row.length cp1).ownBlock = some j → ¬ Own w1.heap.size v4 j from fun j e h => by
              rcases h with h | h
              · exact HD.out j e (.inl h)
              · rcases hv4 with h' | ⟨j', h', hj⟩
                · exact HD.out j e (.inr (h' ▸ h))
                · rw [h'] at h; cases h
                  have h8 := (HO.out.lt _ e).2
                  rw [World.size_alloc] at hj; omega)
            have HH4 := Lib.hid H4
            have HO4 := Lib.hid (hk4.own (hka.own HO3.out (fun _ _ h => h)) (fun j e h => HD.out j e h))
            have HK4 := Lib.hid ((HK3.out.step hka).trans hk4 (fun i hi => .inr (HH3.out.own_base i hi)))
            have HV4 := Lib.hid hv4
            have X0 := Lib.hid x0
            have X1 := Lib.hid x1
            clear H4 hk4 hv4 hnx hka
            go_wp2_with (at_builtin; refine stop_append _ _ _ rfl ?_)
            unfold Stop
            refine wpList_append_own_at _ rfl _ _ 29 rfl w.heap.size 27 i0 (.agg #[.int .i64 0, .int .i64 0]) 2 16 Try.underlying29 hinf hz0 hz1 hz2 rfl (by decide) _ _ _ rfl (HO4.out.alloc _) ⟨w4.heap.size, 0, none⟩ 1 1 [.int .i64 k1, .int .i64 k] rfl rfl (cells_new _ _ _) (by simp [Value.oneCell']) (by unfold maxLen; omega) (by omega) (by have := HK4.out.size; simp; omega) ?_
            intro r5 w5 hown5 hgrow5 _ hat5
            have hk5 : Kept (fun i => (Value.slice A1 row.length cp1).ownBlock = some i) w4 w5 := Kept.grown ((Kept.refl _ w4).alloc _) hgrow5 (fun j e => .inl e)
            have HH5 := Lib.hid (HH4.out.kept hk5 (fun h => HDx.out _ h (.inl rfl)) (fun j e h => HDx.out _ h (.inr e)))
            have HO5 := Lib.hid (show w5.ownsRow w.heap.size 27 2 r5 (row.length + 1) ((row ++ [(⟨k1, (k : Int)⟩ : It)]).flatMap It.cells) from by simpa [It.cells] using hown5)
            have HD5 := Lib.hid (show ∀ j, r5.ownBlock = some j → ¬ Own w1.heap.size v4 j from fun j e h => by
              rcases hat5 with e5 | e5
              · exact HDx.out j (e5 ▸ e) h
              · rw [e5] at e; simp at e
                have := HH4.out.own_lt h; omega)
            have HK5 := Lib.hid (HK4.out.trans hk5 (fun j e => .inr (HO.out.lt j e).1))
            clear hown5 hgrow5 hat5 hk5
            obtain ⟨A5, c5, rfl⟩ := own_slice HO5.out
            go_wp2_with fail
            refine (Len_is HH5.out).mono ?_
            rintro e wz ⟨rfl, rfl⟩
            have hne : (((push ltK xs (⟨k1, (k : Int)⟩ : It) seq).length : Int) != ((row.length : Int) + 1)) = false := by rw [((HP.out.push (⟨k1, (k : Int)⟩ : It))).len]; simp
            go_wp2_with fail
            clear hne
            go_round
            case measure => (simp [intOf] <;> omega)
            exact ⟨k + 1, v4, push ltK xs (⟨k1, (k : Int)⟩ : It) seq, row ++ [(⟨k1, (k : Int)⟩ : It)], seq + 1, by omega, by go_num, by omega, by simp; omega, HH5.out, (by rw [show (row ++ [(⟨k1, (k : Int)⟩ : It)]).length = row.length + 1 from by simp]; exact HO5.out), HD5.out, (HP.out.push (⟨k1, (k : Int)⟩ : It)), HK5.out⟩
          · subst h0
            go_wp2_with fail
            have hka : Kept Nil w3 (w3.alloc (.cells #[.int .i64 k1, .int .i64 k] 27)) := (Kept.refl Nil w3).alloc _
            refine (Push_is LL.out (HH3.out.nil hka) trivial k1 (k : Int) (by omega) (by omega) (by omega)).mono ?_
            rintro e w4 ⟨v4, rfl, H4, hk4, hv4⟩
            have hnx : ¬ Own w1.heap.size v w3.heap.size := fun h => by have := HH3.out.own_lt h; omega
            have x0 := hk4.cell (p := ⟨w3.heap.size, 0, none⟩) (v := .int .i64 k1) (by simp) hnx
            have x1 := hk4.cell (p := ⟨w3.heap.size, 1, none⟩) (v := .int .i64 k) (by simp) hnx
            have hs4 := hk4.size
            rw [World.size_alloc] at hs4
            have HDx := Lib.hid (show ∀ j, (Value.slice A1 row.length cp1).ownBlock = some j → ¬ Own w1.heap.size v4 j from fun j e h => by
              rcases h with h | h
              · exact HD.out j e (.inl h)
              · rcases hv4 with h' | ⟨j', h', hj⟩
                · exact HD.out j e (.inr (h' ▸ h))
                · rw [h'] at h; cases h
                  have h8 := (HO.out.lt _ e).2
                  rw [World.size_alloc] at hj; omega)
            have HH4 := Lib.hid H4
            have HO4 := Lib.hid (hk4.own (hka.own HO3.out (fun _ _ h => h)) (fun j e h => HD.out j e h))
            have HK4 := Lib.hid ((HK3.out.step hka).trans hk4 (fun i hi => .inr (HH3.out.own_base i hi)))
            have HV4 := Lib.hid hv4
            have X0 := Lib.hid x0
            have X1 := Lib.hid x1
            clear H4 hk4 hv4 hnx hka
            go_wp2_with (at_builtin; refine stop_append _ _ _ rfl ?_)
            unfold Stop
            refine wpList_append_own_at _ rfl _ _ 29 rfl w.heap.size 27 i0 (.agg #[.int .i64 0, .int .i64 0]) 2 16 Try.underlying29 hinf hz0 hz1 hz2 rfl (by decide) _ _ _ rfl (HO4.out.alloc _) ⟨w4.heap.size, 0, none⟩ 1 1 [.int .i64 k1, .int .i64 k] rfl rfl (cells_new _ _ _) (by simp [Value.oneCell']) (by unfold maxLen; omega) (by omega) (by have := HK4.out.size; simp; omega) ?_
            intro r5 w5 hown5 hgrow5 _ hat5
            have hk5 : Kept (fun i => (Value.slice A1 row.length cp1).ownBlock = some i) w4 w5 := Kept.grown ((Kept.refl _ w4).alloc _) hgrow5 (fun j e => .inl e)
            have HH5 := Lib.hid (HH4.out.kept hk5 (fun h => HDx.out _ h (.inl rfl)) (fun j e h => HDx.out _ h (.inr e)))
            have HO5 := Lib.hid (show w5.ownsRow w.heap.size 27 2 r5 (row.length + 1) ((row ++ [(⟨k1, (k : Int)⟩ : It)]).flatMap It.cells) from by simpa [It.cells] using hown5)
            have HD5 := Lib.hid (show ∀ j, r5.ownBlock = some j → ¬ Own w1.heap.size v4 j from fun j e h => by
              rcases hat5 with e5 | e5
              · exact HDx.out j (e5 ▸ e) h
              · rw [e5] at e; simp at e
                have := HH4.out.own_lt h; omega)
            have HK5 := Lib.hid (HK4.out.trans hk5 (fun j e => .inr (HO.out.lt j e).1))
            clear hown5 hgrow5 hat5 hk5
            obtain ⟨A5, c5, rfl⟩ := own_slice HO5.out
            go_wp2_with fail
            refine (Len_is HH5.out).mono ?_
            rintro e wz ⟨rfl, rfl⟩
            have hne : (((push ltK xs (⟨k1, (k : Int)⟩ : It) seq).length : Int) != ((row.length : Int) + 1)) = false := by rw [((HP.out.push (⟨k1, (k : Int)⟩ : It))).len]; simp
            go_wp2_with fail
            clear hne
            go_round
            case measure => (simp [intOf] <;> omega)
            exact ⟨k + 1, v4, push ltK xs (⟨k1, (k : Int)⟩ : It) seq, row ++ [(⟨k1, (k : Int)⟩ : It)], seq + 1, by omega, by go_num, by omega, by simp; omega, HH5.out, (by rw [show (row ++ [(⟨k1, (k : Int)⟩ : It)]).length = row.length + 1 from by simp]; exact HO5.out), HD5.out, (HP.out.push (⟨k1, (k : Int)⟩ : It)), HK5.out⟩
        · have hk00 : (k0 == 0) = false := by simp; omega
          have hk01 : (k0 == 1) = false := by simp; omega
          clear h0
          by_cases h2 : k0 = 2
          · subst h2
            cases hf : firstGo row row.length with
            | none =>
              have hat := HAT.out
              rw [hf] at hat
              simp only [atOf] at hat
              subst hat
              obtain ⟨hx, hr0⟩ := HP.out.empty hf
              have HX := Lib.hid hx
              clear hf hx hr0
              go_wp2_with fail
              refine (Pop_none HH3.out HX.out).mono ?_
              rintro e w4 ⟨rfl, hk4⟩
              have hs4 := hk4.size
              have HH4 := Lib.hid (HH3.out.nil hk4)
              have HK4 := Lib.hid (HK3.out.step hk4)
              have HR4 := Lib.hid (HR3.out.kept hk4 (fun _ _ h => h))
              clear hk4
              go_wp2_with fail
              go_big_quiet (fail)
              go_wp2_with fail
              refine (Without_is row A1 cp1 (-1) _ (HR4.out.kept (((Kept.refl Nil w4).alloc _).drewN _) (fun _ _ h => h)) (fun b off e => Nat.lt_of_lt_of_le (HB1.out b off e).2.1 (by show wr.heap.size ≤ (w4.alloc _).heap.size; rw [World.size_alloc]; omega)) (by omega)).mono ?_
              rintro e w5 ⟨v5, rfl, O5, k5⟩
              have ew : wo row (-1) = row := by unfold wo; rw [if_pos (by omega)]
              rw [ew] at O5
              have h5 : ∀ j, v5.ownBlock = some j → w4.heap.size ≤ j := fun j e => by have h9 : (w4.alloc _).heap.size ≤ j := (O5.lt j e).1; rw [World.size_alloc] at h9; omega
              have HO5 := Lib.hid (own_lower (base' := w.heap.size) O5 (fun j e => by have := h5 j e; omega))
              have k5' : Kept Nil w4 w5 := (((Kept.refl Nil w4).alloc _).drewN _).step k5
              have HH5 := Lib.hid (HH4.out.nil k5')
              have HK5 := Lib.hid (HK4.out.step k5')
              have HD5 := Lib.hid (show ∀ j, v5.ownBlock = some j → ¬ Own w1.heap.size v j from fun j e h => by have := h5 j e; have := HH4.out.own_lt h; omega)
              clear ew O5 h5 k5 k5'
              obtain ⟨A5, c5, rfl⟩ := own_slice HO5.out
              go_wp2_with fail
              refine (Len_is HH5.out).mono ?_
              rintro e wz ⟨rfl, rfl⟩
              have hne : (((xs).length : Int) != ((row).length : Int)) = false := by rw [(HP.out).len]; simp
              go_wp2_with fail
              clear hne
              go_round
              case measure => (simp [intOf] <;> omega)
              exact ⟨k + 1, v, xs, row, seq, by omega, by go_num, by omega, by omega, HH5.out, HO5.out, HD5.out, HP.out, HK5.out⟩
            | some a =>
              have hat := HAT.out
              rw [hf] at hat
              simp only [atOf] at hat
              subst hat
              have ha := firstGo_lt _ _ a hf
              obtain ⟨⟨⟨q0, q1⟩, q2⟩, hq, hqr, hpl⟩ := HP.out.root hf
              have HQ := Lib.hid hq
              have HPL := Lib.hid hpl
              have HQR := Lib.hid hqr
              clear hf hq hqr hpl
              go_wp2_with fail
              refine (Pop_some LL.out HH3.out trivial HQ.out).mono ?_
              rintro e w4 ⟨v4, rfl, H4, hk4, hv4⟩
              have hs4 := hk4.size
              have HH4 := Lib.hid H4
              have HK4 := Lib.hid (HK3.out.trans hk4 (fun i hi => .inr (HH3.out.own_base i hi)))
              have R4 := HR3.out.kept hk4 (fun b ⟨off, e⟩ h => HD.out b (HB1.out b off e).2.2 h)
              have HR4 := Lib.hid R4
              obtain ⟨b5, o5, e5, p0, p1⟩ := Row.at R4 HQR.out
              subst e5
              have hb5 : b5 < w4.heap.size := World.block_lt_of_cell? _ _ p0
              clear hk4 H4 R4
              go_wp2_with fail
              go_big_quiet (fail)
              clear p0 p1
              go_wp2_with fail
              refine (Without_is row (some ⟨b5, o5, none⟩) cp1 (a : Int) _ (HR4.out.kept (((Kept.refl Nil w4).alloc _).drewN _) (fun _ _ h => h)) (fun b off e => Nat.lt_of_lt_of_le (HB1.out b off e).2.1 (by show wr.heap.size ≤ (w4.alloc _).heap.size; rw [World.size_alloc]; omega)) (by omega)).mono ?_
              rintro e w5 ⟨v5, rfl, O5, k5⟩
              have h5 : ∀ j, v5.ownBlock = some j → w4.heap.size ≤ j := fun j e => by have h9 : (w4.alloc _).heap.size ≤ j := (O5.lt j e).1; rw [World.size_alloc] at h9; omega
              have HO5 := Lib.hid (own_lower (base' := w.heap.size) O5 (fun j e => by have := h5 j e; omega))
              have k5' : Kept Nil w4 w5 := (((Kept.refl Nil w4).alloc _).drewN _).step k5
              have HH5 := Lib.hid (HH4.out.nil k5')
              have HK5 := Lib.hid (HK4.out.step k5')
              have HD5 := Lib.hid (show ∀ j, v5.ownBlock = some j → ¬ Own w1.heap.size v4 j from fun j e h => by have := h5 j e; have := HH4.out.own_lt h; omega)
              have hwl := wo_len row a ha
              have HWL := Lib.hid hwl
              clear O5 h5 k5 k5' hwl hv4
              obtain ⟨A5, c5, rfl⟩ := own_slice HO5.out
              go_wp2_with fail
              refine (Len_is HH5.out).mono ?_
              rintro e wz ⟨rfl, rfl⟩
              have hne : (((pop ltK xs).length : Int) != ((wo row (a : Int)).length : Int)) = false := by rw [(HPL.out).len]; simp
              go_wp2_with fail
              clear hne
              go_round
              case measure => (simp [intOf] <;> omega)
              exact ⟨k + 1, v4, pop ltK xs, wo row (a : Int), seq, by omega, by go_num, by omega, by rw [HWL.out]; omega, HH5.out, HO5.out, HD5.out, HPL.out, HK5.out⟩
          · have hk02 : (k0 == 2) = false := by simp [h2]
            clear h2
            by_cases h3 : k0 = 3
            · subst h3
              cases hf : firstGo row row.length with
              | none =>
                have hat := HAT.out
                rw [hf] at hat
                simp only [atOf] at hat
                subst hat
                obtain ⟨hx, hr0⟩ := HP.out.empty hf
                have HX := Lib.hid hx
                clear hf hx hr0
                go_wp2_with fail
                refine (Peek_none HH3.out HX.out).mono ?_
                rintro e w4 ⟨rfl, hk4⟩
                have HK4 := Lib.hid (hk4)
                clear hk4
                go_wp2_with fail
                go_big_quiet (fail)
                have hk5 : Kept Nil w3 ((w4.alloc (.cells #[.int .i64 0, .int .i64 0] 27)).drewN nq) := (HK4.out.alloc _).drewN _
                have HH5 := Lib.hid (HH3.out.nil hk5)
                have HK5 := Lib.hid (HK3.out.step hk5)
                have HO5 := Lib.hid (hk5.own HO3.out (fun _ _ h => h))
                clear hk5
                go_wp2_with fail
                refine (Len_is HH5.out).mono ?_
                rintro e wz ⟨rfl, rfl⟩
                have hne : (((xs).length : Int) != ((row).length : Int)) = false := by rw [(HP.out).len]; simp
                go_wp2_with fail
                clear hne
                go_round
                case measure => (simp [intOf] <;> omega)
                exact ⟨k + 1, v, xs, row, seq, by omega, by go_num, by omega, by omega, HH5.out, HO5.out, HD.out, HP.out, HK5.out⟩
              | some a =>
                have hat := HAT.out
                rw [hf] at hat
                simp only [atOf] at hat
                subst hat
                have ha := firstGo_lt _ _ a hf
                obtain ⟨⟨⟨q0, q1⟩, q2⟩, hq, hqr, hpl⟩ := HP.out.root hf
                have HQ := Lib.hid hq
                have HQR := Lib.hid hqr
                clear hf hq hqr hpl
                go_wp2_with fail
                refine (Peek_some HH3.out HQ.out).mono ?_
                rintro e w4 ⟨rfl, hk4⟩
                have HK4 := Lib.hid hk4
                have R4 := HR3.out.kept hk4 (fun _ _ h => h)
                obtain ⟨b5, o5, e5, p0, p1⟩ := Row.at R4 HQR.out
                subst e5
                have hb5 : b5 < w4.heap.size := World.block_lt_of_cell? _ _ p0
                clear hk4 R4
                go_wp2_with fail
                go_big_quiet (fail)
                clear p0 p1
                have hk5 : Kept Nil w3 ((w4.alloc (.cells #[.int .i64 q0, .int .i64 q1] 27)).drewN nq) := (HK4.out.alloc _).drewN _
                have HH5 := Lib.hid (HH3.out.nil hk5)
                have HK5 := Lib.hid (HK3.out.step hk5)
                have HO5 := Lib.hid (hk5.own HO3.out (fun _ _ h => h))
                clear hk5
                go_wp2_with fail
                refine (Len_is HH5.out).mono ?_
                rintro e wz ⟨rfl, rfl⟩
                have hne : (((xs).length : Int) != ((row).length : Int)) = false := by rw [(HP.out).len]; simp
                go_wp2_with fail
                clear hne
                go_round
                case measure => (simp [intOf] <;> omega)
                exact ⟨k + 1, v, xs, row, seq, by omega, by go_num, by omega, by omega, HH5.out, HO5.out, HD.out, HP.out, HK5.out⟩
            · have hk03 : (k0 == 3) = false := by simp [h3]
              clear h3
              by_cases h4 : k0 = 4
              · subst h4
                obtain ⟨m, hm8, hml⟩ : ∃ m : Nat, bits .and .i64 k2 7 = (m : Int) ∧ m < 8 := ⟨(k2 % 8).toNat, by rw [i64_and7]; omega, by omega⟩
                go_wp2_with fail


                case inr =>
                  have hn1 : m ≤ row.length := by omega
                  have hn2 : m = min m row.length := by omega
                  refine (Sorted_is row A1 cp1 w3 HR3.out (fun b off e => Nat.lt_of_lt_of_le (HB1.out b off e).2.1 (by omega)) (by omega)).mono ?_
                  rintro e w4 ⟨v4, rfl, O4, k4⟩
                  have hsl : (sortRef row).length = row.length := by rw [← sortRef_eq, sortedBy_length]
                  have HSL := Lib.hid hsl
                  obtain ⟨A4, c4, e4, R4, B4⟩ := (row_of_own O4).2
                  rw [hsl] at e4
                  subst e4
                  rw [hsl] at O4
                  have HSC := Lib.hid (sliced_own O4 hn1 rfl)
                  have p2 := k4.cell o2 (fun h => h)
                  have HR4 := Lib.hid R4
                  have HB4 := Lib.hid B4
                  have HH4 := Lib.hid (HH3.out.nil k4)
                  have HK4 := Lib.hid k4
                  have HN1 := Lib.hid hn1
                  have HN2 := Lib.hid hn2
                  clear O4 R4 B4 k4 hsl o0 o1 o2 hn2
                  go_wp2_with fail
                  have hsc := HSC.out
                  go_region_held3 (fun w' => w'.cell? ⟨wr.heap.size, 2, none⟩ = some (.int .i64 k2)) (go_keep) (first
                    | (go_at_call 18
                       refine (take_is LL.out (HH4.out.nil ((Kept.refl Nil _).drew)) trivial (m : Int)).mono ?_
                       rintro e w5 ⟨u5, v5, ys, tk, rfl, H5, hd5, hl5, O5, hk5, hv5⟩
                       have p5 := hk5.cell (w := w4.drew) p2 (fun h => by have h9 : wr.heap.size < wr.heap.size := HH.out.own_lt h; omega)
                       have hl5' : ys.length = m := by rw [hl5, HXL.out, Int.toNat_natCast]; exact HN2.out.symm
                       obtain ⟨P5, htk⟩ := HP.out.take hd5.1 (hd5.2 swoK HP.out.heap) hl5' HN1.out
                       obtain ⟨A5, c5, e5, R5, B5⟩ := (row_of_own O5).2
                       rw [List.length_map, hl5'] at e5
                       rw [htk] at R5
                       subst e5
                       have HR5 := Lib.hid R5
                       have HP5 := Lib.hid P5
                       have HH5 := Lib.hid H5
                       have R4t := (HR4.out.take m).kept ((Kept.refl (Own w1.heap.size v) w4).drew.trans hk5 (fun i hi => .inl hi)) (fun b ⟨off, e⟩ h => by have h8 := HH3.out.own_lt h; have h9 := (HB4.out b off e).1; omega)
                       have HR4t := Lib.hid R4t
                       have HK5 := Lib.hid hk5
                       have HV5 := Lib.hid hv5
                       have HLT := Lib.hid (show ((sortRef row).take m).length = m by rw [List.length_take, HSL.out]; exact Nat.min_eq_left HN1.out)
                       clear H5 hd5 hl5 O5 hk5 hv5 hl5' htk R5 B5 R4t P5)
                    | (go_at_call 17
                       refine (Same_n ((sortRef row).take m) m A5 A4 c5 c4 _ HLT.out HR5.out HR4t.out (by omega)).mono ?_
                       rintro e w6 ⟨rfl, k6⟩
                       have p6 := k6.cell p5 (fun h => h)
                       have HK6 := Lib.hid k6
                       clear k6))
                  have HK56 := Lib.hid (((Kept.refl (Own w1.heap.size v) w4).drew.trans HK5.out (fun i hi => .inl hi)).step HK6.out)
                  have HH6 := Lib.hid (HH5.out.nil HK6.out)
                  have HO6 := Lib.hid (HK56.out.own (HK4.out.own HO3.out (fun _ _ h => h)) (fun j e h => HD.out j e h))
                  have HK6w := Lib.hid ((HK3.out.step HK4.out).trans HK56.out (fun i hi => .inr (HH3.out.own_base i hi)))
                  have hlk := fun j (hj : j ≤ m) => (by obtain ⟨zz, _, h1, _⟩ := HP.out.itr j (by omega); exact h1 : (itr row j).length + j = row.length)
                  have HLK := Lib.hid hlk
                  have hs6 := HK56.out.size
                  have hs4 := HK4.out.size
                  have HOV := Lib.hid (show ∀ i, Own w1.heap.size v5 i → Own w1.heap.size v i from fun i hi => by unfold Own at hi ⊢; rwa [HV5.out] at hi)
                  clear hlk p2 p5 p6 hsc
                  go_wp2_with fail
                  go_loopw [4, 133] (fun r i wr2 => ∃ j : Nat, j ≤ m ∧ i = .int .i64 j ∧ wr2.ownsRow w.heap.size 27 2 r (itr row j).length ((itr row j).flatMap It.cells) ∧ (∀ q, r.ownBlock = some q → ¬ Own w1.heap.size v q) ∧ Kept Nil w6 wr2) (fun _ i _ => m - (intOf i).toNat)
                  case atStart => exact ⟨0, Nat.zero_le _, rfl, HO6.out, fun j e h => HD.out j e h, Kept.refl _ _⟩
                  case round =>
                    obtain ⟨j, hj, rfl, hO, hD, hK⟩ := hrel
                    have HOj := Lib.hid hO
                    have HDj := Lib.hid hD
                    have HKj := Lib.hid hK
                    have hsj := hK.size
                    have hlj := HLK.out j hj
                    have hl100 : (itr row j).length ≤ 100 := by omega
                    have HLJ := Lib.hid hlj
                    clear hO hD hK hlj
                    by_cases hltj : j < m
                    · obtain ⟨A7, c7, e7, R7, B7⟩ := (row_of_own HOj.out).2
                      subst e7
                      have HR7 := Lib.hid R7
                      have HB7 := Lib.hid B7
                      clear R7 B7
                      go_wp2_with fail
                      refine (First_is (itr row j) A7 c7 _ HR7.out (by omega)).mono ?_
                      rintro e w8 ⟨rfl, k8⟩
                      have HK8 := Lib.hid k8
                      have hs8 := k8.size
                      clear k8
                      go_wp2_with fail
                      refine (Without_is (itr row j) A7 c7 _ _ (HR7.out.kept HK8.out (fun _ _ h => h)) (fun b off e => Nat.lt_of_lt_of_le (HB7.out b off e).2.1 hs8) (by omega)).mono ?_
                      rintro e w9 ⟨v9, rfl, O9, k9⟩
                      have h9 : ∀ q, v9.ownBlock = some q → w8.heap.size ≤ q := fun q e => (O9.lt q e).1
                      have HO9 := Lib.hid (own_lower (base' := w.heap.size) O9 (fun q e => by have := h9 q e; omega))
                      have HD9 := Lib.hid (show ∀ q, v9.ownBlock = some q → ¬ Own w1.heap.size v q from fun q e h => by have := h9 q e; have := HH.out.own_lt h; omega)
                      have HK9 := Lib.hid ((HKj.out.step HK8.out).step k9)
                      clear O9 k9 h9
                      go_wp2_with fail
                      go_round
                      case measure => (simp [intOf] <;> omega)
                      exact ⟨j + 1, by omega, by go_num, HO9.out, HD9.out, HK9.out⟩
                    · have hjn : m = j := by omega
                      subst hjn
                      obtain ⟨A7, c7, e7⟩ := own_slice HOj.out
                      subst e7
                      have HKf := Lib.hid (HK6w.out.step HKj.out)
                      have HHf := Lib.hid (HH6.out.nil HKj.out)
                      have HDf := Lib.hid (show ∀ q, (Value.slice A7 (itr row m).length c7).ownBlock = some q → ¬ Own w1.heap.size v5 q from fun q e h => HDj.out q e (HOV.out q h))
                      clear hltj
                      go_wp2_with fail
                      refine (Len_is HHf.out).mono ?_
                      rintro e wz ⟨rfl, rfl⟩
                      have hne : (((tk).length : Int) != ((itr row m).length : Int)) = false := by rw [(HP5.out).len]; simp
                      go_wp2_with fail
                      clear hne
                      go_round
                      case measure => (simp [intOf] <;> omega)
                      exact ⟨k + 1, v5, tk, itr row m, seq, by omega, by go_num, by omega, by have := HLJ.out; omega, HHf.out, HOj.out, HDf.out, HP5.out, HKf.out⟩
                case inl =>
                  have hn1 : row.length ≤ row.length := by omega
                  have hn2 : row.length = min m row.length := by omega
                  refine (Sorted_is row A1 cp1 w3 HR3.out (fun b off e => Nat.lt_of_lt_of_le (HB1.out b off e).2.1 (by omega)) (by omega)).mono ?_
                  rintro e w4 ⟨v4, rfl, O4, k4⟩
                  have hsl : (sortRef row).length = row.length := by rw [← sortRef_eq, sortedBy_length]
                  have HSL := Lib.hid hsl
                  obtain ⟨A4, c4, e4, R4, B4⟩ := (row_of_own O4).2
                  rw [hsl] at e4
                  subst e4
                  rw [hsl] at O4
                  have HSC := Lib.hid (sliced_own O4 hn1 rfl)
                  have p2 := k4.cell o2 (fun h => h)
                  have HR4 := Lib.hid R4
                  have HB4 := Lib.hid B4
                  have HH4 := Lib.hid (HH3.out.nil k4)
                  have HK4 := Lib.hid k4
                  have HN1 := Lib.hid hn1
                  have HN2 := Lib.hid hn2
                  clear O4 R4 B4 k4 hsl o0 o1 o2 hn2
                  go_wp2_with fail
                  have hsc := HSC.out
                  go_region_held3 (fun w' => w'.cell? ⟨wr.heap.size, 2, none⟩ = some (.int .i64 k2)) (go_keep) (first
                    | (go_at_call 18
                       refine (take_is LL.out (HH4.out.nil ((Kept.refl Nil _).drew)) trivial (m : Int)).mono ?_
                       rintro e w5 ⟨u5, v5, ys, tk, rfl, H5, hd5, hl5, O5, hk5, hv5⟩
                       have p5 := hk5.cell (w := w4.drew) p2 (fun h => by have h9 : wr.heap.size < wr.heap.size := HH.out.own_lt h; omega)
                       have hl5' : ys.length = row.length := by rw [hl5, HXL.out, Int.toNat_natCast]; exact HN2.out.symm
                       obtain ⟨P5, htk⟩ := HP.out.take hd5.1 (hd5.2 swoK HP.out.heap) hl5' HN1.out
                       obtain ⟨A5, c5, e5, R5, B5⟩ := (row_of_own O5).2
                       rw [List.length_map, hl5'] at e5
                       rw [htk] at R5
                       subst e5
                       have HR5 := Lib.hid R5
                       have HP5 := Lib.hid P5
                       have HH5 := Lib.hid H5
                       have R4t := (HR4.out.take row.length).kept ((Kept.refl (Own w1.heap.size v) w4).drew.trans hk5 (fun i hi => .inl hi)) (fun b ⟨off, e⟩ h => by have h8 := HH3.out.own_lt h; have h9 := (HB4.out b off e).1; omega)
                       have HR4t := Lib.hid R4t
                       have HK5 := Lib.hid hk5
                       have HV5 := Lib.hid hv5
                       have HLT := Lib.hid (show ((sortRef row).take row.length).length = row.length by rw [List.length_take, HSL.out]; exact Nat.min_eq_left HN1.out)
                       clear H5 hd5 hl5 O5 hk5 hv5 hl5' htk R5 B5 R4t P5)
                    | (go_at_call 17
                       refine (Same_n ((sortRef row).take row.length) row.length A5 A4 c5 c4 _ HLT.out HR5.out HR4t.out (by omega)).mono ?_
                       rintro e w6 ⟨rfl, k6⟩
                       have p6 := k6.cell p5 (fun h => h)
                       have HK6 := Lib.hid k6
                       clear k6))
                  have HK56 := Lib.hid (((Kept.refl (Own w1.heap.size v) w4).drew.trans HK5.out (fun i hi => .inl hi)).step HK6.out)
                  have HH6 := Lib.hid (HH5.out.nil HK6.out)
                  have HO6 := Lib.hid (HK56.out.own (HK4.out.own HO3.out (fun _ _ h => h)) (fun j e h => HD.out j e h))
                  have HK6w := Lib.hid ((HK3.out.step HK4.out).trans HK56.out (fun i hi => .inr (HH3.out.own_base i hi)))
                  have hlk := fun j (hj : j ≤ row.length) => (by obtain ⟨zz, _, h1, _⟩ := HP.out.itr j (by omega); exact h1 : (itr row j).length + j = row.length)
                  have HLK := Lib.hid hlk
                  have hs6 := HK56.out.size
                  have hs4 := HK4.out.size
                  have HOV := Lib.hid (show ∀ i, Own w1.heap.size v5 i → Own w1.heap.size v i from fun i hi => by unfold Own at hi ⊢; rwa [HV5.out] at hi)
                  clear hlk p2 p5 p6 hsc
                  go_wp2_with fail
                  go_loopw [4, 133] (fun r i wr2 => ∃ j : Nat, j ≤ row.length ∧ i = .int .i64 j ∧ wr2.ownsRow w.heap.size 27 2 r (itr row j).length ((itr row j).flatMap It.cells) ∧ (∀ q, r.ownBlock = some q → ¬ Own w1.heap.size v q) ∧ Kept Nil w6 wr2) (fun _ i _ => row.length - (intOf i).toNat)
                  case atStart => exact ⟨0, Nat.zero_le _, rfl, HO6.out, fun j e h => HD.out j e h, Kept.refl _ _⟩
                  case round =>
                    obtain ⟨j, hj, rfl, hO, hD, hK⟩ := hrel
                    have HOj := Lib.hid hO
                    have HDj := Lib.hid hD
                    have HKj := Lib.hid hK
                    have hsj := hK.size
                    have hlj := HLK.out j hj
                    have hl100 : (itr row j).length ≤ 100 := by omega
                    have HLJ := Lib.hid hlj
                    clear hO hD hK hlj
                    by_cases hltj : j < row.length
                    · obtain ⟨A7, c7, e7, R7, B7⟩ := (row_of_own HOj.out).2
                      subst e7
                      have HR7 := Lib.hid R7
                      have HB7 := Lib.hid B7
                      clear R7 B7
                      go_wp2_with fail
                      refine (First_is (itr row j) A7 c7 _ HR7.out (by omega)).mono ?_
                      rintro e w8 ⟨rfl, k8⟩
                      have HK8 := Lib.hid k8
                      have hs8 := k8.size
                      clear k8
                      go_wp2_with fail
                      refine (Without_is (itr row j) A7 c7 _ _ (HR7.out.kept HK8.out (fun _ _ h => h)) (fun b off e => Nat.lt_of_lt_of_le (HB7.out b off e).2.1 hs8) (by omega)).mono ?_
                      rintro e w9 ⟨v9, rfl, O9, k9⟩
                      have h9 : ∀ q, v9.ownBlock = some q → w8.heap.size ≤ q := fun q e => (O9.lt q e).1
                      have HO9 := Lib.hid (own_lower (base' := w.heap.size) O9 (fun q e => by have := h9 q e; omega))
                      have HD9 := Lib.hid (show ∀ q, v9.ownBlock = some q → ¬ Own w1.heap.size v q from fun q e h => by have := h9 q e; have := HH.out.own_lt h; omega)
                      have HK9 := Lib.hid ((HKj.out.step HK8.out).step k9)
                      clear O9 k9 h9
                      go_wp2_with fail
                      go_round
                      case measure => (simp [intOf] <;> omega)
                      exact ⟨j + 1, by omega, by go_num, HO9.out, HD9.out, HK9.out⟩
                    · have hjn : row.length = j := by omega
                      subst hjn
                      obtain ⟨A7, c7, e7⟩ := own_slice HOj.out
                      subst e7
                      have HKf := Lib.hid (HK6w.out.step HKj.out)
                      have HHf := Lib.hid (HH6.out.nil HKj.out)
                      have HDf := Lib.hid (show ∀ q, (Value.slice A7 (itr row row.length).length c7).ownBlock = some q → ¬ Own w1.heap.size v5 q from fun q e h => HDj.out q e (HOV.out q h))
                      clear hltj
                      go_wp2_with fail
                      refine (Len_is HHf.out).mono ?_
                      rintro e wz ⟨rfl, rfl⟩
                      have hne : (((tk).length : Int) != ((itr row row.length).length : Int)) = false := by rw [(HP5.out).len]; simp
                      go_wp2_with fail
                      clear hne
                      go_round
                      case measure => (simp [intOf] <;> omega)
                      exact ⟨k + 1, v5, tk, itr row row.length, seq, by omega, by go_num, by omega, by have := HLJ.out; omega, HHf.out, HOj.out, HDf.out, HP5.out, HKf.out⟩
              · have hk04 : (k0 == 4) = false := by simp [h4]
                clear h4
                go_wp2_with fail
                refine (Len_is HH3.out).mono ?_
                rintro e wz ⟨rfl, rfl⟩
                have hne : (((xs).length : Int) != ((row).length : Int)) = false := by rw [(HP.out).len]; simp
                go_wp2_with fail
                clear hne
                go_round
                case measure => (simp [intOf] <;> omega)
                exact ⟨k + 1, v, xs, row, seq, by omega, by go_num, by omega, by omega, HH3.out, HO3.out, HD.out, HP.out, HK3.out⟩
      · obtain rfl : k = ops.length := by omega
        go_wp2_with fail
        go_ret
        exact ⟨rfl, HKr.out.toBelow⟩
end Go.Proofs.Ytfkhnhpphcpmmaa.HpItem
