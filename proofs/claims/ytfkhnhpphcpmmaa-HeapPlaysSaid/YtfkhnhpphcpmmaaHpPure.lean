/- A heap in plain Lean: a list of pairs (something, when it was put in) that rises and sinks; what comes out is the least, the first put in of equal ones. Conditions: 'less' is a strict weak order. -/
namespace Go.Proofs.Ytfkhnhpphcpmmaa.HpPure
set_option linter.unusedVariables false
set_option linter.unusedSimpArgs false

variable {α : Type}

/-- A strict weak order. -/
structure SWO (lt : α → α → Bool) : Prop where
  irrefl : ∀ a, lt a a = false
  trans : ∀ a b c, lt a b = true → lt b c = true → lt a c = true
  incomp : ∀ a b c, lt a b = false → lt b c = false → lt a c = false

/-- One comes out ahead of another one. -/
def bef (lt : α → α → Bool) (p q : α × Int) : Bool := lt p.1 q.1 || (!lt q.1 p.1 && decide (p.2 < q.2))

theorem bef_irrefl {lt : α → α → Bool} (h : SWO lt) (p : α × Int) : bef lt p p = false := by
  simp [bef, h.irrefl]
theorem bef_trans {lt : α → α → Bool} (h : SWO lt) {p q r : α × Int} (h1 : bef lt p q = true) (h2 : bef lt q r = true) : bef lt p r = true := by
  simp only [bef, Bool.or_eq_true, Bool.and_eq_true, Bool.not_eq_true', decide_eq_true_eq] at *
  by_cases k : lt p.1 r.1 = true
  · exact .inl k
  · refine .inr ?_
    have k' : lt p.1 r.1 = false := by simpa using k
    rcases h1 with a | ⟨a, a'⟩
    · rcases h2 with b | ⟨b, b'⟩
      · exact absurd (h.trans _ _ _ a b) k
      · have : lt p.1 q.1 = false := h.incomp _ _ _ k' b
        rw [this] at a; cases a
    · rcases h2 with b | ⟨b, b'⟩
      · have : lt q.1 r.1 = false := h.incomp _ _ _ a k'
        rw [this] at b; cases b
      · exact ⟨h.incomp _ _ _ b a, by omega⟩
theorem bef_total {lt : α → α → Bool} {p q : α × Int} (hn : p.2 ≠ q.2) (h1 : bef lt p q = false) : bef lt q p = true := by
  simp only [bef, Bool.or_eq_true, Bool.and_eq_true, Bool.not_eq_true', decide_eq_true_eq, Bool.or_eq_false_iff, Bool.and_eq_false_iff, Bool.not_eq_false', decide_eq_false_iff_not] at *
  obtain ⟨a, b⟩ := h1
  rcases b with b | b
  · exact .inl b
  · by_cases k : lt q.1 p.1 = true
    · exact .inl k
    · exact .inr ⟨a, by omega⟩
theorem bef_asymm {lt : α → α → Bool} (h : SWO lt) {p q : α × Int} (h1 : bef lt p q = true) : bef lt q p = false := by
  cases hq : bef lt q p
  · rfl
  · have := bef_trans h h1 hq; rw [bef_irrefl h] at this; cases this

/-- Two change their places. -/
def swap (xs : List (α × Int)) (i j : Nat) : List (α × Int) :=
  match xs[i]?, xs[j]? with
  | some a, some b => (xs.set i b).set j a
  | _, _ => xs

theorem swap_length (xs : List (α × Int)) (i j : Nat) : (swap xs i j).length = xs.length := by
  unfold swap; split <;> simp
theorem swap_of {xs : List (α × Int)} {i j : Nat} (hi : i < xs.length) (hj : j < xs.length) : swap xs i j = (xs.set i xs[j]).set j xs[i] := by
  unfold swap; rw [List.getElem?_eq_getElem hi, List.getElem?_eq_getElem hj]
theorem swap_get {xs : List (α × Int)} {i j k : Nat} (hi : i < xs.length) (hj : j < xs.length) : (swap xs i j)[k]? = if k = j then xs[i]? else if k = i then xs[j]? else xs[k]? := by
  rw [swap_of hi hj]
  by_cases h1 : k = j
  · subst h1; rw [if_pos rfl, List.getElem?_set_self (by simpa using hj), List.getElem?_eq_getElem hi]
  · rw [if_neg h1, List.getElem?_set_ne (by omega)]
    by_cases h2 : k = i
    · subst h2; rw [if_pos rfl, List.getElem?_set_self hi, List.getElem?_eq_getElem hj]
    · rw [if_neg h2, List.getElem?_set_ne (by omega)]
theorem swap_perm (xs : List (α × Int)) (i j : Nat) : (swap xs i j).Perm xs := by
  by_cases hi : i < xs.length
  · by_cases hj : j < xs.length
    · rw [swap_of hi hj]; exact List.set_set_perm hi hj
    · unfold swap; rw [List.getElem?_eq_none (by omega : xs.length ≤ j)]; split <;> simp_all
  · unfold swap; rw [List.getElem?_eq_none (by omega : xs.length ≤ i)]

def aheadB (lt : α → α → Bool) (xs : List (α × Int)) (i j : Nat) : Bool :=
  match xs[i]?, xs[j]? with
  | some a, some b => bef lt a b
  | _, _ => false

/-- One rises. -/
def up (lt : α → α → Bool) (xs : List (α × Int)) (i : Nat) : List (α × Int) :=
  if h : 0 < i then if aheadB lt xs i ((i - 1) / 2) = true then up lt (swap xs i ((i - 1) / 2)) ((i - 1) / 2) else xs else xs
termination_by i
decreasing_by omega

def least1 (lt : α → α → Bool) (xs : List (α × Int)) (i : Nat) : Nat := if 2 * i + 1 < xs.length ∧ aheadB lt xs (2 * i + 1) i = true then 2 * i + 1 else i
def least (lt : α → α → Bool) (xs : List (α × Int)) (i : Nat) : Nat := if 2 * i + 2 < xs.length ∧ aheadB lt xs (2 * i + 2) (least1 lt xs i) = true then 2 * i + 2 else least1 lt xs i

theorem least_cases (lt : α → α → Bool) (xs : List (α × Int)) (i : Nat) : least lt xs i = i ∨ (least lt xs i = 2 * i + 1 ∧ 2 * i + 1 < xs.length) ∨ (least lt xs i = 2 * i + 2 ∧ 2 * i + 2 < xs.length) := by
  unfold least
  split
  · rename_i h; exact .inr (.inr ⟨rfl, h.1⟩)
  · unfold least1; split
    · rename_i h; exact .inr (.inl ⟨rfl, h.1⟩)
    · exact .inl rfl

/-- One sinks. -/
def down (lt : α → α → Bool) (xs : List (α × Int)) (i : Nat) : List (α × Int) :=
  if h : least lt xs i = i then xs else down lt (swap xs i (least lt xs i)) (least lt xs i)
termination_by xs.length - i
decreasing_by
  have := least_cases lt xs i
  rw [swap_length]; omega

theorem up_length (lt : α → α → Bool) (xs : List (α × Int)) (i : Nat) : (up lt xs i).length = xs.length := by
  fun_induction up lt xs i with
  | case1 xs i h ha ih => rw [ih, swap_length]
  | case2 => rfl
  | case3 => rfl
theorem up_perm (lt : α → α → Bool) (xs : List (α × Int)) (i : Nat) : (up lt xs i).Perm xs := by
  fun_induction up lt xs i with
  | case1 xs i h ha ih => exact ih.trans (swap_perm _ _ _)
  | case2 => exact .refl _
  | case3 => exact .refl _
theorem down_length (lt : α → α → Bool) (xs : List (α × Int)) (i : Nat) : (down lt xs i).length = xs.length := by
  fun_induction down lt xs i with
  | case1 => rfl
  | case2 xs i h ih => rw [ih, swap_length]
theorem down_perm (lt : α → α → Bool) (xs : List (α × Int)) (i : Nat) : (down lt xs i).Perm xs := by
  fun_induction down lt xs i with
  | case1 => exact .refl _
  | case2 xs i h ih => exact ih.trans (swap_perm _ _ _)

def push (lt : α → α → Bool) (xs : List (α × Int)) (x : α) (s : Int) : List (α × Int) := up lt (xs ++ [(x, s)]) xs.length
/-- What is left when the least is taken out. -/
def pop (lt : α → α → Bool) (xs : List (α × Int)) : List (α × Int) := down lt ((swap xs 0 (xs.length - 1)).take (xs.length - 1)) 0

theorem bef_incomp {lt : α → α → Bool} (h : SWO lt) {p q r : α × Int} (h1 : bef lt p q = false) (h2 : bef lt q r = false) : bef lt p r = false := by
  simp only [bef, Bool.or_eq_false_iff, Bool.and_eq_false_iff, Bool.not_eq_false', decide_eq_false_iff_not] at *
  obtain ⟨a, a'⟩ := h1
  obtain ⟨b, b'⟩ := h2
  have pr := h.incomp _ _ _ a b
  refine ⟨pr, ?_⟩
  by_cases k : lt r.1 p.1 = true
  · exact .inl k
  · refine .inr ?_
    have k' : lt r.1 p.1 = false := by simpa using k
    have c1 : ¬ p.2 < q.2 := by
      rcases a' with a' | a'
      · have := h.incomp _ _ _ b k'; rw [this] at a'; cases a'
      · exact a'
    have c2 : ¬ q.2 < r.2 := by
      rcases b' with b' | b'
      · have := h.incomp _ _ _ k' a; rw [this] at b'; cases b'
      · exact b'
    omega

theorem aheadB_of {lt : α → α → Bool} {xs : List (α × Int)} {i j : Nat} {a b : α × Int} (hi : xs[i]? = some a) (hj : xs[j]? = some b) : aheadB lt xs i j = bef lt a b := by
  unfold aheadB; rw [hi, hj]

def HeapP (lt : α → α → Bool) (xs : List (α × Int)) : Prop := ∀ i a b, 0 < i → xs[i]? = some a → xs[(i - 1) / 2]? = some b → bef lt a b = false
def UpP (lt : α → α → Bool) (xs : List (α × Int)) (i : Nat) : Prop :=
  (∀ j a b, 0 < j → j ≠ i → xs[j]? = some a → xs[(j - 1) / 2]? = some b → bef lt a b = false) ∧
  (∀ j a b, 0 < i → 0 < j → (j - 1) / 2 = i → xs[j]? = some a → xs[(i - 1) / 2]? = some b → bef lt a b = false)
def DownP (lt : α → α → Bool) (xs : List (α × Int)) (i : Nat) : Prop :=
  (∀ j a b, 0 < j → (j - 1) / 2 ≠ i → xs[j]? = some a → xs[(j - 1) / 2]? = some b → bef lt a b = false) ∧
  (∀ j a b, 0 < i → 0 < j → (j - 1) / 2 = i → xs[j]? = some a → xs[(i - 1) / 2]? = some b → bef lt a b = false)

theorem up_heap {lt : α → α → Bool} (h : SWO lt) (xs : List (α × Int)) (i : Nat) (hl : i < xs.length) (hp : UpP lt xs i) : HeapP lt (up lt xs i) := by
  fun_induction up lt xs i with
  | case2 xs i h0 ha =>
    intro j a b hj e1 e2
    by_cases hji : j = i
    · subst hji
      have := aheadB_of (lt := lt) e1 e2
      rw [← this]; simpa using ha
    · exact hp.1 j a b hj hji e1 e2
  | case3 xs i h0 =>
    intro j a b hj e1 e2
    exact hp.1 j a b hj (by omega) e1 e2
  | case1 xs i h0 ha ih =>
    have hpl : (i - 1) / 2 < xs.length := by omega
    refine ih (by rw [swap_length]; omega) ?_
    obtain ⟨a, ea⟩ : ∃ a, xs[i]? = some a := ⟨_, List.getElem?_eq_getElem hl⟩
    obtain ⟨b, eb⟩ : ∃ b, xs[(i - 1) / 2]? = some b := ⟨_, List.getElem?_eq_getElem hpl⟩
    rw [aheadB_of ea eb] at ha
    refine ⟨?_, ?_⟩
    · intro j x y hj hjp e1 e2
      rw [swap_get hl hpl] at e1 e2
      rw [if_neg hjp] at e1
      by_cases hji : j = i
      · subst hji
        rw [if_pos rfl, eb] at e1
        rw [if_pos rfl, ea] at e2
        cases e1; cases e2
        exact bef_asymm h ha
      · rw [if_neg hji] at e1
        by_cases q1 : (j - 1) / 2 = (i - 1) / 2
        · rw [if_pos q1, ea] at e2
          cases e2
          have hx := hp.1 j x b hj hji e1 (by rw [q1]; exact eb)
          cases hxa : bef lt x a
          · rfl
          · have := bef_trans h hxa ha; rw [hx] at this; cases this
        · rw [if_neg q1] at e2
          by_cases q2 : (j - 1) / 2 = i
          · rw [if_pos q2, eb] at e2
            cases e2
            exact hp.2 j x b h0 hj q2 e1 eb
          · rw [if_neg q2] at e2
            exact hp.1 j x y hj hji e1 e2
    · intro j x y hp0 hj hjp e1 e2
      rw [swap_get hl hpl] at e1 e2
      rw [if_neg (by omega), if_neg (by omega)] at e2
      have hby := hp.1 ((i - 1) / 2) b y hp0 (by omega) eb e2
      rw [if_neg (by omega)] at e1
      by_cases hji : j = i
      · rw [if_pos hji, eb] at e1
        cases e1
        exact hby
      · rw [if_neg hji] at e1
        exact bef_incomp h (hp.1 j x b hj hji e1 (by rw [hjp]; exact eb)) hby

theorem least_spec {lt : α → α → Bool} (h : SWO lt) {xs : List (α × Int)} {i : Nat} (hl : i < xs.length) (a : α × Int) (ea : xs[i]? = some a) :
    (∃ m, xs[least lt xs i]? = some m ∧ (∀ j x, (j = 2 * i + 1 ∨ j = 2 * i + 2) → xs[j]? = some x → bef lt x m = false) ∧ (least lt xs i ≠ i → bef lt m a = true) ∧ bef lt a m = false) ∨ (least lt xs i = i ∧ ∀ j x, (j = 2 * i + 1 ∨ j = 2 * i + 2) → xs[j]? = some x → bef lt x a = false) := by
  by_cases c1 : 2 * i + 1 < xs.length
  · obtain ⟨b, eb⟩ : ∃ b, xs[2 * i + 1]? = some b := ⟨_, List.getElem?_eq_getElem c1⟩
    have l1 : least1 lt xs i = if bef lt b a = true then 2 * i + 1 else i := by
      unfold least1; rw [aheadB_of eb ea]; simp [c1]
    by_cases c2 : 2 * i + 2 < xs.length
    · obtain ⟨c, ec⟩ : ∃ c, xs[2 * i + 2]? = some c := ⟨_, List.getElem?_eq_getElem c2⟩
      cases hb : bef lt b a
      · rw [hb] at l1
        simp only [Bool.false_eq_true, if_false] at l1
        have l2 : least lt xs i = if bef lt c a = true then 2 * i + 2 else i := by
          unfold least; rw [l1, aheadB_of ec ea]; simp [c2]
        cases hc : bef lt c a
        · rw [hc] at l2
          simp only [Bool.false_eq_true, if_false] at l2
          refine .inr ⟨l2, ?_⟩
          rintro j x (rfl | rfl) e
          · rw [eb] at e; cases e; exact hb
          · rw [ec] at e; cases e; exact hc
        · rw [hc] at l2
          simp only [if_true] at l2
          refine .inl ⟨c, by rw [l2]; exact ec, ?_, fun _ => hc, bef_asymm h hc⟩
          rintro j x (rfl | rfl) e
          · rw [eb] at e; cases e; exact bef_incomp h hb (bef_asymm h hc)
          · rw [ec] at e; cases e; exact bef_irrefl h _
      · rw [hb] at l1
        simp only [if_true] at l1
        have l2 : least lt xs i = if bef lt c b = true then 2 * i + 2 else 2 * i + 1 := by
          unfold least; rw [l1, aheadB_of ec eb]; simp [c2]
        cases hc : bef lt c b
        · rw [hc] at l2
          simp only [Bool.false_eq_true, if_false] at l2
          refine .inl ⟨b, by rw [l2]; exact eb, ?_, fun _ => hb, bef_asymm h hb⟩
          rintro j x (rfl | rfl) e
          · rw [eb] at e; cases e; exact bef_irrefl h _
          · rw [ec] at e; cases e; exact hc
        · rw [hc] at l2
          simp only [if_true] at l2
          have hca := bef_trans h hc hb
          refine .inl ⟨c, by rw [l2]; exact ec, ?_, fun _ => hca, bef_asymm h hca⟩
          rintro j x (rfl | rfl) e
          · rw [eb] at e; cases e; exact bef_asymm h hc
          · rw [ec] at e; cases e; exact bef_irrefl h _
    · have l2 : least lt xs i = least1 lt xs i := by unfold least; rw [if_neg (by omega)]
      cases hb : bef lt b a
      · rw [hb] at l1
        simp only [Bool.false_eq_true, if_false] at l1
        refine .inr ⟨by rw [l2, l1], ?_⟩
        rintro j x (rfl | rfl) e
        · rw [eb] at e; cases e; exact hb
        · rw [List.getElem?_eq_none (by omega)] at e; cases e
      · rw [hb] at l1
        simp only [if_true] at l1
        refine .inl ⟨b, by rw [l2, l1]; exact eb, ?_, fun _ => hb, bef_asymm h hb⟩
        rintro j x (rfl | rfl) e
        · rw [eb] at e; cases e; exact bef_irrefl h _
        · rw [List.getElem?_eq_none (by omega)] at e; cases e
  · refine .inr ⟨?_, ?_⟩
    · unfold least least1; rw [if_neg (show ¬ (2 * i + 1 < xs.length ∧ _) by omega), if_neg (by omega)]
    · rintro j x (rfl | rfl) e
      · rw [List.getElem?_eq_none (by omega)] at e; cases e
      · rw [List.getElem?_eq_none (by omega)] at e; cases e

theorem down_heap {lt : α → α → Bool} (h : SWO lt) (xs : List (α × Int)) (i : Nat) (hp : DownP lt xs i) : HeapP lt (down lt xs i) := by
  fun_induction down lt xs i with
  | case1 xs i hli =>
    intro j x y hj e1 e2
    by_cases q : (j - 1) / 2 = i
    · rw [q] at e2
      have hl : i < xs.length := (List.getElem?_eq_some_iff.1 e2).1
      rcases least_spec h hl y e2 with ⟨m, em, hc, _, _⟩ | ⟨_, hc⟩
      · rw [hli, e2] at em; cases em
        exact hc j x (by omega) e1
      · exact hc j x (by omega) e1
    · exact hp.1 j x y hj q e1 e2
  | case2 xs i hli ih =>
    refine ih ?_
    have hcs := least_cases lt xs i
    have hl : i < xs.length := by omega
    have hcl : least lt xs i < xs.length := by omega
    obtain ⟨a, ea⟩ : ∃ a, xs[i]? = some a := ⟨_, List.getElem?_eq_getElem hl⟩
    rcases least_spec h hl a ea with ⟨m, em, hc, hm, _⟩ | ⟨hh, _⟩
    · have hma := hm hli
      have hch : (least lt xs i - 1) / 2 = i := by omega
      have hc0 : 0 < least lt xs i := by omega
      generalize hcc : least lt xs i = c at *
      refine ⟨?_, ?_⟩
      · intro j x y hj hjc e1 e2
        rw [swap_get hl hcl] at e1 e2
        rw [if_neg hjc] at e2
        by_cases q : (j - 1) / 2 = i
        · rw [if_pos q, em] at e2
          cases e2
          by_cases jc : j = c
          · rw [if_pos jc, ea] at e1
            cases e1
            exact bef_asymm h hma
          · rw [if_neg jc, if_neg (by omega)] at e1
            exact hc j x (by omega) e1
        · rw [if_neg q] at e2
          rw [if_neg (by omega)] at e1
          by_cases ji : j = i
          · subst ji
            rw [if_pos rfl, em] at e1
            cases e1
            exact hp.2 c _ y hj hc0 hch em e2
          · rw [if_neg ji] at e1
            exact hp.1 j x y hj q e1 e2
      · intro j x y _ hj hjc e1 e2
        rw [swap_get hl hcl] at e1 e2
        rw [hch, if_neg (by omega), if_pos rfl, em] at e2
        cases e2
        rw [if_neg (by omega), if_neg (by omega)] at e1
        exact hp.1 j x _ hj (by omega) e1 (by rw [hjc]; exact em)
    · exact absurd hh hli

theorem push_heap {lt : α → α → Bool} (h : SWO lt) {xs : List (α × Int)} (hp : HeapP lt xs) (x : α) (s : Int) : HeapP lt (push lt xs x s) := by
  refine up_heap h _ _ (by simp) ⟨?_, ?_⟩
  · intro j a b hj hne e1 e2
    have hjl := (List.getElem?_eq_some_iff.1 e1).1
    simp only [List.length_append, List.length_singleton] at hjl
    rw [List.getElem?_append_left (by omega)] at e1 e2
    exact hp j a b hj e1 e2
  · intro j a b h0 hj hq e1 e2
    have hjl := (List.getElem?_eq_some_iff.1 e1).1
    simp only [List.length_append, List.length_singleton] at hjl
    omega
theorem push_perm (lt : α → α → Bool) (xs : List (α × Int)) (x : α) (s : Int) : (push lt xs x s).Perm ((x, s) :: xs) :=
  (up_perm _ _ _).trans (List.perm_append_comm (l₁ := xs) (l₂ := [(x, s)]))
theorem push_length (lt : α → α → Bool) (xs : List (α × Int)) (x : α) (s : Int) : (push lt xs x s).length = xs.length + 1 := by
  unfold push; rw [up_length]; simp

theorem heap_root {lt : α → α → Bool} (h : SWO lt) {xs : List (α × Int)} (hp : HeapP lt xs) {a : α × Int} (ea : xs[0]? = some a) (j : Nat) : ∀ b, xs[j]? = some b → bef lt b a = false := by
  induction j using Nat.strongRecOn with
  | _ j ih =>
    intro b eb
    by_cases hj : 0 < j
    · have hl := (List.getElem?_eq_some_iff.1 eb).1
      obtain ⟨c, ec⟩ : ∃ c, xs[(j - 1) / 2]? = some c := ⟨_, List.getElem?_eq_getElem (by omega)⟩
      exact bef_incomp h (hp j b c hj eb ec) (ih _ (by omega) c ec)
    · obtain rfl : j = 0 := by omega
      rw [ea] at eb; cases eb
      exact bef_irrefl h _

theorem pop_length (lt : α → α → Bool) (xs : List (α × Int)) : (pop lt xs).length = xs.length - 1 := by
  unfold pop; rw [down_length, List.length_take, swap_length]; omega
theorem pop_perm (lt : α → α → Bool) {xs : List (α × Int)} {a : α × Int} (ea : xs[0]? = some a) : (a :: pop lt xs).Perm xs := by
  have hl := (List.getElem?_eq_some_iff.1 ea).1
  have h1 := swap_perm xs 0 (xs.length - 1)
  have hlast : (swap xs 0 (xs.length - 1))[xs.length - 1]? = some a := by rw [swap_get hl (by omega), if_pos rfl]; exact ea
  have h2 : swap xs 0 (xs.length - 1) = (swap xs 0 (xs.length - 1)).take (xs.length - 1) ++ [a] := by
    have e : (swap xs 0 (xs.length - 1)).take (xs.length - 1 + 1) = swap xs 0 (xs.length - 1) := List.take_of_length_le (by rw [swap_length]; omega)
    have t := List.take_add_one (l := swap xs 0 (xs.length - 1)) (i := xs.length - 1)
    rw [hlast, e] at t
    exact t
  refine ((down_perm lt _ 0).cons a).trans ?_
  refine (List.perm_append_comm (l₁ := [a])).trans ?_
  rw [← h2]; exact h1
theorem pop_heap {lt : α → α → Bool} (h : SWO lt) {xs : List (α × Int)} (hp : HeapP lt xs) : HeapP lt (pop lt xs) := by
  by_cases hl : 0 < xs.length
  · refine down_heap h _ _ ⟨?_, fun j a b h0 => by omega⟩
    intro j a b hj hq e1 e2
    have hjl := (List.getElem?_eq_some_iff.1 e1).1
    rw [List.length_take, swap_length] at hjl
    rw [List.getElem?_take_of_lt (by omega), swap_get hl (by omega), if_neg (by omega), if_neg (by omega)] at e1 e2
    exact hp j a b hj e1 e2
  · have : xs = [] := List.eq_nil_of_length_eq_zero (by omega)
    subst this
    intro i a b _ e1
    have := (List.getElem?_eq_some_iff.1 e1).1
    rw [pop_length] at this
    simp at this

/-- All that comes out, one after the other. -/
def drain (lt : α → α → Bool) (xs : List (α × Int)) : List (α × Int) :=
  match h : xs[0]? with
  | some a => a :: drain lt (pop lt xs)
  | none => []
termination_by xs.length
decreasing_by
  have := (List.getElem?_eq_some_iff.1 h).1
  rw [pop_length]; omega

theorem drain_nil (lt : α → α → Bool) : drain lt [] = [] := by unfold drain; rfl
theorem drain_cons (lt : α → α → Bool) {xs : List (α × Int)} {a : α × Int} (ea : xs[0]? = some a) : drain lt xs = a :: drain lt (pop lt xs) := by
  rw [drain.eq_def]; split
  · rename_i b hb; rw [ea] at hb; cases hb; rfl
  · rename_i hb; rw [ea] at hb; cases hb
theorem drain_perm (lt : α → α → Bool) (xs : List (α × Int)) : (drain lt xs).Perm xs := by
  fun_induction drain lt xs with
  | case1 xs a h ih => exact (ih.cons a).trans (pop_perm lt h)
  | case2 xs h =>
    have : xs = [] := by simpa using h
    subst this; exact .refl _
theorem drain_sorted {lt : α → α → Bool} (h : SWO lt) (xs : List (α × Int)) (hp : HeapP lt xs) : (drain lt xs).Pairwise (fun a b => bef lt b a = false) := by
  fun_induction drain lt xs with
  | case1 xs a ha ih =>
    refine List.Pairwise.cons ?_ (ih (pop_heap h hp))
    intro b hb
    have hb1 : b ∈ pop lt xs := (drain_perm lt _).mem_iff.1 hb
    have hb2 : b ∈ xs := (pop_perm lt ha).mem_iff.1 (List.mem_cons_of_mem _ hb1)
    obtain ⟨j, _, hj⟩ := List.mem_iff_getElem.1 hb2
    exact heap_root h hp ha j b (List.getElem?_eq_some_iff.2 ⟨_, hj⟩)
  | case2 => exact .nil

/-- Two rows of the same pairs, both in order, are one, where no two pairs have the same number. -/
theorem sorted_unique {lt : α → α → Bool} (h : SWO lt) : ∀ (xs ys : List (α × Int)), xs.Perm ys → xs.Pairwise (fun a b => bef lt b a = false) → ys.Pairwise (fun a b => bef lt b a = false) → (xs.map Prod.snd).Nodup → xs = ys
  | [], ys, hp, _, _, _ => (List.nil_perm.1 hp).symm
  | x :: xs, [], hp, _, _, _ => absurd (List.perm_nil.1 hp) (by simp)
  | x :: xs, y :: ys, hp, h1, h2, hn => by
    have hxy : x = y := by
      have hx : x ∈ y :: ys := hp.mem_iff.1 (by simp)
      have hy : y ∈ x :: xs := hp.mem_iff.2 (by simp)
      rcases List.mem_cons.1 hx with e | hx
      · exact e
      rcases List.mem_cons.1 hy with e | hy
      · exact e.symm
      have b1 := (List.pairwise_cons.1 h1).1 y hy
      have b2 := (List.pairwise_cons.1 h2).1 x hx
      have hne : x.2 ≠ y.2 := by
        have := (List.nodup_cons.1 (show (x.2 :: xs.map Prod.snd).Nodup from hn)).1
        intro e; exact this (by rw [e]; exact List.mem_map.2 ⟨y, hy, rfl⟩)
      have := bef_total hne b2
      rw [b1] at this; cases this
    subst hxy
    rw [sorted_unique h xs ys hp.cons_inv (List.pairwise_cons.1 h1).2 (List.pairwise_cons.1 h2).2 (List.nodup_cons.1 (show (x.2 :: xs.map Prod.snd).Nodup from hn)).2]
end Go.Proofs.Ytfkhnhpphcpmmaa.HpPure
