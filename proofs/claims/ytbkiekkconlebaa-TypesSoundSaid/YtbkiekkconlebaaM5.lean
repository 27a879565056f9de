/-
  A search for the greatest set of keys of which a rule holds: what it answers. No condition.
-/
import Derived.Test.YtbkiekkconlebaaM4
import Derived.Test.YtbkiekkconlebaaM4
import Derived.KernelRfl
set_option linter.all false
section
namespace Go.Sv

abbrev K := List Int
structure SA where
  out : K → Option Bool
  on : K → List K
  work : List K
def upd {β : Type} (f : K → β) (k : K) (v : β) : K → β := fun x => if x = k then v else f x
theorem upd_same {β : Type} (f : K → β) (k : K) (v : β) : upd f k v k = v := by simp [upd]
theorem upd_ne {β : Type} (f : K → β) {k x : K} (v : β) (h : x ≠ k) : upd f k v x = f x := by simp [upd, h]

/-- k asks of o. -/
def hold1 (k o : K) (A : SA) : SA :=
  match A.out o with
  | none => ⟨upd A.out o (some true), upd A.on o (A.on o ++ [k]), A.work ++ [o]⟩
  | some _ => ⟨A.out, upd A.on o (A.on o ++ [k]), A.work⟩
def ans (A : SA) (o : K) : Bool := (A.out o).getD true
def askL (k : K) : List K → SA → SA
  | [], A => A
  | o :: l, A => askL k l (hold1 k o A)

theorem hold1_out (k o : K) (A : SA) (x : K) : (hold1 k o A).out x = if A.out x = none ∧ x = o then some true else A.out x := by
  unfold hold1
  cases h : A.out o with
  | none =>
    simp only [upd]
    by_cases hx : x = o
    · subst hx; simp [h]
    · simp [hx]
  | some b =>
    simp only
    by_cases hx : x = o
    · subst hx; simp [h]
    · simp [hx]
theorem hold1_on (k o : K) (A : SA) (x : K) : (hold1 k o A).on x = if x = o then A.on x ++ [k] else A.on x := by
  unfold hold1
  cases h : A.out o <;> simp only [upd] <;> by_cases hx : x = o <;> simp [hx]
theorem hold1_work (k o : K) (A : SA) : (hold1 k o A).work = if A.out o = none then A.work ++ [o] else A.work := by
  unfold hold1
  cases h : A.out o <;> simp
theorem hold1_ans (k o : K) (A : SA) (x : K) : ans (hold1 k o A) x = ans A x := by
  unfold ans
  rw [hold1_out]
  by_cases h : A.out x = none ∧ x = o
  · rw [if_pos h, h.1]; rfl
  · rw [if_neg h]

theorem askL_out (k : K) : ∀ (l : List K) (A : SA) (x : K), (askL k l A).out x = if A.out x = none ∧ x ∈ l then some true else A.out x
  | [], A, x => by simp [askL]
  | o :: l, A, x => by
    rw [askL, askL_out k l, hold1_out]
    by_cases h : A.out x = none
    · by_cases hx : x = o
      · subst hx
        simp [h]
      · simp [h, hx]
    · simp [h]
theorem askL_on (k : K) : ∀ (l : List K) (A : SA) (o : K), (askL k l A).on o = A.on o ++ List.replicate (l.count o) k
  | [], A, o => by simp [askL]
  | p :: l, A, o => by
    rw [askL, askL_on k l, hold1_on]
    by_cases h : o = p
    · subst h
      simp [List.replicate_succ]
    · simp [h, List.count_cons, Ne.symm h, beq_eq_false_iff_ne.2 (Ne.symm h)]
theorem askL_work (k : K) : ∀ (l : List K) (A : SA) (x : K), (askL k l A).work.count x = A.work.count x + if A.out x = none ∧ x ∈ l then 1 else 0
  | [], A, x => by simp [askL]
  | o :: l, A, x => by
    rw [askL, askL_work k l, hold1_work, hold1_out]
    by_cases h : A.out x = none
    · by_cases hx : x = o
      · subst hx
        simp [h]
      · by_cases ho : A.out o = none
        · simp [h, hx, ho, List.count_append, List.count_cons, beq_eq_false_iff_ne.2 (Ne.symm hx)]
        · simp [h, hx, ho]
    · by_cases ho : A.out o = none
      · have hx : x ≠ o := by rintro rfl; exact h ho
        simp [h, ho, List.count_append, List.count_cons, beq_eq_false_iff_ne.2 (Ne.symm hx)]
      · simp [h, ho]
theorem askL_mem (k : K) : ∀ (l : List K) (A : SA) (x : K), x ∈ (askL k l A).work ↔ x ∈ A.work ∨ (A.out x = none ∧ x ∈ l)
  | l, A, x => by
    have h1 := askL_work k l A x
    by_cases h : A.out x = none ∧ x ∈ l
    · rw [if_pos h] at h1
      exact ⟨fun _ => .inr h, fun _ => List.count_pos_iff.1 (by omega)⟩
    · rw [if_neg h, Nat.add_zero] at h1
      refine ⟨fun hm => .inl (List.count_pos_iff.1 (by have := List.count_pos_iff.2 hm; omega)), fun hm => ?_⟩
      rcases hm with hm | hm
      · exact List.count_pos_iff.1 (by have := List.count_pos_iff.2 hm; omega)
      · exact absurd hm h
theorem hold1_len (k o : K) (A : SA) : A.work.length ≤ (hold1 k o A).work.length ∧ ∀ x, (A.on x).length ≤ ((hold1 k o A).on x).length := by
  refine ⟨?_, fun x => ?_⟩
  · rw [hold1_work]; split <;> simp
  · rw [hold1_on]; split <;> simp
theorem askL_len (k : K) : ∀ (l : List K) (A : SA), A.work.length ≤ (askL k l A).work.length ∧ ∀ x, (A.on x).length ≤ ((askL k l A).on x).length
  | [], A => ⟨Nat.le_refl _, fun _ => Nat.le_refl _⟩
  | o :: l, A => by
    obtain ⟨a, b⟩ := hold1_len k o A
    obtain ⟨c, d⟩ := askL_len k l (hold1 k o A)
    exact ⟨Nat.le_trans a c, fun x => Nat.le_trans (b x) (d x)⟩
theorem askL_ans (k : K) : ∀ (l : List K) (A : SA) (x : K), ans (askL k l A) x = ans A x
  | [], A, x => rfl
  | o :: l, A, x => by rw [askL, askL_ans k l, hold1_ans]

/-! ### The rule, and what is right -/
structure Rule where
  U : List K
  asks : K → List K
  res : K → List Bool → Bool
structure Rule.Ok (R : Rule) : Prop where
  nd : R.U.Nodup
  closed : ∀ q ∈ R.U, ∀ o ∈ R.asks q, o ∈ R.U
  few : ∀ q ∈ R.U, (R.asks q).length ≤ 10
  mono : ∀ q ∈ R.U, ∀ a b : K → Bool, (∀ o, a o = true → b o = true) → R.res q ((R.asks q).map a) = true → R.res q ((R.asks q).map b) = true
/-- A set that bears itself. -/
def Rule.Bears (R : Rule) (X : K → Bool) : Prop := ∀ q, X q = true → q ∈ R.U ∧ R.res q ((R.asks q).map X) = true
/-- The greatest set. -/
def Rule.G (R : Rule) (k : K) : Prop := ∃ X, R.Bears X ∧ X k = true

structure Inv (R : Rule) (A : SA) (E : K → Nat) : Prop where
  dom : ∀ k, A.out k ≠ none → k ∈ R.U
  wU : ∀ k ∈ A.work, A.out k ≠ none
  onU : ∀ o, ∀ k ∈ A.on o, A.out k ≠ none
  fal : ∀ k, A.out k = some false → ¬ R.G k
  stab : ∀ k, A.out k = some true → k ∈ A.work ∨ ((∀ o ∈ R.asks k, A.out o = some false ∨ (A.out o = some true ∧ k ∈ A.on o)) ∧ R.res k ((R.asks k).map fun o => A.out o == some true) = true)
  cnt : ∀ q ∈ R.U, A.work.count q + E q ≤ 2 ^ ((R.asks q).countP fun o => A.out o == some false)
  onc : ∀ q ∈ R.U, ∀ o, (A.on o).count q ≤ (R.asks q).count o * E q
  unk : ∀ q, A.out q = none → E q = 0

theorem pow_step (c : Nat) : 1 + c ≤ 2 ^ c := by
  induction c with
  | zero => simp
  | succ c ih => rw [Nat.pow_succ]; omega

theorem length_le {U : List K} : ∀ {l : List K} {c : Nat}, U.Nodup → (∀ x ∈ l, x ∈ U) → (∀ q ∈ U, l.count q ≤ c) → l.length ≤ U.length * c := by
  induction U with
  | nil =>
    intro l c _ h _
    cases l with
    | nil => simp
    | cons x xs => exact absurd (h x (by simp)) (by simp)
  | cons u U ih =>
    intro l c hnd h hc
    have h1 := List.nodup_cons.1 hnd
    have h2 : (l.filter fun x => !(x == u)).length ≤ U.length * c := by
      refine ih h1.2 (fun x hx => ?_) (fun q hq => ?_)
      · obtain ⟨a, b⟩ := List.mem_filter.1 hx
        have := h x a
        simp only [List.mem_cons] at this
        rcases this with rfl | this
        · simp at b
        · exact this
      · refine Nat.le_trans ?_ (hc q (by simp [hq]))
        exact List.Sublist.count_le _ List.filter_sublist
    have h3 : l.length = l.count u + (l.filter fun x => !(x == u)).length := by
      clear h hc h2
      induction l with
      | nil => rfl
      | cons x l ih2 =>
        rw [List.length_cons, List.count_cons, List.filter_cons, ih2]
        by_cases hx : (x == u) = true
        · simp [hx]; omega
        · simp [hx]; omega
    have h4 := hc u (by simp)
    rw [h3, List.length_cons, Nat.succ_mul]
    omega

variable {R : Rule} {A : SA} {E : K → Nat}
theorem bound_of (hR : R.Ok) (dom : ∀ k, A.out k ≠ none → k ∈ R.U) (wU : ∀ k ∈ A.work, A.out k ≠ none) (onU : ∀ o, ∀ k ∈ A.on o, A.out k ≠ none) (cnt : ∀ q ∈ R.U, A.work.count q + E q ≤ 2 ^ ((R.asks q).countP fun o => A.out o == some false)) (onc : ∀ q ∈ R.U, ∀ o, (A.on o).count q ≤ (R.asks q).count o * E q) :
    A.work.length ≤ R.U.length * 1024 ∧ ∀ o, (A.on o).length ≤ R.U.length * 10240 := by
  have hE : ∀ q ∈ R.U, A.work.count q + E q ≤ 1024 := fun q hq => by
    refine Nat.le_trans (cnt q hq) ?_
    have h1 : (R.asks q).countP (fun o => A.out o == some false) ≤ 10 := Nat.le_trans List.countP_le_length (hR.few q hq)
    exact Nat.le_trans (Nat.pow_le_pow_right (by omega) h1) (by decide)
  refine ⟨length_le hR.nd (fun x hx => dom x (wU x hx)) (fun q hq => by have := hE q hq; omega), fun o => length_le hR.nd (fun x hx => dom x (onU o x hx)) (fun q hq => ?_)⟩
  refine Nat.le_trans (onc q hq o) ?_
  have h1 : (R.asks q).count o ≤ 10 := Nat.le_trans List.count_le_length (hR.few q hq)
  have h2 : E q ≤ 1024 := by have := hE q hq; omega
  calc (R.asks q).count o * E q ≤ 10 * 1024 := Nat.mul_le_mul h1 h2
    _ = 10240 := rfl

theorem Inv.bound (hR : R.Ok) (h : Inv R A E) : A.work.length ≤ R.U.length * 1024 ∧ ∀ o, (A.on o).length ≤ R.U.length * 10240 := bound_of hR h.dom h.wU h.onU h.cnt h.onc
/-- How much is left to do. -/
def left (R : Rule) (A : SA) : Nat := ((R.U.countP fun k => A.out k != some false) * (R.U.length + 1) + (R.U.countP fun k => A.out k == none)) * (R.U.length * 1024 + 1) + A.work.length

theorem left_lt (hR : R.Ok) {A B : SA} {E' : K → Nat} (hB : Inv R B E') (h : (R.U.countP fun k => B.out k != some false) * (R.U.length + 1) + (R.U.countP fun k => B.out k == none) < (R.U.countP fun k => A.out k != some false) * (R.U.length + 1) + (R.U.countP fun k => A.out k == none)) : left R B < left R A := by
  have hb := (hB.bound hR).1
  unfold left
  have h2 := Nat.mul_le_mul_right (R.U.length * 1024 + 1) (Nat.succ_le_of_lt h)
  rw [Nat.succ_mul] at h2
  omega

/-- A key that was false already. -/
theorem step_skip (h : Inv R A E) {w : List K} {k : K} (hw : A.work = w ++ [k]) (hk : A.out k ≠ some true) : Inv R ⟨A.out, A.on, w⟩ E ∧ left R ⟨A.out, A.on, w⟩ < left R A := by
  refine ⟨⟨h.dom, fun x hx => h.wU x (by rw [hw]; simp [hx]), h.onU, h.fal, fun x hx => ?_, fun q hq => ?_, h.onc, h.unk⟩, ?_⟩
  · rcases h.stab x hx with h1 | h1
    · left
      rw [hw] at h1
      rcases List.mem_append.1 h1 with h1 | h1
      · exact h1
      · simp only [List.mem_singleton] at h1
        subst h1
        exact absurd hx hk
    · exact .inr h1
  · have := h.cnt q hq
    rw [hw, List.count_append] at this
    show w.count q + E q ≤ 2 ^ ((R.asks q).countP fun o => A.out o == some false)
    omega
  · unfold left
    rw [hw]
    simp

def asked (R : Rule) (A : SA) (w : List K) (k : K) : SA := askL k (R.asks k) ⟨A.out, A.on, w⟩
def E1 (E : K → Nat) (k : K) : K → Nat := fun q => if q = k then E q + 1 else E q

theorem ans_G (hR : R.Ok) (h : Inv R A E) {k : K} (hkU : k ∈ R.U) (hr : R.res k ((R.asks k).map (ans A)) = false) : ¬ R.G k := by
  rintro ⟨X, hX, hXk⟩
  obtain ⟨_, h1⟩ := hX k hXk
  have := hR.mono k hkU X (ans A) (fun o ho => by
    unfold ans
    cases hoo : A.out o with
    | none => rfl
    | some b =>
      cases b with
      | true => rfl
      | false => exact absurd ⟨X, hX, ho⟩ (h.fal o hoo)) h1
  rw [this] at hr; cases hr

section
variable {w : List K} {k : K}
theorem asked_out (x : K) : (asked R A w k).out x = if A.out x = none ∧ x ∈ R.asks k then some true else A.out x := askL_out k _ _ x
theorem asked_on (o : K) : (asked R A w k).on o = A.on o ++ List.replicate ((R.asks k).count o) k := askL_on k _ _ o
theorem asked_count (x : K) : (asked R A w k).work.count x = w.count x + if A.out x = none ∧ x ∈ R.asks k then 1 else 0 := askL_work k _ _ x
theorem asked_mem (x : K) : x ∈ (asked R A w k).work ↔ x ∈ w ∨ (A.out x = none ∧ x ∈ R.asks k) := askL_mem k _ _ x
theorem asked_false (x : K) : ((asked R A w k).out x == some false) = (A.out x == some false) := by
  rw [asked_out]
  split
  · rename_i h; rw [h.1]; rfl
  · rfl
/-- What all that was asked leaves, whatever the answer. -/
theorem asked_inv (hR : R.Ok) (h : Inv R A E) (hw : A.work = w ++ [k]) (hk : A.out k = some true) :
    (∀ x, (asked R A w k).out x ≠ none → x ∈ R.U) ∧ (∀ x ∈ (asked R A w k).work, (asked R A w k).out x ≠ none) ∧ (∀ o, ∀ x ∈ (asked R A w k).on o, (asked R A w k).out x ≠ none) ∧
    (∀ x, (asked R A w k).out x = some false → ¬ R.G x) ∧
    (∀ q ∈ R.U, (asked R A w k).work.count q + E1 E k q ≤ 2 ^ ((R.asks q).countP fun o => (asked R A w k).out o == some false)) ∧
    (∀ q ∈ R.U, ∀ o, ((asked R A w k).on o).count q ≤ (R.asks q).count o * E1 E k q) ∧ (∀ q, (asked R A w k).out q = none → E1 E k q = 0) ∧
    (∀ x, (asked R A w k).out x = some true → x = k ∨ x ∈ (asked R A w k).work ∨ ((∀ o ∈ R.asks x, (asked R A w k).out o = some false ∨ ((asked R A w k).out o = some true ∧ x ∈ (asked R A w k).on o)) ∧ R.res x ((R.asks x).map fun o => (asked R A w k).out o == some true) = true)) := by
  have hkU : k ∈ R.U := h.dom k (by rw [hk]; simp)
  have keep : ∀ x, A.out x ≠ none → (asked R A w k).out x = A.out x := fun x hx => by rw [asked_out, if_neg (fun h => hx h.1)]
  refine ⟨fun x hx => ?_, fun x hx => ?_, fun o x hx => ?_, fun x hx => ?_, fun q hq => ?_, fun q hq o => ?_, fun q hq => ?_, fun x hx => ?_⟩
  · rw [asked_out] at hx
    split at hx
    · rename_i h1; exact hR.closed k hkU x h1.2
    · exact h.dom x hx
  · rw [asked_out]
    split
    · simp
    · rename_i h1
      rcases (asked_mem x).1 hx with h2 | h2
      · exact h.wU x (by rw [hw]; simp [h2])
      · exact absurd h2 h1
  · rw [asked_on] at hx
    have hx' : A.out x ≠ none := by
      rcases List.mem_append.1 hx with h1 | h1
      · exact h.onU o x h1
      · rw [List.eq_of_mem_replicate h1, hk]; simp
    rw [keep x hx']; exact hx'
  · refine h.fal x ?_
    have := asked_false (R := R) (A := A) (w := w) (k := k) x
    rw [hx] at this
    simpa using this.symm
  · have e1 : ((R.asks q).countP fun o => (asked R A w k).out o == some false) = (R.asks q).countP fun o => A.out o == some false := by
      congr 1; funext o; exact asked_false o
    rw [e1, asked_count]
    have h1 := h.cnt q hq
    rw [hw, List.count_append] at h1
    by_cases hu : A.out q = none ∧ q ∈ R.asks k
    · rw [if_pos hu]
      have hqk : q ≠ k := by rintro rfl; rw [hk] at hu; cases hu.1
      have h2 := h.unk q hu.1
      have h3 : w.count q = 0 := List.count_eq_zero.2 fun hm => h.wU q (by rw [hw]; simp [hm]) hu.1
      simp only [E1, if_neg hqk, h2, h3]
      exact Nat.one_le_two_pow
    · rw [if_neg hu]
      unfold E1
      by_cases hqk : q = k
      · subst hqk
        simp at h1 ⊢
        omega
      · rw [if_neg hqk]
        omega
  · rw [asked_on, List.count_append]
    have h1 := h.onc q hq o
    unfold E1
    by_cases hqk : q = k
    · subst hqk
      rw [if_pos rfl, List.count_replicate_self, Nat.mul_succ]
      omega
    · rw [if_neg hqk, List.count_replicate, if_neg (by simpa using fun h => hqk h.symm)]
      omega
  · rw [asked_out] at hq
    split at hq
    · cases hq
    · have h1 := h.unk q hq
      have hqk : q ≠ k := by rintro rfl; rw [hk] at hq; cases hq
      simp [E1, hqk, h1]
  · by_cases hxk : x = k
    · exact .inl hxk
    right
    rw [asked_out] at hx
    split at hx
    · rename_i h1
      exact .inl ((asked_mem x).2 (.inr h1))
    · rcases h.stab x hx with h1 | ⟨h1, h2⟩
      · rw [hw] at h1
        rcases List.mem_append.1 h1 with h1 | h1
        · exact .inl ((asked_mem x).2 (.inl h1))
        · exact absurd (by simpa using h1) hxk
      · right
        have e : ∀ o ∈ R.asks x, (asked R A w k).out o = A.out o := fun o ho => by
          refine keep o ?_
          rcases h1 o ho with h3 | h3
          · rw [h3]; simp
          · rw [h3.1]; simp
        refine ⟨fun o ho => ?_, ?_⟩
        · rw [e o ho, asked_on]
          rcases h1 o ho with h3 | h3
          · exact .inl h3
          · exact .inr ⟨h3.1, by simp [h3.2]⟩
        · refine Eq.trans (congrArg _ (List.map_congr_left fun o ho => ?_)) h2
          rw [e o ho]
theorem asked_left (hw : A.work = w ++ [k]) : (R.U.countP fun x => (asked R A w k).out x != some false) = (R.U.countP fun x => A.out x != some false) ∧ (R.U.countP fun x => (asked R A w k).out x == none) ≤ (R.U.countP fun x => A.out x == none) ∧
    ((∀ x, (asked R A w k).out x = A.out x) → (asked R A w k).work.length = w.length) := by
  refine ⟨?_, ?_, fun hall => ?_⟩
  · congr 1; funext x
    have := asked_false (R := R) (A := A) (w := w) (k := k) x
    simp only [bne, this]
  · refine List.countP_mono_left fun x _ hx => ?_
    rw [asked_out] at hx
    split at hx
    · simp at hx
    · exact hx
  · have : (asked R A w k).work.Perm w := by
      rw [List.perm_iff_count]
      intro x
      rw [asked_count]
      by_cases hx : A.out x = none ∧ x ∈ R.asks k
      · have := hall x
        rw [asked_out, if_pos hx, hx.1] at this
        cases this
      · rw [if_neg hx]; rfl
    exact this.length_eq
/-- The rule holds of a key: as it is. -/
theorem step_true (hR : R.Ok) (h : Inv R A E) (hw : A.work = w ++ [k]) (hk : A.out k = some true) (hr : R.res k ((R.asks k).map (ans A)) = true) : Inv R (asked R A w k) (E1 E k) ∧ left R (asked R A w k) < left R A := by
  obtain ⟨i1, i2, i3, i4, i5, i6, i7, i8⟩ := asked_inv hR h hw hk
  have hinv : Inv R (asked R A w k) (E1 E k) := by
    refine ⟨i1, i2, i3, i4, fun x hx => ?_, i5, i6, i7⟩
    rcases i8 x hx with rfl | h1 | h1
    · right
      refine ⟨fun o ho => ?_, ?_⟩
      · rw [asked_out, asked_on]
        by_cases hn : A.out o = none ∧ o ∈ R.asks x
        · rw [if_pos hn]
          exact .inr ⟨rfl, List.mem_append.2 (.inr (List.mem_replicate.2 ⟨Nat.ne_of_gt (List.count_pos_iff.2 ho), rfl⟩))⟩
        · rw [if_neg hn]
          cases hoo : A.out o with
          | none => exact absurd ⟨hoo, ho⟩ hn
          | some b =>
            cases b with
            | false => exact .inl rfl
            | true => exact .inr ⟨rfl, List.mem_append.2 (.inr (List.mem_replicate.2 ⟨Nat.ne_of_gt (List.count_pos_iff.2 ho), rfl⟩))⟩
      · refine Eq.trans (congrArg _ (List.map_congr_left fun o ho => ?_)) hr
        rw [asked_out]
        unfold ans
        cases hoo : A.out o with
        | none => rw [if_pos ⟨rfl, ho⟩]; rfl
        | some b =>
          rw [if_neg (by simp)]
          cases b <;> rfl
    · exact .inl h1
    · exact .inr h1
  refine ⟨hinv, ?_⟩
  obtain ⟨l1, l2, l3⟩ := asked_left (R := R) hw
  by_cases he : (R.U.countP fun x => (asked R A w k).out x == none) = R.U.countP fun x => A.out x == none
  · -- nothing new
    have hall : ∀ x, (asked R A w k).out x = A.out x := by
      intro x
      rw [asked_out]
      by_cases hx : A.out x = none ∧ x ∈ R.asks k
      · exfalso
        have hxU := hR.closed k (h.dom k (by rw [hk]; simp)) x hx.2
        have : (R.U.countP fun x => (asked R A w k).out x == none) < R.U.countP fun x => A.out x == none := by
          have hsub : ∀ y, ((asked R A w k).out y == none) = true → (A.out y == none) = true := fun y hy => by
            rw [asked_out] at hy
            split at hy
            · simp at hy
            · exact hy
          clear he l1 l2 l3
          generalize R.U = U at hxU
          induction U with
          | nil => simp at hxU
          | cons u U ih =>
            simp only [List.countP_cons]
            rcases List.mem_cons.1 hxU with rfl | hm
            · have a1 : ((asked R A w k).out x == none) = false := by rw [asked_out, if_pos hx]; rfl
              have a2 : (A.out x == none) = true := by rw [hx.1]; rfl
              have a3 := List.countP_mono_left (l := U) (p := fun x => (asked R A w k).out x == none) (q := fun x => A.out x == none) fun y _ hy => hsub y hy
              rw [a1, a2]
              simp only [Bool.false_eq_true, if_false, if_true, Nat.add_zero]
              omega
            · have a3 := ih hm
              have a4 : (if ((asked R A w k).out u == none) = true then 1 else 0) ≤ if (A.out u == none) = true then 1 else 0 := by
                by_cases hu : ((asked R A w k).out u == none) = true
                · rw [if_pos hu, if_pos (hsub u hu)]; exact Nat.le_refl _
                · rw [if_neg hu]; exact Nat.zero_le _
              omega
        omega
      · rw [if_neg hx]
    unfold left
    rw [l1, he, l3 hall, hw]
    simp
  · refine left_lt hR hinv ?_
    rw [l1]
    omega
/-- The rule does not hold of a key: who asked of it is asked again. -/
def fell (B : SA) (k : K) : SA := ⟨upd B.out k (some false), upd B.on k [], B.work ++ B.on k⟩
theorem step_false (hR : R.Ok) (h : Inv R A E) (hw : A.work = w ++ [k]) (hk : A.out k = some true) (hr : R.res k ((R.asks k).map (ans A)) = false) : Inv R (fell (asked R A w k) k) (E1 E k) ∧ left R (fell (asked R A w k) k) < left R A := by
  obtain ⟨i1, i2, i3, i4, i5, i6, i7, i8⟩ := asked_inv hR h hw hk
  have hkU : k ∈ R.U := h.dom k (by rw [hk]; simp)
  have hBk : (asked R A w k).out k = some true := by rw [asked_out, if_neg (by rw [hk]; simp), hk]
  generalize hB : asked R A w k = B at i1 i2 i3 i4 i5 i6 i7 i8 hBk ⊢
  have ho : ∀ x, (fell B k).out x = if x = k then some false else B.out x := fun x => rfl
  have hon : ∀ x, (fell B k).on x = if x = k then [] else B.on x := fun x => rfl
  have hwk : (fell B k).work = B.work ++ B.on k := rfl
  have hnn : ∀ x, B.out x ≠ none → (fell B k).out x ≠ none := fun x hx => by rw [ho]; split <;> simp_all
  have hinv : Inv R (fell B k) (E1 E k) := by
    refine ⟨fun x hx => ?_, fun x hx => ?_, fun o x hx => ?_, fun x hx => ?_, fun x hx => ?_, fun q hq => ?_, fun q hq o => ?_, fun q hq => ?_⟩
    · rw [ho] at hx
      split at hx
      · rename_i h1; rw [h1]; exact hkU
      · exact i1 x hx
    · rw [hwk] at hx
      rcases List.mem_append.1 hx with h1 | h1
      · exact hnn x (i2 x h1)
      · exact hnn x (i3 k x h1)
    · rw [hon] at hx
      split at hx
      · simp at hx
      · exact hnn x (i3 o x hx)
    · rw [ho] at hx
      split at hx
      · rename_i h1; rw [h1]; exact ans_G hR h hkU hr
      · exact i4 x hx
    · rw [ho] at hx
      split at hx
      · cases hx
      · rename_i hxk
        rw [hwk]
        rcases i8 x hx with h1 | h1 | ⟨h1, h2⟩
        · exact absurd h1 hxk
        · exact .inl (by simp [h1])
        · by_cases hxo : k ∈ R.asks x
          · rcases h1 k hxo with h3 | h3
            · rw [hBk] at h3; cases h3
            · exact .inl (by simp [h3.2])
          · right
            have e : ∀ o ∈ R.asks x, (fell B k).out o = B.out o := fun o hoo => by
              rw [ho, if_neg]
              rintro rfl
              exact hxo hoo
            refine ⟨fun o hoo => ?_, ?_⟩
            · have hok : o ≠ k := by rintro rfl; exact hxo hoo
              rw [e o hoo, hon, if_neg hok]
              exact h1 o hoo
            · refine Eq.trans (congrArg _ (List.map_congr_left fun o hoo => ?_)) h2
              rw [e o hoo]
    · rw [hwk, List.count_append]
      have c1 := i5 q hq
      have c2 := i6 q hq k
      have e : ((R.asks q).countP fun o => (fell B k).out o == some false) = ((R.asks q).countP fun o => B.out o == some false) + (R.asks q).count k := by
        have key : ∀ l : List K, (l.countP fun o => (fell B k).out o == some false) = (l.countP fun o => B.out o == some false) + l.count k := by
          intro l
          induction l with
          | nil => rfl
          | cons o l ih =>
            rw [List.countP_cons, List.countP_cons, List.count_cons, ih, ho]
            by_cases hok : o = k
            · subst hok
              simp [hBk]
              omega
            · simp [hok]
              omega
        exact key _
      rw [e, Nat.pow_add]
      calc B.work.count q + (B.on k).count q + E1 E k q ≤ (1 + (R.asks q).count k) * (B.work.count q + E1 E k q) := by
              rw [Nat.add_mul, Nat.one_mul]
              have : (R.asks q).count k * E1 E k q ≤ (R.asks q).count k * (B.work.count q + E1 E k q) := Nat.mul_le_mul_left _ (by omega)
              omega
        _ ≤ 2 ^ ((R.asks q).count k) * 2 ^ ((R.asks q).countP fun o => B.out o == some false) := Nat.mul_le_mul (pow_step _) c1
        _ = _ := Nat.mul_comm _ _
    · rw [hon]
      split
      · simp
      · exact i6 q hq o
    · rw [ho] at hq
      split at hq
      · cases hq
      · exact i7 q hq
  refine ⟨hinv, left_lt hR hinv ?_⟩
  obtain ⟨l1, l2, _⟩ := asked_left (R := R) (A := A) (k := k) hw
  rw [hB] at l1 l2
  have f1 : (R.U.countP fun x => (fell B k).out x != some false) + 1 ≤ R.U.countP fun x => B.out x != some false := by
    have hsub : ∀ y, ((fell B k).out y != some false) = true → (B.out y != some false) = true := fun y hy => by
      rw [ho] at hy
      split at hy
      · simp at hy
      · exact hy
    clear l1 l2 hinv i1 i5 i6
    generalize R.U = U at hkU
    induction U with
    | nil => simp at hkU
    | cons u U ih =>
      simp only [List.countP_cons]
      rcases List.mem_cons.1 hkU with rfl | hm
      · have a1 : ((fell B k).out k != some false) = false := by rw [ho, if_pos rfl]; rfl
        have a2 : (B.out k != some false) = true := by rw [hBk]; rfl
        have a3 := List.countP_mono_left (l := U) (p := fun x => (fell B k).out x != some false) (q := fun x => B.out x != some false) fun y _ hy => hsub y hy
        rw [a1, a2]
        simp only [Bool.false_eq_true, if_false, if_true, Nat.add_zero]
        omega
      · have a3 := ih hm
        have a4 : (if ((fell B k).out u != some false) = true then 1 else 0) ≤ if (B.out u != some false) = true then 1 else 0 := by
          by_cases hu : ((fell B k).out u != some false) = true
          · rw [if_pos hu, if_pos (hsub u hu)]; exact Nat.le_refl _
          · rw [if_neg hu]; exact Nat.zero_le _
        omega
  have f2 : (R.U.countP fun x => (fell B k).out x == none) ≤ R.U.countP fun x => A.out x == none := by
    refine Nat.le_trans (List.countP_mono_left fun x _ hx => ?_) l2
    rw [ho] at hx
    split at hx
    · simp at hx
    · exact hx
  have f3 : (R.U.countP fun x => A.out x == none) ≤ R.U.length := List.countP_le_length
  rw [← l1]
  have f4 := Nat.mul_le_mul_right (R.U.length + 1) f1
  rw [Nat.add_mul, Nat.one_mul] at f4
  omega
end

/-- The beginning, and the end. -/
def start (k : K) : SA := ⟨upd (fun _ => none) k (some true), fun _ => [], [k]⟩
theorem start_inv {k : K} (hk : k ∈ R.U) : Inv R (start k) (fun _ => 0) := by
  have ho : ∀ x, (start k).out x = if x = k then some true else none := fun x => rfl
  refine ⟨fun x hx => ?_, fun x hx => ?_, fun o x hx => by simp [start] at hx, fun x hx => ?_, fun x hx => ?_, fun q hq => ?_, fun q hq o => by simp [start], fun q hq => rfl⟩
  · rw [ho] at hx
    split at hx
    · rename_i h; rw [h]; exact hk
    · simp at hx
  · simp only [start, List.mem_singleton] at hx
    rw [ho, if_pos hx]; simp
  · rw [ho] at hx
    split at hx <;> cases hx
  · rw [ho] at hx
    split at hx
    · rename_i h; exact .inl (by simp [start, h])
    · cases hx
  · refine Nat.le_trans ?_ Nat.one_le_two_pow
    simp only [start, Nat.add_zero]
    exact Nat.le_trans List.count_le_length (by simp)
theorem end_G (h : Inv R A E) (hw : A.work = []) {k : K} (hk : A.out k ≠ none) : (A.out k).getD false = true ↔ R.G k := by
  constructor
  · intro h1
    refine ⟨fun x => A.out x == some true, fun q hq => ?_, ?_⟩
    · have hq' : A.out q = some true := by simpa using hq
      refine ⟨h.dom q (by rw [hq']; simp), ?_⟩
      rcases h.stab q hq' with h2 | h2
      · rw [hw] at h2; simp at h2
      · exact h2.2
    · cases ho : A.out k with
      | none => exact absurd ho hk
      | some b => rw [ho] at h1; simp at h1; simp [ho, h1]
  · intro h1
    cases ho : A.out k with
    | none => exact absurd ho hk
    | some b =>
      cases b with
      | true => rfl
      | false => exact absurd h1 (h.fal k ho)
end Go.Sv
end

section
set_option linter.all false
set_option maxRecDepth 100000
namespace Go.VM
open Go Go.Sv

/-- Solve's function that is handed to the rule. -/
def holdCode (sz by_ : Nat) (zs : List D) (ks : List FK) : VFunc := ⟨(.seq (.region [⟨some 4, .bx (.t 0), none, []⟩,
  ⟨some 5, .mov (.c (.bool false)), none, []⟩] false)
 (.seq (.region [⟨some 9, .load false 1 (.t 1), none, []⟩,
  ⟨some 10, .nilchk (.t 9), none, [0]⟩,
  ⟨some 11, .faddr 1 (.t 10), none, [1]⟩,
  ⟨some 12, .load false 1 (.t 11), none, [2]⟩,
  ⟨some 13, .load true sz (.t 4), none, []⟩,
  ⟨some 14, .lookup (.flat ks) (.bool false) true (.t 12) (.t 13), none, [3, 4]⟩,
  ⟨some 8, .mov (.t 14), none, [5]⟩,
  ⟨some 15, .ext (.t 8) 0, none, [6]⟩,
  ⟨some 16, .ext (.t 8) 1, none, [6]⟩,
  ⟨some 6, .mov (.t 15), none, [7, 0, 1, 2, 3, 4, 5, 6, 7]⟩,
  ⟨some 7, .mov (.t 16), none, [8, 9, 0, 1, 2, 3, 4, 5, 6, 7, 8, 9]⟩] true)
 (.seq (.seq (.region [⟨some 17, .mov (.t 7), none, []⟩,
  ⟨some 18, .un .not (.t 17), none, [0]⟩] false)
 (.cond (.t 18) (.seq (.region [⟨some 19, .load false 1 (.t 1), none, []⟩,
  ⟨some 20, .nilchk (.t 19), none, [0]⟩,
  ⟨some 21, .faddr 1 (.t 20), none, [1]⟩,
  ⟨some 22, .load false 1 (.t 21), none, [2]⟩,
  ⟨some 23, .load true sz (.t 4), none, []⟩,
  ⟨none, .mapset (.flat ks) (.t 22) (.t 23) (.c (.bool true)), none, [3, 4, 0, 1, 2, 3, 4]⟩] true)
 (.seq (.region [⟨some 6, .mov (.c (.bool true)), none, []⟩] false)
 (.region [⟨some 24, .load false 1 (.t 2), none, []⟩,
  ⟨some 25, .load true sz (.t 4), none, []⟩,
  ⟨some 26, .bsliceA zs 1 [(0, (.t 25))], none, [1]⟩,
  ⟨some 27, .append sz by_ (.t 24) (.t 26), none, [0, 2]⟩,
  ⟨none, .store 1 (.t 2) (.t 27), none, [3, 3, 0, 1, 2, 3]⟩] false))) .skip))
 (.seq (.region [⟨some 28, .load false 1 (.t 1), none, []⟩,
  ⟨some 29, .nilchk (.t 28), none, [0]⟩,
  ⟨some 30, .faddr 2 (.t 29), none, [1]⟩,
  ⟨some 31, .load false 1 (.t 30), none, [2]⟩,
  ⟨some 32, .load true sz (.t 4), none, []⟩,
  ⟨some 33, .load false 1 (.t 1), none, []⟩,
  ⟨some 34, .nilchk (.t 33), none, [5]⟩,
  ⟨some 35, .faddr 2 (.t 34), none, [6]⟩,
  ⟨some 36, .load false 1 (.t 35), none, [7]⟩,
  ⟨some 37, .load true sz (.t 4), none, []⟩,
  ⟨some 38, .lookup (.flat ks) .nilsl false (.t 36) (.t 37), none, [8, 9]⟩,
  ⟨some 39, .load true sz (.t 3), none, []⟩,
  ⟨some 40, .bsliceA zs 1 [(0, (.t 39))], none, [11]⟩,
  ⟨some 41, .append sz by_ (.t 38) (.t 40), none, [10, 12]⟩,
  ⟨none, .mapset (.flat ks) (.t 31) (.t 32) (.t 41), none, [3, 4, 13, 13, 0, 1, 2, 3, 4, 5, 6, 7, 8, 9, 10, 11, 12, 13]⟩] true)
 (.seq (.region [⟨some 42, .mov (.t 6), none, []⟩,
  ⟨some 5, .mov (.t 42), none, [0, 0]⟩] false)
 .ret))))),
 [.tmp 5], 43⟩

/-- A round of Solve, behind the taking of a key. -/
def roundB (sz by_ : Nat) (ks : List FK) (fH : FuncId) : VCode := (.seq (.seq (.region [⟨some 35, .load false 1 (.t 5), none, []⟩,
  ⟨some 36, .nilchk (.t 35), none, [0]⟩,
  ⟨some 37, .faddr 1 (.t 36), none, [1]⟩,
  ⟨some 38, .load false 1 (.t 37), none, [2]⟩,
  ⟨some 39, .load true sz (.t 7), none, []⟩,
  ⟨some 40, .lookup (.flat ks) (.bool false) false (.t 38) (.t 39), none, [3, 4]⟩,
  ⟨some 41, .un .not (.t 40), none, [5]⟩] true)
 (.cond (.t 41) (.exit 1) .skip))
 (.seq (.region [⟨some 42, .load false 1 (.t 5), none, []⟩,
  ⟨some 43, .nilchk (.t 42), none, [0]⟩,
  ⟨some 44, .faddr 0 (.t 43), none, [1]⟩,
  ⟨some 45, .load false 1 (.t 44), none, [2]⟩,
  ⟨some 46, .load true sz (.t 7), none, []⟩,
  ⟨some 47, .mkfn fH [(.t 5), (.t 6), (.t 7)], none, []⟩,
  ⟨some 48, .call (.t 45) [(.t 46), (.t 47)], none, [3, 4, 5]⟩,
  ⟨some 8, .mov (.t 48), none, [6, 6, 0, 1, 2, 3, 4, 5, 6]⟩] true)
 (.seq (.seq (.region [⟨some 49, .mov (.t 8), none, []⟩] false)
 (.cond (.t 49) (.exit 1) .skip))
 (.seq (.region [⟨some 50, .load false 1 (.t 5), none, []⟩,
  ⟨some 51, .nilchk (.t 50), none, [0]⟩,
  ⟨some 52, .faddr 1 (.t 51), none, [1]⟩,
  ⟨some 53, .load false 1 (.t 52), none, [2]⟩,
  ⟨some 54, .load true sz (.t 7), none, []⟩,
  ⟨none, .mapset (.flat ks) (.t 53) (.t 54) (.c (.bool false)), none, [3, 4, 0, 1, 2, 3, 4]⟩] true)
 (.seq (.region [⟨some 55, .load false 1 (.t 6), none, []⟩,
  ⟨some 56, .load false 1 (.t 5), none, []⟩,
  ⟨some 57, .nilchk (.t 56), none, [1]⟩,
  ⟨some 58, .faddr 2 (.t 57), none, [2]⟩,
  ⟨some 59, .load false 1 (.t 58), none, [3]⟩,
  ⟨some 60, .load true sz (.t 7), none, []⟩,
  ⟨some 61, .lookup (.flat ks) .nilsl false (.t 59) (.t 60), none, [4, 5]⟩,
  ⟨some 62, .append sz by_ (.t 55) (.t 61), none, [0, 6]⟩,
  ⟨none, .store 1 (.t 6) (.t 62), none, [7, 7, 0, 1, 2, 3, 4, 5, 6, 7]⟩] true)
 (.region [⟨some 63, .load false 1 (.t 5), none, []⟩,
  ⟨some 64, .nilchk (.t 63), none, [0]⟩,
  ⟨some 65, .faddr 2 (.t 64), none, [1]⟩,
  ⟨some 66, .load false 1 (.t 65), none, [2]⟩,
  ⟨some 67, .load true sz (.t 7), none, []⟩,
  ⟨none, .mapdel (.flat ks) (.t 66) (.t 67), none, [3, 4]⟩] true))))))

/-- Solve. -/
def solveCode (sz by_ : Nat) (zs : List D) (ks : List FK) (fH : FuncId) : VFunc := ⟨(.seq (.region [⟨some 2, .bx (.t 0), none, []⟩,
  ⟨some 4, .mov (.c (.bool false)), none, []⟩] false)
 (.seq (.region [⟨some 9, .mov (.t 1), none, []⟩,
  ⟨some 10, .mkmap, none, []⟩,
  ⟨some 11, .mkmap, none, []⟩,
  ⟨some 12, .build [.nilfn, .nilmp, .nilmp] [(0, 1, (.t 9)), (1, 1, (.t 10)), (2, 1, (.t 11))], none, [0, 1, 2]⟩,
  ⟨some 13, .bx (.t 12), none, [3]⟩,
  ⟨some 5, .alloc [.nilptr], none, []⟩,
  ⟨none, .store 1 (.t 5) (.t 13), none, [5, 4, 0, 1, 2, 3, 4, 5]⟩] false)
 (.seq (.region [⟨some 14, .load true sz (.t 2), none, []⟩,
  ⟨some 15, .bsliceA zs 1 [(0, (.t 14))], none, [0]⟩,
  ⟨some 6, .alloc [.nilsl], none, []⟩,
  ⟨none, .store 1 (.t 6) (.t 15), none, [2, 1, 0, 1, 2]⟩] false)
 (.seq (.region [⟨some 16, .load false 1 (.t 5), none, []⟩,
  ⟨some 17, .nilchk (.t 16), none, [0]⟩,
  ⟨some 18, .faddr 1 (.t 17), none, [1]⟩,
  ⟨some 19, .load false 1 (.t 18), none, [2]⟩,
  ⟨some 20, .load true sz (.t 2), none, []⟩,
  ⟨none, .mapset (.flat ks) (.t 19) (.t 20) (.c (.bool true)), none, [3, 4, 0, 1, 2, 3, 4]⟩] true)
 (.seq (.block 0 (.loop none (.seq (.seq (.region [⟨some 21, .load false 1 (.t 6), none, []⟩,
  ⟨some 22, .len false (.t 21), none, [0]⟩,
  ⟨some 23, .bin .gtr .none (.t 22) (.c (.int .i64 0)), none, [1]⟩] false)
 (.cond (.t 23) .skip (.exit 0)))
 (.block 1 (.seq (.region [⟨some 24, .load false 1 (.t 6), none, []⟩,
  ⟨some 25, .load false 1 (.t 6), none, []⟩,
  ⟨some 26, .len false (.t 25), none, [1]⟩,
  ⟨some 27, .bin .sub .none (.t 26) (.c (.int .i64 1)), none, [2]⟩,
  ⟨some 28, .iaddr sz (.t 24) (.t 27), none, [0, 3]⟩,
  ⟨some 29, .load true sz (.t 28), none, [4]⟩,
  ⟨some 7, .alloc zs, none, []⟩,
  ⟨none, .store sz (.t 7) (.t 29), none, [6, 5, 0, 1, 2, 3, 4, 5, 6]⟩] false)
 (.seq (.region [⟨some 30, .load false 1 (.t 6), none, []⟩,
  ⟨some 31, .load false 1 (.t 6), none, []⟩,
  ⟨some 32, .len false (.t 31), none, [1]⟩,
  ⟨some 33, .bin .sub .none (.t 32) (.c (.int .i64 1)), none, [2]⟩,
  ⟨some 34, .slc sz (.t 30) none (some (.t 33)) none, none, [0, 3]⟩,
  ⟨none, .store 1 (.t 6) (.t 34), none, [4, 0, 1, 2, 3, 4]⟩] false)
 (roundB sz by_ ks fH)))))))
 (.seq (.region [⟨some 68, .load false 1 (.t 5), none, []⟩,
  ⟨some 69, .nilchk (.t 68), none, [0]⟩,
  ⟨some 70, .faddr 1 (.t 69), none, [1]⟩,
  ⟨some 71, .load false 1 (.t 70), none, [2]⟩,
  ⟨some 72, .load true sz (.t 2), none, []⟩,
  ⟨some 73, .lookup (.flat ks) (.bool false) false (.t 71) (.t 72), none, [3, 4]⟩,
  ⟨some 4, .mov (.t 73), none, [5, 0, 1, 2, 3, 4, 5]⟩] true)
 .ret)))))),
 [.tmp 4], 74⟩

/-! ### Keys -/
def enc (k : K) : List D := k.map fun n => D.int .i64 n
theorem enc_len {k : K} : (enc k).length = k.length := by simp [enc]
theorem enc_ok {k : K} : (enc k).all D.cellOk = true := by simp [enc, D.cellOk]
theorem enc_plain {k : K} : (enc k).all D.plain1 = true := by simp [enc, D.plain1]
theorem enc_norm {k : K} : (enc k).map D.norm = enc k := by simp [enc, D.norm, Function.comp_def]
theorem enc_okH {k : K} {l : List Nat} : (enc k).all (D.okH1 l) = true := by simp [enc, D.okH1]
theorem enc_frz {k : K} {H : Hp} : frzL (frz1 3) H (enc k) = some (enc k, H) := by
  induction k with
  | nil => rfl
  | cons n k ih => simp only [enc, List.map_cons, frzL1_cons, frz1_int, frzC1_some] at ih ⊢; rw [ih]; rfl
theorem enc_take {k : K} {sz : Nat} (h : k.length = sz) : (enc k).take sz = enc k := List.take_of_length_le (by rw [enc_len]; omega)
theorem enc_part {k : K} {sz : Nat} (h : k.length = sz) : partD true sz (enc k) = some (.agg (enc k)) := by rw [partD_agg (by rw [enc_len]; omega), enc_take h]
theorem enc_put {k : K} {zs : List D} (h : zs.length = k.length) : putCells zs 0 (enc k) = enc k := by
  have : ∀ (k : K) (pre zs : List D), zs.length = k.length → putCells (pre ++ zs) pre.length (enc k) = pre ++ enc k := by
    intro k
    induction k with
    | nil => intro pre zs h; cases zs with | nil => simp [enc, putCells] | cons => simp at h
    | cons n k ih =>
      intro pre zs h
      cases zs with
      | nil => simp at h
      | cons z zs =>
        simp only [enc, List.map_cons, putCells]
        have := ih (pre ++ [.int .i64 n]) zs (by simpa using h)
        simp only [List.length_append, List.length_cons, List.length_nil, List.append_assoc, List.cons_append, List.nil_append] at this
        show putCells ((pre ++ z :: zs).set pre.length (.int .i64 n)) (pre.length + 1) (enc k) = pre ++ .int .i64 n :: enc k
        rw [← this]
        simp
  simpa using this k [] zs h
/-- Cells of keys: numbers all. -/
def intKs (sz : Nat) : List FK := List.replicate sz .i
theorem eqL_enc : ∀ {sz : Nat} {a b : K}, a.length = sz → b.length = sz → binD.eqL (intKs sz) (enc a) (enc b) = some (decide (a = b))
  | 0, [], [], _, _ => rfl
  | sz + 1, x :: a, y :: b, ha, hb => by
    have ih := eqL_enc (sz := sz) (a := a) (b := b) (by simpa using ha) (by simpa using hb)
    simp only [enc, intKs, List.replicate_succ, List.map_cons, binD.eqL, binD.eq1, if_true, Option.bind_some] at ih ⊢
    rw [ih]
    simp only [Option.map_some, List.cons.injEq, Option.some.injEq]
    by_cases hxy : x = y
    · subst hxy; simp
    · simp [hxy]
  | 0, _ :: _, _, h, _ => by simp at h
  | 0, [], _ :: _, _, h => by simp at h
  | _ + 1, [], _, h, _ => by simp at h
  | _ + 1, _ :: _, [], _, h => by simp at h
theorem key_enc {sz : Nat} {a b : K} (ha : a.length = sz) (hb : b.length = sz) : keyCmp (.flat (intKs sz)) (.agg (enc a)) (.agg (enc b)) = some (decide (a = b)) := eqL_enc ha hb
theorem keyOk_enc {sz : Nat} {a : K} (ha : a.length = sz) : keyOk (.flat (intKs sz)) (.agg (enc a)) = true := by simp [keyOk, key_enc ha ha]

/-! ### Maps by keys -/
def aput {β : Type} (k : K) (v : β) : List (K × β) → List (K × β)
  | [] => [(k, v)]
  | p :: ps => if k = p.1 then (k, v) :: ps else p :: aput k v ps
def aget {β : Type} (k : K) : List (K × β) → Option β
  | [] => none
  | p :: ps => if k = p.1 then some p.2 else aget k ps
def adel {β : Type} (k : K) : List (K × β) → List (K × β)
  | [] => []
  | p :: ps => if k = p.1 then ps else p :: adel k ps
def amap {β : Type} (F : β → D) (l : List (K × β)) : List (D × D) := l.map fun p => (.agg (enc p.1), F p.2)
section
variable {β : Type} {F : β → D} {sz : Nat} {k : K} {l : List (K × β)}
theorem mapPut_enc (hk : k.length = sz) (v : β) (hl : ∀ p ∈ l, p.1.length = sz) : mapPut (.flat (intKs sz)) (.agg (enc k)) (F v) (amap F l) = some (amap F (aput k v l)) := by
  induction l with
  | nil => rfl
  | cons p ps ih =>
    have h1 := hl p (by simp)
    have ih := ih fun q hq => hl q (by simp [hq])
    simp only [amap, List.map_cons, mapPut, key_enc hk h1, Option.bind_some, aput] at ih ⊢
    by_cases he : k = p.1
    · simp [he]
    · simp [he, ih]
theorem mapGet_enc (hk : k.length = sz) (hl : ∀ p ∈ l, p.1.length = sz) : mapGet (.flat (intKs sz)) (.agg (enc k)) (amap F l) = some ((aget k l).map F) := by
  induction l with
  | nil => rfl
  | cons p ps ih =>
    have h1 := hl p (by simp)
    have ih := ih fun q hq => hl q (by simp [hq])
    simp only [amap, List.map_cons, mapGet, key_enc hk h1, Option.bind_some, aget] at ih ⊢
    by_cases he : k = p.1
    · simp [he]
    · simp [he, ih]
theorem mapDel_enc (hk : k.length = sz) (hl : ∀ p ∈ l, p.1.length = sz) : mapDel (.flat (intKs sz)) (.agg (enc k)) (amap F l) = some (amap F (adel k l)) := by
  induction l with
  | nil => rfl
  | cons p ps ih =>
    have h1 := hl p (by simp)
    have ih := ih fun q hq => hl q (by simp [hq])
    simp only [amap, List.map_cons, mapDel, key_enc hk h1, Option.bind_some, adel] at ih ⊢
    by_cases he : k = p.1
    · simp [he]
    · simp [he, ih]
theorem aget_put (v : β) (x : K) : aget x (aput k v l) = if x = k then some v else aget x l := by
  induction l with
  | nil => simp [aput, aget]
  | cons p ps ih =>
    simp only [aput]
    by_cases he : k = p.1
    · rw [if_pos he]
      simp only [aget]
      by_cases hx : x = k
      · simp [hx]
      · rw [if_neg hx, if_neg hx, if_neg (by rw [← he]; exact hx)]
    · rw [if_neg he]
      simp only [aget, ih]
      by_cases hxp : x = p.1
      · rw [if_pos hxp, if_neg (by rw [hxp]; exact fun h => he h.symm), if_pos hxp]
      · rw [if_neg hxp, if_neg hxp]
theorem aput_mem {v : β} {q : K × β} (h : q ∈ aput k v l) : q = (k, v) ∨ (q ∈ l ∧ q.1 ≠ k) ∨ (q ∈ l ∧ q.1 = k ∧ False) ∨ q ∈ l := by
  induction l with
  | nil => simp [aput] at h; exact .inl h
  | cons p ps ih =>
    simp only [aput] at h
    by_cases he : k = p.1
    · rw [if_pos he] at h
      rcases List.mem_cons.1 h with h | h
      · exact .inl h
      · exact .inr (.inr (.inr (by simp [h])))
    · rw [if_neg he] at h
      rcases List.mem_cons.1 h with h | h
      · exact .inr (.inr (.inr (by simp [h])))
      · rcases ih h with h | h | h | h
        · exact .inl h
        · exact .inr (.inr (.inr (by simp [h.1])))
        · exact h.2.2.elim
        · exact .inr (.inr (.inr (by simp [h])))
end

/-! ### The operations on maps, and appending -/
section
variable {G : Type} {pc : Pc G} {dst : Option Nat} {e : Env} {H : Hp} {g : Nat × G}
def lkG (ok : Bool) (v : Option (Option D)) (z : D) (two : Bool) (H : Hp) (g : Nat × G) : Option (Res G) := if ok then v.bind fun v => okD (if two then .tup [v.getD z, .bool v.isSome] else v.getD z) H g else none
theorem lkG_one {v : Option D} {z : D} : lkG true (some v) z false H g = some ⟨v.getD z, H, g, .none⟩ := rfl
theorem lkG_two {v : Option D} {z : D} : lkG true (some v) z true H g = some ⟨.tup [v.getD z, .bool v.isSome], H, g, .none⟩ := rfl
def lkH (c : Option HC) (mk : MK) (kd z : D) (two : Bool) (H : Hp) (g : Nat × G) : Option (Res G) := match c with
  | some (.mp es) => lkG (keyOk mk kd) (mapGet mk kd es) z two H g
  | _ => none
theorem lkH_mp {es : List (D × D)} {mk : MK} {kd z : D} {two : Bool} : lkH (some (.mp es)) mk kd z two H g = lkG (keyOk mk kd) (mapGet mk kd es) z two H g := rfl
def lkO (mk : MK) (z : D) (two : Bool) (m k : Option D) (H : Hp) (g : Nat × G) : Option (Res G) := match m, k with
  | some (.mp r), some kd => lkH (H r) mk kd z two H g
  | _, _ => none
theorem lkO_mp {mk : MK} {z kd : D} {two : Bool} {r : Nat} : lkO mk z two (some (.mp r)) (some kd) H g = lkH (H r) mk kd z two H g := rfl
theorem act_lookup {mk : MK} {z : D} {two : Bool} {m x : Opd} : act pc dst (.lookup mk z two m x) e H g = lkO mk z two (m.ev e) (x.ev e) H g := by
  simp only [act, lkO]
  cases m.ev e with
  | none => rfl
  | some md =>
    cases x.ev e with
    | none => cases md <;> rfl
    | some kd =>
      simp only [Option.bind_some]
      cases md with
      | mp r =>
        simp only [lkH]
        cases H r with
        | none => rfl
        | some c => cases c <;> rfl
      | _ => rfl
def msG (ok : Bool) (q : Option (List (D × D))) (r : Nat) (d : D) (H : Hp) (g : Nat × G) : Option (Res G) := if ok then q.bind fun q => some ⟨d, H.set r (.mp q), g, .write⟩ else none
theorem msG_some {q : List (D × D)} {r : Nat} {d : D} : msG true (some q) r d H g = some ⟨d, H.set r (.mp q), g, .write⟩ := rfl
def msH (c : Option HC) (mk : MK) (kd v : D) (r : Nat) (H : Hp) (g : Nat × G) : Option (Res G) := match c with
  | some (.mp es) => msG (keyOk mk kd && v.cells.all D.cellOk) (mapPut mk kd v es) r .undef H g
  | _ => none
theorem msH_mp {es : List (D × D)} {mk : MK} {kd v : D} {r : Nat} : msH (some (.mp es)) mk kd v r H g = msG (keyOk mk kd && v.cells.all D.cellOk) (mapPut mk kd v es) r .undef H g := rfl
def msO (mk : MK) (m k v : Option D) (H : Hp) (g : Nat × G) : Option (Res G) := match m, k, v with
  | some (.mp r), some kd, some v => msH (H r) mk kd v r H g
  | _, _, _ => none
theorem msO_mp {mk : MK} {kd v : D} {r : Nat} : msO mk (some (.mp r)) (some kd) (some v) H g = msH (H r) mk kd v r H g := rfl
theorem act_mapset {mk : MK} {m x y : Opd} : act pc dst (.mapset mk m x y) e H g = msO mk (m.ev e) (x.ev e) (y.ev e) H g := by
  simp only [act, msO]
  cases m.ev e with
  | none => rfl
  | some md =>
    cases x.ev e with
    | none => cases md <;> rfl
    | some kd =>
      cases y.ev e with
      | none => cases md <;> rfl
      | some v =>
        simp only [Option.bind_some]
        cases md with
        | mp r =>
          simp only [msH]
          cases H r with
          | none => rfl
          | some c =>
            cases c with
            | mp es =>
              simp only [msG, Bool.and_eq_true]
            | _ => rfl
        | _ => rfl
def mdH (c : Option HC) (mk : MK) (kd : D) (r : Nat) (H : Hp) (g : Nat × G) : Option (Res G) := match c with
  | some (.mp es) => msG (keyOk mk kd) (mapDel mk kd es) r (.tup []) H g
  | _ => none
theorem mdH_mp {es : List (D × D)} {mk : MK} {kd : D} {r : Nat} : mdH (some (.mp es)) mk kd r H g = msG (keyOk mk kd) (mapDel mk kd es) r (.tup []) H g := rfl
def mdO (mk : MK) (m k : Option D) (H : Hp) (g : Nat × G) : Option (Res G) := match m, k with
  | some (.mp r), some kd => mdH (H r) mk kd r H g
  | _, _ => none
theorem mdO_mp {mk : MK} {kd : D} {r : Nat} : mdO mk (some (.mp r)) (some kd) H g = mdH (H r) mk kd r H g := rfl
theorem act_mapdel {mk : MK} {m x : Opd} : act pc dst (.mapdel mk m x) e H g = mdO mk (m.ev e) (x.ev e) H g := by
  simp only [act, mdO]
  cases m.ev e with
  | none => rfl
  | some md =>
    cases x.ev e with
    | none => cases md <;> rfl
    | some kd =>
      simp only [Option.bind_some]
      cases md with
      | mp r =>
        simp only [mdH]
        cases H r with
        | none => rfl
        | some c => cases c <;> rfl
      | _ => rfl
/-- A slice of one element. -/
def bsO (zs : List D) (k : Nat) (x : Option D) (H : Hp) (g : Nat × G) : Option (Res G) := act (⟨fun _ => false, fun _ _ _ => none, fun _ _ _ _ => none⟩ : Pc G) (some k) (.bsliceA zs 1 [(0, .t 0)]) (fun _ => x) H g
theorem act_bsliceA {zs : List D} {k : Nat} {x : Opd} : act pc (some k) (.bsliceA zs 1 [(0, x)]) e H g = bsO zs k (x.ev e) H g := by
  simp only [bsO, act, List.map_cons, List.map_nil, Opd.evL, ev_t]
  cases x.ev e <;> rfl
theorem bsO_enc {zs : List D} {k : Nat} {q : K} (hz : zs.length = q.length) (hs : q.length ≤ 16777216) (hk : H k = none) : bsO zs k (some (.agg (enc q))) H g = some ⟨.arr k 0 1, H.set k (.arr zs.length 0 [enc q]), g, .new⟩ := by
  have h1 : zerosD zs 1 = zs := by simp [zerosD]
  have h2 : setParts (zerosD zs 1) [(0 * zs.length, zs.length, .agg (enc q))] = some (enc q) := by
    rw [h1]
    simp only [setParts, cells_agg, enc_len, hz, enc_ok, Nat.zero_mul, Nat.zero_add]
    rw [if_pos (by simp), enc_put hz]
  simp only [bsO, act, Option.bind_some, List.map_cons, List.map_nil, Opd.evL, Opd.ev, List.zip_cons_cons, List.zip_nil_right, h2]
  rw [if_pos ⟨by omega, by simp [hdef, hk]⟩, enc_norm]
  simp only [act.chunks, hz, enc_take]
def apO (dst : Option Nat) (sz by_ : Nat) (s x : Option D) (H : Hp) (g : Nat × G) : Option (Res G) := act (⟨fun _ => false, fun _ _ _ => none, fun _ _ _ _ => none⟩ : Pc G) dst (.append sz by_ (.t 0) (.t 1)) (fun i => if i = 0 then s else x) H g
theorem act_append {sz by_ : Nat} {s x : Opd} : act pc dst (.append sz by_ s x) e H g = apO dst sz by_ (s.ev e) (x.ev e) H g := rfl
theorem ap_nil {sz by_ k ky qy : Nat} {c : List D} (hk : H k = none) (hy : H ky = some (.arr sz qy [c])) (hc : c.length = sz) (hn : c.map D.norm = c) (hb : by_ ≤ roomBytes) : apO (some k) sz by_ (some .nilsl) (some (.arr ky qy 1)) H g = some ⟨.arr k 0 1, H.set k (.arr sz 0 [c]), g, .new⟩ := by
  have : ¬ by_ * 1 > roomBytes := by omega
  simp [apO, act, elems, Opd.ev, hy, hc, hn, hdef, hk, hb]
theorem ap_arr {sz by_ kd qd n ky qy m : Nat} {es ys : List (List D)} (hd : H kd = some (.arr sz qd es)) (hn : n ≤ es.length) (hy : H ky = some (.arr sz qy ys)) (hm : m ≤ ys.length) (h0 : 0 < m) (hc : ∀ c ∈ ys, c.length = sz ∧ c.map D.norm = c) (hb : by_ * (n + m) ≤ roomBytes) :
    apO dst sz by_ (some (.arr kd qd n)) (some (.arr ky qy m)) H g = some ⟨.arr kd (qd + 1) (n + m), H.set kd (.arr sz (qd + 1) (es.take n ++ ys.take m)), g, .write⟩ := by
  have e1 : (ys.take m).map (fun c => c.map D.norm) = ys.take m := by
    refine Eq.trans (List.map_congr_left (g := id) fun c hc' => (hc c (List.mem_of_mem_take hc')).2) (by simp)
  have e2 : ((ys.take m).all fun c => decide (c.length = sz)) = true := List.all_eq_true.2 fun c hc' => by simpa using (hc c (List.mem_of_mem_take hc')).1
  have e3 : (ys.take m).isEmpty = false := by
    cases hy' : ys.take m with
    | nil =>
      have := congrArg List.length hy'
      rw [List.length_take, List.length_nil] at this
      omega
    | cons => rfl
  have e4 : (ys.take m).length = m := by simp; omega
  have e5 : (es.take n).length = n := by simp; omega
  have e6 : ¬ by_ * (n + m) > roomBytes := Nat.not_lt.2 hb
  simp only [apO, act, Opd.ev, elems, hd, hy, Option.bind_some, if_true, hn, hm, and_self, e1, e2, e3, Bool.false_eq_true, if_false, e4, e5, e6, not_false_eq_true, Nat.reduceEqDiff]
theorem ap_zero {sz by_ : Nat} {d : D} {es : List (List D)} (hd : elems H d = some es) : apO dst sz by_ (some d) (some .nilsl) H g = some ⟨d, H, g, .none⟩ := by
  have h2 : elems H .nilsl = some [] := rfl
  simp only [apO, act, Opd.ev, if_true, Nat.reduceEqDiff, if_false, Option.bind_some, hd, h2]
  rfl
/-- A shared function's answer, by its body. -/
def EndsP (rs : List VResult) (Q : D → Hp → Nat × G → Prop) (ex : Ex) (st : St G) : Prop := (match ex with | .exit _ => False | _ => True) ∧ ∃ ds, rawD st rs = some ds ∧ Q (tupD ds) st.H st.g
def rawO (ds : Option (List D)) (Q : D → Hp → Nat × G → Prop) (H : Hp) (g : Nat × G) : Prop := ∃ d, ds = some d ∧ Q (tupD d) H g
theorem rawO_some {ds : List D} {Q : D → Hp → Nat × G → Prop} : rawO (some ds) Q H g = Q (tupD ds) H g := by simp [rawO]
theorem EndsP_ret {rs : List VResult} {Q : D → Hp → Nat × G → Prop} {b : Nat} : EndsP rs Q .ret ⟨e, H, g, b⟩ = rawO (rawD (⟨e, H, g, b⟩ : St G) rs) Q H g := by simp [EndsP, rawO]
theorem fnS_of {T : Tab G} {f : FuncId} {vf : VFunc} {as : List D} {Q : D → Hp → Nat × G → Prop} (hp : T.primS f = none) (hf : T.code f = some vf) (hw : vf.body.whole = true) (hl : Nat.ble as.length vf.ntmps = true)
    (h : Wp (callL T) vf.body ⟨args0 as, H, (g.1 + roomKeys, g.2), g.1⟩ (EndsP vf.results Q)) : ∃ r H' g', (callL T).shared f as H g = some (r, H', g') ∧ Q r H' g' := by
  obtain ⟨ex, st', h1, h2, ds, h3, h4⟩ := h
  refine ⟨tupD ds, st'.H, st'.g, callL_bodyS hp hf ?_, h4⟩
  unfold bodyS
  rw [if_pos ⟨hw, Nat.le_of_ble_eq_true hl⟩, h1, Option.bind_some]
  cases ex with
  | exit j => exact absurd h2 (by simp)
  | normal => simp only [h3, Option.bind_some]
  | ret => simp only [h3, Option.bind_some]
end
/-- All of these, for simp. -/
def vs :=
  And.intro (And.intro (And.intro (And.intro (@act_lookup) (And.intro (@lkO_mp) (@lkH_mp))) (And.intro (@lkG_one) (And.intro (@lkG_two) (@act_mapset)))) (And.intro (And.intro (@msO_mp) (And.intro
    (@msH_mp) (@msG_some))) (And.intro (And.intro (@act_mapdel) (@mdO_mp)) (And.intro (@mdH_mp) (@act_bsliceA))))) (And.intro (And.intro (And.intro (@act_append) (And.intro (@rawO_some) (@EndsP_ret)))
    (And.intro (@goE_nil) (And.intro (@goE_cons) (@stepE_some)))) (And.intro (And.intro (@goN_nil) (And.intro (@goN_cons) (@stepN_some))) (And.intro (And.intro (@ntO_none) (@Nat.left_eq_add)) (And.intro
    (@Nat.add_eq_left) (@Nat.add_left_cancel_iff)))))
end Go.VM
end

section
set_option linter.all false
set_option maxRecDepth 100000
namespace Go.VM
open Go Go.Sv

structure SS where
  out : List (K × Bool)
  on : List (K × (Nat × Nat × List K))
  wa : Nat
  wv : Nat
  wn : Nat
  wes : List K
def onD (p : Nat × Nat × List K) : D := .arr p.1 p.2.1 p.2.2.length
def SS.A (s : SS) : SA := ⟨fun k => aget k s.out, fun k => ((aget k s.on).map fun p => p.2.2).getD [], s.wes.take s.wn⟩
def arrC (sz v : Nat) (es : List K) : HC := .arr sz v (es.map enc)

/-- Solve's state in the store: its variables at B, its arrays anywhere. -/
structure Rep (sz B : Nat) (rule : D) (H : Hp) (s : SS) : Prop where
  h5 : H (B + 5) = some (.vars [.box (B + 13) 0])
  h13 : H (B + 13) = some (.vars [rule, .mp (B + 10), .mp (B + 11)])
  h10 : H (B + 10) = some (.mp (amap D.bool s.out))
  h11 : H (B + 11) = some (.mp (amap onD s.on))
  h6 : H (B + 6) = some (.vars [.arr s.wa s.wv s.wn])
  hw : H s.wa = some (arrC sz s.wv s.wes)
  hwn : s.wn ≤ s.wes.length
  hon : ∀ p ∈ s.on, H p.2.1 = some (arrC sz p.2.2.1 p.2.2.2)
  nd : (s.wa :: s.on.map fun p => p.2.1).Nodup
  ko : ∀ p ∈ s.out, p.1.length = sz
  kn : ∀ p ∈ s.on, p.1.length = sz ∧ (∀ x ∈ p.2.2.2, x.length = sz) ∧ p.2.2.2 ≠ []
  kw : ∀ x ∈ s.wes, x.length = sz
  nk : (s.on.map fun p => p.1).Nodup

/-- What is no array, and none of Solve's own, stays. -/
def Frame (B n : Nat) (H H' : Hp) : Prop := ∀ j, j < n → j ≠ B + 6 → j ≠ B + 10 → j ≠ B + 11 → (∀ a b c, H j ≠ some (.arr a b c)) → H' j = H j
def Dom (H : Hp) (n : Nat) : Prop := ∀ j, n ≤ j → H j = none

theorem aget_none {β : Type} {k : K} : ∀ {l : List (K × β)}, aget k l = none ↔ ∀ p ∈ l, p.1 ≠ k
  | [] => by simp [aget]
  | p :: ps => by
    have ih := aget_none (k := k) (l := ps)
    simp only [aget]
    by_cases h : k = p.1
    · rw [if_pos h]
      simp [h]
    · rw [if_neg h, ih]
      simp [Ne.symm h]
theorem aget_some {β : Type} {k : K} {v : β} : ∀ {l : List (K × β)}, aget k l = some v → (k, v) ∈ l
  | [], h => by simp [aget] at h
  | p :: ps, h => by
    simp only [aget] at h
    by_cases he : k = p.1
    · rw [if_pos he] at h
      simp only [Option.some.injEq] at h
      subst h; subst he
      simp
    · rw [if_neg he] at h
      simp [aget_some h]
theorem aput_new {β : Type} {k : K} {v : β} : ∀ {l : List (K × β)}, aget k l = none → aput k v l = l ++ [(k, v)]
  | [], _ => rfl
  | p :: ps, h => by
    simp only [aget] at h
    by_cases he : k = p.1
    · rw [if_pos he] at h; cases h
    · rw [if_neg he] at h
      simp only [aput]
      rw [if_neg he, aput_new h]
      rfl
theorem aput_old {β γ : Type} {k : K} {v v0 : β} {f : K × β → γ} (hf : f (k, v) = f (k, v0)) : ∀ {l : List (K × β)}, aget k l = some v0 → (aput k v l).map f = l.map f
  | [], h => by simp [aget] at h
  | p :: ps, h => by
    simp only [aget] at h
    simp only [aput]
    by_cases he : k = p.1
    · rw [if_pos he] at h
      rw [if_pos he]
      simp only [Option.some.injEq] at h
      subst h; subst he
      simp [hf]
    · rw [if_neg he] at h
      rw [if_neg he, List.map_cons, List.map_cons, aput_old hf h]
/-- What is put is there, all else as it was. -/
theorem aput_split {β : Type} {k : K} {v : β} : ∀ {l : List (K × β)}, (l.map fun p => p.1).Nodup → ∀ {q : K × β}, q ∈ aput k v l → q = (k, v) ∨ (q ∈ l ∧ q.1 ≠ k)
  | [], _, q, h => by simp [aput] at h; exact .inl h
  | p :: ps, hn, q, h => by
    obtain ⟨h1, h2⟩ := List.nodup_cons.1 hn
    simp only [aput] at h
    by_cases he : k = p.1
    · rw [if_pos he] at h
      rcases List.mem_cons.1 h with h | h
      · exact .inl h
      · refine .inr ⟨by simp [h], fun e => h1 ?_⟩
        exact List.mem_map.2 ⟨q, h, e.trans he⟩
    · rw [if_neg he] at h
      rcases List.mem_cons.1 h with h | h
      · subst h
        exact .inr ⟨by simp, fun e => he e.symm⟩
      · rcases aput_split h2 h with h | ⟨h, h'⟩
        · exact .inl h
        · exact .inr ⟨by simp [h], h'⟩

/-- What Solve's own things, and no others, hang on. -/
theorem Rep.congr {sz B : Nat} {rule : D} {H H' : Hp} {s : SS} (h : Rep sz B rule H s) (h5 : H' (B + 5) = H (B + 5)) (h6 : H' (B + 6) = H (B + 6)) (h10 : H' (B + 10) = H (B + 10)) (h11 : H' (B + 11) = H (B + 11)) (h13 : H' (B + 13) = H (B + 13)) (ha : ∀ j a b c, H j = some (.arr a b c) → H' j = H j) : Rep sz B rule H' s :=
  ⟨h5.trans h.h5, h13.trans h.h13, h10.trans h.h10, h11.trans h.h11, h6.trans h.h6, (ha _ _ _ _ h.hw).trans h.hw, h.hwn, fun p hp => (ha _ _ _ _ (h.hon p hp)).trans (h.hon p hp), h.nd, h.ko, h.kn, h.kw, h.nk⟩
/-- A new thing, or one that is none of Solve's. -/
theorem Rep.set {sz B : Nat} {rule : D} {H : Hp} {s : SS} (h : Rep sz B rule H s) {k : Nat} {c : HC} (hk : B + 4096 ≤ k) (ha : ∀ a b e, H k ≠ some (.arr a b e)) : Rep sz B rule (H.set k c) s := by
  have ne : ∀ i, i < 4096 → B + i ≠ k := fun i hi => by omega
  exact h.congr (Hp.set_other H _ (ne 5 (by omega))) (Hp.set_other H _ (ne 6 (by omega))) (Hp.set_other H _ (ne 10 (by omega))) (Hp.set_other H _ (ne 11 (by omega))) (Hp.set_other H _ (ne 13 (by omega))) (fun j a b e hj => Hp.set_other H _ (fun he => ha a b e (by rw [← he]; exact hj)))

section
variable {T : Tab Unit} {sz by_ B : Nat} {zs : List D} {fH : FuncId} {rule : D} {H : Hp} {s : SS} {b : Nat} {k o : K} {kb : Nat}
structure HoldT (T : Tab Unit) (sz by_ : Nat) (zs : List D) (fH : FuncId) : Prop where
  prim : T.primS fH = none
  code : T.code fH = some (holdCode sz by_ zs (intKs sz))
  hz : zs.length = sz
  h0 : 0 < sz
  hs : sz ≤ 16777216

/-- Who asked is noted. -/
theorem hold_tail (hT : HoldT T sz by_ zs fH) {H : Hp} {e : Env} {g : Nat × Unit} {r : Bool} {Q : D → Hp → Nat × Unit → Prop} (hr : Rep sz B rule H s) (hB : B + 4096 ≤ b) (hkb : H kb = some (.vars (enc k))) (hkl : k.length = sz) (hol : o.length = sz) (hob : H (b + 4) = some (.vars (enc o)))
    (hfr : ∀ i, 28 ≤ i → H (b + i) = none) (hkl2 : kb < b) (e1 : e 1 = some (.box (B + 5) 0)) (e3 : e 3 = some (.box kb 0)) (e4 : e 4 = some (.box (b + 4) 0)) (e6 : e 6 = some (.bool r))
    (hb2 : by_ * ((s.A.on o).length + 1) ≤ roomBytes)
    (hQ : ∀ H' s', Rep sz B rule H' s' → s'.A = ⟨s.A.out, upd s.A.on o (s.A.on o ++ [k]), s.A.work⟩ → (∀ j, j ≠ b + 40 → j ≠ b + 41 → j ≠ B + 11 → (∀ a b c, H j ≠ some (.arr a b c)) → H' j = H j) → (∀ j, b + 42 ≤ j → H j = none → H' j = none) → Q (.bool r) H' g) :
    Wp (callL T) (.seq (.region [⟨some 28, .load false 1 (.t 1), none, []⟩,
  ⟨some 29, .nilchk (.t 28), none, [0]⟩,
  ⟨some 30, .faddr 2 (.t 29), none, [1]⟩,
  ⟨some 31, .load false 1 (.t 30), none, [2]⟩,
  ⟨some 32, .load true sz (.t 4), none, []⟩,
  ⟨some 33, .load false 1 (.t 1), none, []⟩,
  ⟨some 34, .nilchk (.t 33), none, [5]⟩,
  ⟨some 35, .faddr 2 (.t 34), none, [6]⟩,
  ⟨some 36, .load false 1 (.t 35), none, [7]⟩,
  ⟨some 37, .load true sz (.t 4), none, []⟩,
  ⟨some 38, .lookup (.flat (intKs sz)) .nilsl false (.t 36) (.t 37), none, [8, 9]⟩,
  ⟨some 39, .load true sz (.t 3), none, []⟩,
  ⟨some 40, .bsliceA zs 1 [(0, (.t 39))], none, [11]⟩,
  ⟨some 41, .append sz by_ (.t 38) (.t 40), none, [10, 12]⟩,
  ⟨none, .mapset (.flat (intKs sz)) (.t 31) (.t 32) (.t 41), none, [3, 4, 13, 13, 0, 1, 2, 3, 4, 5, 6, 7, 8, 9, 10, 11, 12, 13]⟩] true)
 (.seq (.region [⟨some 42, .mov (.t 6), none, []⟩,
  ⟨some 5, .mov (.t 42), none, [0, 0]⟩] false)
 .ret)) ⟨e, H, g, b⟩ (EndsP [.tmp 5] Q) := by
  have f40 := hfr 40 (by omega)
  have f41 := hfr 41 (by omega)
  obtain ⟨h5, h13, h10, h11, h6, hw, hwn, hon, nd, ko, kn, kw, nk⟩ := hr
  have eo := enc_part hol
  have ek := enc_part hkl
  have hgn := mapGet_enc (F := onD) hol (fun p hp => (kn p hp).1)
  have hko := keyOk_enc hol
  have hz : zs.length = k.length := by rw [hT.hz, hkl]
  have hbs := fun (H : Hp) (h : H (b + 40) = none) => bsO_enc (G := Unit) (H := H) (g := g) hz (by rw [hkl]; exact hT.hs) h
  have n40 : ∀ i, i < 40 → (B + i = b + 40) = False := fun i hi => by simp; omega
  have n5 : (B + 5 = b + 40) = False := n40 5 (by omega)
  have n13 : (B + 13 = b + 40) = False := n40 13 (by omega)
  have n11 : (B + 11 = b + 40) = False := n40 11 (by omega)
  have n11' : (B + 11 = b + 41) = False := by simp; omega
  have n5' : (b + 40 = B + 5) = False := by simp; omega
  have n13' : (b + 40 = B + 13) = False := by simp; omega
  have n11'' : (b + 40 = B + 11) = False := by simp; omega
  have n41 : (b + 41 = B + 5) = False := by simp; omega
  have n41' : (b + 41 = B + 13) = False := by simp; omega
  have nk40 : (kb = b + 40) = False := by simp; omega
  have nk41 : (kb = b + 41) = False := by simp; omega
  have nk40' : (b + 40 = kb) = False := by simp; omega
  have nk41' : (b + 41 = kb) = False := by simp; omega
  cases hoo : aget o s.on with
  | none =>
    rw [hoo] at hgn
    refine Wp.seq (Wp.draw (runDraw_notes (by kernel_rfl) (nts := ?nts) (st' := ?st) ?run ?chk) ?_)
    case run =>
      simp -implicitDefEqProofs only [vm, vs, pairUp, Nat.reduceEqDiff, Nat.reduceAdd, Nat.reduceLeDiff, reduceIte, e1, e3, e4, h5, h13, h11, hob, hkb, eo, ek, hko, hgn, hbs H f40, Option.map_none, Option.getD_none]
      rw [ap_nil (qy := 0) (c := enc k)]
      rotate_left
      · simp only [hset_eq, Nat.add_left_cancel_iff, Nat.reduceEqDiff, if_false, f41]
      · simp only [hset_eq, if_true, hT.hz]
      · rw [enc_len]; exact hkl
      · exact enc_norm
      · exact Nat.le_trans (by rw [Nat.mul_add]; omega) hb2
      simp -implicitDefEqProofs only [vm, vs, pairUp, Nat.reduceEqDiff, Nat.reduceAdd, Nat.reduceLeDiff, reduceIte, hset_eq, n11, n11', h11, hko, mapPut_enc (F := onD) hol (v := (b + 41, 0, [k])) (fun p hp => (kn p hp).1), show D.arr (b + 41) 0 1 = onD (b + 41, 0, [k]) from rfl, show (onD (b + 41, 0, [k])).cells.all D.cellOk = true from rfl]
      rfl
    case chk =>
      have ho : openPairs [⟨some 28, .load false 1 (.t 1), none, []⟩,
  ⟨some 29, .nilchk (.t 28), none, [0]⟩,
  ⟨some 30, .faddr 2 (.t 29), none, [1]⟩,
  ⟨some 31, .load false 1 (.t 30), none, [2]⟩,
  ⟨some 32, .load true sz (.t 4), none, []⟩,
  ⟨some 33, .load false 1 (.t 1), none, []⟩,
  ⟨some 34, .nilchk (.t 33), none, [5]⟩,
  ⟨some 35, .faddr 2 (.t 34), none, [6]⟩,
  ⟨some 36, .load false 1 (.t 35), none, [7]⟩,
  ⟨some 37, .load true sz (.t 4), none, []⟩,
  ⟨some 38, .lookup (.flat (intKs sz)) .nilsl false (.t 36) (.t 37), none, [8, 9]⟩,
  ⟨some 39, .load true sz (.t 3), none, []⟩,
  ⟨some 40, .bsliceA zs 1 [(0, (.t 39))], none, [11]⟩,
  ⟨some 41, .append sz by_ (.t 38) (.t 40), none, [10, 12]⟩,
  ⟨none, .mapset (.flat (intKs sz)) (.t 31) (.t 32) (.t 41), none, [3, 4, 13, 13, 0, 1, 2, 3, 4, 5, 6, 7, 8, 9, 10, 11, 12, 13]⟩] = [(0, 4), (0, 5), (0, 6), (0, 7), (0, 8), (0, 9), (0, 10), (0, 11), (0, 12), (0, 13), (1, 4), (1, 5), (1, 6), (1, 7), (1, 8), (1, 9), (1, 10), (1, 11), (1, 12), (1, 13), (2, 4), (2, 5), (2, 6), (2, 7), (2, 8), (2, 9), (2, 10), (2, 11), (2, 12), (2, 13), (3, 4), (3, 5), (3, 6), (3, 7), (3, 8), (3, 9), (3, 10), (3, 11), (3, 12), (3, 13), (4, 5), (4, 6), (4, 7), (4, 8), (4, 9), (4, 10), (4, 11), (4, 12), (4, 13), (5, 9), (5, 11), (5, 12), (6, 9), (6, 11), (6, 12), (7, 9), (7, 11), (7, 12), (8, 9), (8, 11), (8, 12), (9, 11), (9, 12), (10, 11), (10, 12)] := by kernel_rfl
      rw [ho]
      simp [dynAt, dynOk, wkey, clearOf, VOp.isLocal, VOp.saw, VOp.quiet, VOp.frs, quietL, VOp.keys, VOp.opds, D.key1, ev_t, set_eq, put_some, put_none, e1, e3, e4, n5, n13, n11, n11', n5', n13', n11'', n41, n41', nk40, nk41, nk40', nk41']
    simp only [andThen_normal]
    refine Wp.seq (Wp_region ?_)
    simp -implicitDefEqProofs only [vm, vs, pairUp, Nat.reduceEqDiff, Nat.reduceAdd, Nat.reduceLeDiff, reduceIte, e6]
    refine Wp.ret ?_
    simp -implicitDefEqProofs only [vm, vs, pairUp, Nat.reduceEqDiff, Nat.reduceAdd, Nat.reduceLeDiff, reduceIte]
    have wne : ∀ j, H j = none → ∀ {i c}, H i = some c → i ≠ j := fun j hj i c hi he => by rw [he, hj] at hi; cases hi
    have hwa40 := wne _ f40 hw
    have hwa41 := wne _ f41 hw
    have hwa11 : s.wa ≠ B + 11 := fun he => by rw [he, h11] at hw; cases hw
    refine hQ _ { s with on := aput o (b + 41, 0, [k]) s.on } ?_ ?_ (fun j j1 j2 j3 _ => ?_) (fun j j1 j2 => ?_)
    · have hnew := aput_new (v := (b + 41, 0, [k])) hoo
      refine ⟨?_, ?_, ?_, ?_, ?_, ?_, hwn, fun p hp => ?_, ?_, ko, fun p hp => ?_, kw, ?_⟩
      · rw [Hp.set_other, Hp.set_other, Hp.set_other] <;> first | exact h5 | omega
      · rw [Hp.set_other, Hp.set_other, Hp.set_other] <;> first | exact h13 | omega
      · rw [Hp.set_other, Hp.set_other, Hp.set_other] <;> first | exact h10 | omega
      · rw [Hp.set_same]
      · rw [Hp.set_other, Hp.set_other, Hp.set_other] <;> first | exact h6 | omega
      · rw [Hp.set_other, Hp.set_other, Hp.set_other] <;> first | exact hw | omega
      · rw [hnew] at hp
        rcases List.mem_append.1 hp with hp | hp
        · have h1 := hon p hp
          have a1 := wne _ f40 h1
          have a2 := wne _ f41 h1
          have a3 : p.2.1 ≠ B + 11 := fun he => by rw [he, h11] at h1; cases h1
          rw [Hp.set_other, Hp.set_other, Hp.set_other] <;> first | exact h1 | omega
        · simp only [List.mem_singleton] at hp
          subst hp
          show ((H.set _ _).set (b + 41) _).set (B + 11) _ (b + 41) = _
          rw [Hp.set_other _ _ (by omega), Hp.set_same]
          rfl
      · rw [hnew]
        show (s.wa :: (s.on ++ [(o, b + 41, 0, [k])]).map fun p : K × (Nat × Nat × List K) => p.2.1).Nodup
        rw [List.map_append, ← List.cons_append, List.nodup_append]
        refine ⟨nd, by simp, fun x hx y hy => ?_⟩
        simp only [List.map_cons, List.map_nil, List.mem_singleton] at hy
        subst hy
        rcases List.mem_cons.1 hx with rfl | hx
        · exact hwa41
        · obtain ⟨p, hp, rfl⟩ := List.mem_map.1 hx
          exact wne _ f41 (hon p hp)
      · rw [hnew] at hp
        rcases List.mem_append.1 hp with hp | hp
        · exact kn p hp
        · simp only [List.mem_singleton] at hp
          subst hp
          exact ⟨hol, fun x hx => by simp at hx; rw [hx]; exact hkl, by simp⟩
      · rw [hnew]
        show ((s.on ++ [(o, b + 41, 0, [k])]).map fun p : K × (Nat × Nat × List K) => p.1).Nodup
        rw [List.map_append, List.nodup_append]
        refine ⟨nk, by simp, fun x hx y hy => ?_⟩
        simp only [List.map_cons, List.map_nil, List.mem_singleton] at hy
        subst hy
        obtain ⟨p, hp, rfl⟩ := List.mem_map.1 hx
        exact aget_none.1 hoo p hp
    · simp only [SS.A, SA.mk.injEq, true_and, and_true]
      funext x
      rw [aget_put]
      unfold upd
      by_cases hx : x = o
      · subst hx; simp [hoo]
      · simp [hx]
    · rw [Hp.set_other, Hp.set_other, Hp.set_other] <;> first | exact rfl | omega
    · have a1 : j ≠ b + 40 := by omega
      have a2 : j ≠ b + 41 := by omega
      have a3 : j ≠ B + 11 := by omega
      rw [Hp.set_other, Hp.set_other, Hp.set_other] <;> first | exact j2 | omega
  | some p =>
    obtain ⟨a, v, l⟩ := p
    rw [hoo] at hgn
    have hmem := aget_some hoo
    have ha := hon _ hmem
    simp only at ha
    have hAon : s.A.on o = l := by simp [SS.A, hoo]
    rw [hAon] at hb2
    have wne : ∀ j, H j = none → ∀ {i c}, H i = some c → i ≠ j := fun j hj i c hi he => by rw [he, hj] at hi; cases hi
    have a40 := wne _ f40 ha
    have a41 := wne _ f41 ha
    have a5 : a ≠ B + 5 := fun he => by rw [he, h5] at ha; cases ha
    have a13 : a ≠ B + 13 := fun he => by rw [he, h13] at ha; cases ha
    have a11 : a ≠ B + 11 := fun he => by rw [he, h11] at ha; cases ha
    have a10 : a ≠ B + 10 := fun he => by rw [he, h10] at ha; cases ha
    have a6 : a ≠ B + 6 := fun he => by rw [he, h6] at ha; cases ha
    have akb : a ≠ kb := fun he => by rw [he, hkb] at ha; cases ha
    have a4 : a ≠ b + 4 := fun he => by rw [he, hob] at ha; cases ha
    refine Wp.seq (Wp.draw (runDraw_notes (by kernel_rfl) (nts := ?nts2) (st' := ?st2) ?run2 ?chk2) ?_)
    case run2 =>
      simp -implicitDefEqProofs only [vm, vs, pairUp, Nat.reduceEqDiff, Nat.reduceAdd, Nat.reduceLeDiff, reduceIte, e1, e3, e4, h5, h13, h11, hob, hkb, eo, ek, hko, hgn, hbs H f40, Option.map_some, Option.getD_some, onD]
      rw [ap_arr (qy := 0) (es := l.map enc) (ys := [enc k])]
      rotate_left
      · simp only [hset_eq, a40, if_false]; exact ha
      · simp
      · simp only [hset_eq, if_true, hT.hz]
      · simp
      · omega
      · intro c hc
        simp only [List.mem_singleton] at hc
        subst hc
        exact ⟨by rw [enc_len]; exact hkl, enc_norm⟩
      · exact hb2
      simp -implicitDefEqProofs only [vm, vs, pairUp, Nat.reduceEqDiff, Nat.reduceAdd, Nat.reduceLeDiff, reduceIte, hset_eq, n11, Ne.symm a11, h11, hko, mapPut_enc (F := onD) hol (v := (a, v + 1, l ++ [k])) (fun p hp => (kn p hp).1), show D.arr a (v + 1) (l.length + 1) = onD (a, v + 1, l ++ [k]) by simp [onD], show (onD (a, v + 1, l ++ [k])).cells.all D.cellOk = true from rfl]
      rfl
    case chk2 =>
      have ho : openPairs [⟨some 28, .load false 1 (.t 1), none, []⟩,
  ⟨some 29, .nilchk (.t 28), none, [0]⟩,
  ⟨some 30, .faddr 2 (.t 29), none, [1]⟩,
  ⟨some 31, .load false 1 (.t 30), none, [2]⟩,
  ⟨some 32, .load true sz (.t 4), none, []⟩,
  ⟨some 33, .load false 1 (.t 1), none, []⟩,
  ⟨some 34, .nilchk (.t 33), none, [5]⟩,
  ⟨some 35, .faddr 2 (.t 34), none, [6]⟩,
  ⟨some 36, .load false 1 (.t 35), none, [7]⟩,
  ⟨some 37, .load true sz (.t 4), none, []⟩,
  ⟨some 38, .lookup (.flat (intKs sz)) .nilsl false (.t 36) (.t 37), none, [8, 9]⟩,
  ⟨some 39, .load true sz (.t 3), none, []⟩,
  ⟨some 40, .bsliceA zs 1 [(0, (.t 39))], none, [11]⟩,
  ⟨some 41, .append sz by_ (.t 38) (.t 40), none, [10, 12]⟩,
  ⟨none, .mapset (.flat (intKs sz)) (.t 31) (.t 32) (.t 41), none, [3, 4, 13, 13, 0, 1, 2, 3, 4, 5, 6, 7, 8, 9, 10, 11, 12, 13]⟩] = [(0, 4), (0, 5), (0, 6), (0, 7), (0, 8), (0, 9), (0, 10), (0, 11), (0, 12), (0, 13), (1, 4), (1, 5), (1, 6), (1, 7), (1, 8), (1, 9), (1, 10), (1, 11), (1, 12), (1, 13), (2, 4), (2, 5), (2, 6), (2, 7), (2, 8), (2, 9), (2, 10), (2, 11), (2, 12), (2, 13), (3, 4), (3, 5), (3, 6), (3, 7), (3, 8), (3, 9), (3, 10), (3, 11), (3, 12), (3, 13), (4, 5), (4, 6), (4, 7), (4, 8), (4, 9), (4, 10), (4, 11), (4, 12), (4, 13), (5, 9), (5, 11), (5, 12), (6, 9), (6, 11), (6, 12), (7, 9), (7, 11), (7, 12), (8, 9), (8, 11), (8, 12), (9, 11), (9, 12), (10, 11), (10, 12)] := by kernel_rfl
      rw [ho]
      simp [dynAt, dynOk, wkey, clearOf, VOp.isLocal, VOp.saw, VOp.quiet, VOp.frs, quietL, VOp.keys, VOp.opds, D.key1, ev_t, set_eq, put_some, put_none, e1, e3, e4, n5, n13, n11, n11', n5', n13', n11'', n41, n41', nk40, nk41, nk40', nk41', a40, a41, a5, a13, a11, a10, a6, akb, a4, Ne.symm a40, Ne.symm a41, Ne.symm a5, Ne.symm a13, Ne.symm a11, Ne.symm akb, Ne.symm a4]
      exact ⟨Ne.symm (wne _ (hfr 28 (by omega)) ha), Ne.symm (wne _ (hfr 31 (by omega)) ha), Ne.symm (wne _ (hfr 32 (by omega)) ha)⟩
    simp only [andThen_normal]
    refine Wp.seq (Wp_region ?_)
    simp -implicitDefEqProofs only [vm, vs, pairUp, Nat.reduceEqDiff, Nat.reduceAdd, Nat.reduceLeDiff, reduceIte, e6]
    refine Wp.ret ?_
    simp -implicitDefEqProofs only [vm, vs, pairUp, Nat.reduceEqDiff, Nat.reduceAdd, Nat.reduceLeDiff, reduceIte]
    have hwa40 := wne _ f40 hw
    have hwa41 := wne _ f41 hw
    have hwa11 : s.wa ≠ B + 11 := fun he => by rw [he, h11] at hw; cases hw
    have hwaa : s.wa ≠ a := fun he => (List.nodup_cons.1 nd).1 (List.mem_map.2 ⟨_, hmem, he.symm⟩)
    have huniq : ∀ q ∈ s.on, q.1 ≠ o → q.2.1 ≠ a := by
      intro q hq hne he
      have h1 := (List.nodup_cons.1 nd).2
      obtain ⟨i, hi, rfl⟩ := List.getElem_of_mem hq
      obtain ⟨j, hj, hje⟩ := List.getElem_of_mem hmem
      have : i = j := (List.getElem_inj (xs := s.on.map fun p => p.2.1) (i := i) (j := j) (h₀ := by simpa using hi) (h₁ := by simpa using hj) h1).1 (by simp [hje, he])
      subst this
      rw [hje] at hne
      exact hne rfl
    refine hQ _ { s with on := aput o (a, v + 1, l ++ [k]) s.on } ?_ ?_ (fun j j1 j2 j3 j4 => ?_) (fun j j1 j2 => ?_)
    · refine ⟨?_, ?_, ?_, ?_, ?_, ?_, hwn, fun p hp => ?_, ?_, ko, fun p hp => ?_, kw, ?_⟩
      · rw [Hp.set_other, Hp.set_other, Hp.set_other] <;> first | exact h5 | omega
      · rw [Hp.set_other, Hp.set_other, Hp.set_other] <;> first | exact h13 | omega
      · rw [Hp.set_other, Hp.set_other, Hp.set_other] <;> first | exact h10 | omega
      · rw [Hp.set_same]
      · rw [Hp.set_other, Hp.set_other, Hp.set_other] <;> first | exact h6 | omega
      · rw [Hp.set_other, Hp.set_other, Hp.set_other] <;> first | exact hw | omega
      · rcases aput_split nk hp with rfl | ⟨hp, hne⟩
        · show ((H.set _ _).set a _).set (B + 11) _ a = _
          rw [Hp.set_other _ _ a11, Hp.set_same]
          simp [arrC, List.take_of_length_le]
        · have h1 := hon p hp
          have b1 := wne _ f40 h1
          have b3 : p.2.1 ≠ B + 11 := fun he => by rw [he, h11] at h1; cases h1
          have b4 := huniq p hp hne
          rw [Hp.set_other, Hp.set_other, Hp.set_other] <;> first | exact h1 | omega
      · have := aput_old (f := fun p : K × (Nat × Nat × List K) => p.2.1) (v := (a, v + 1, l ++ [k])) (v0 := (a, v, l)) rfl hoo
        show (s.wa :: (aput o (a, v + 1, l ++ [k]) s.on).map fun p : K × (Nat × Nat × List K) => p.2.1).Nodup
        rw [this]; exact nd
      · rcases aput_split nk hp with rfl | ⟨hp, hne⟩
        · refine ⟨hol, fun x hx => ?_, by simp⟩
          rcases List.mem_append.1 hx with hx | hx
          · exact (kn _ hmem).2.1 x hx
          · simp only [List.mem_singleton] at hx; rw [hx]; exact hkl
        · exact kn p hp
      · have := aput_old (f := fun p : K × (Nat × Nat × List K) => p.1) (v := (a, v + 1, l ++ [k])) (v0 := (a, v, l)) rfl hoo
        show ((aput o (a, v + 1, l ++ [k]) s.on).map fun p : K × (Nat × Nat × List K) => p.1).Nodup
        rw [this]; exact nk
    · simp only [SS.A, SA.mk.injEq, true_and, and_true]
      funext x
      rw [aget_put]
      unfold upd
      by_cases hx : x = o
      · subst hx; simp [hoo]
      · simp [hx]
    · have : j ≠ a := fun he => j4 _ _ _ (by rw [he]; exact ha)
      rw [Hp.set_other, Hp.set_other, Hp.set_other] <;> first | exact rfl | omega
    · have a1 : j ≠ b + 40 := by omega
      have a3 : j ≠ B + 11 := by omega
      have a2 : j ≠ a := fun he => by rw [he, ha] at j2; cases j2
      rw [Hp.set_other, Hp.set_other, Hp.set_other] <;> first | exact j2 | omega

theorem hold_ok (hT : HoldT T sz by_ zs fH) (hr : Rep sz B rule H s) (hd : Dom H b) (hB : B + 4096 ≤ b) (hkb : H kb = some (.vars (enc k))) (hkl : k.length = sz) (hol : o.length = sz)
    (hb1 : by_ * (s.A.work.length + 1) ≤ roomBytes) (hb2 : by_ * ((s.A.on o).length + 1) ≤ roomBytes) :
    ∃ r H' g', (callL T).shared fH [.agg (enc o), .box (B + 5) 0, .box (B + 6) 0, .box kb 0] H (b, ()) = some (r, H', g') ∧ (r = .bool (ans s.A o) ∧ g' = (b + roomKeys, ()) ∧ Dom H' (b + roomKeys) ∧ Frame B b H H' ∧ ∃ s', Rep sz B rule H' s' ∧ s'.A = hold1 k o s.A) := by
  obtain ⟨h5, h13, h10, h11, h6, hw, hwn, hon, nd, ko, kn, kw, nk⟩ := hr
  have hfree : ∀ i, H (b + i) = none := fun i => hd _ (by omega)
  have n5 : ∀ i, (B + 5 = b + i) = False := fun i => by simp; omega
  have n6 : ∀ i, (B + 6 = b + i) = False := fun i => by simp; omega
  have n10 : ∀ i, (B + 10 = b + i) = False := fun i => by simp; omega
  have n11 : ∀ i, (B + 11 = b + i) = False := fun i => by simp; omega
  have n13 : ∀ i, (B + 13 = b + i) = False := fun i => by simp; omega
  have m5 : ∀ i, (b + i = B + 5) = False := fun i => by simp; omega
  have m6 : ∀ i, (b + i = B + 6) = False := fun i => by simp; omega
  have m10 : ∀ i, (b + i = B + 10) = False := fun i => by simp; omega
  have m11 : ∀ i, (b + i = B + 11) = False := fun i => by simp; omega
  have hkbl : kb < b := by
    rcases Nat.lt_or_ge kb b with h | h
    · exact h
    · rw [hd kb h] at hkb; cases hkb
  have nkb : ∀ i, (kb = b + i) = False := fun i => by simp; omega
  have kb10 : (kb = B + 10) = False := by simp; rintro rfl; rw [h10] at hkb; cases hkb
  have kb11 : (kb = B + 11) = False := by simp; rintro rfl; rw [h11] at hkb; cases hkb
  have eo := enc_part hol
  have ek := enc_part hkl
  have hgo := mapGet_enc (F := D.bool) hol ko
  have hgn := mapGet_enc (F := onD) hol (fun p hp => (kn p hp).1)
  have hko := keyOk_enc hol
  refine fnS_of hT.prim hT.code (by rfl) rfl ?_
  unfold holdCode
  refine Wp.seq (Wp_region ?_)
  simp -implicitDefEqProofs only [vm, vs, pairUp, Nat.reduceEqDiff, Nat.reduceAdd, Nat.reduceLeDiff, reduceIte, enc_ok, hfree]
  refine Wp.seq (Wp_effs (by kernel_rfl) (by simp -implicitDefEqProofs only [vm, vs, pairUp, Nat.reduceEqDiff, Nat.reduceAdd, Nat.reduceLeDiff, reduceIte, h5, h13, h10, n5, n13, n10, eo, hko, hgo, List.getElem?_cons_zero, List.getElem?_cons_succ]; rfl) (by kernel_rfl) ?_)
  simp only [andThen_normal]
  have hA : s.A.out o = aget o s.out := rfl
  cases hout : aget o s.out with
  | none =>
    have hn : ans s.A o = true := by unfold ans; rw [hA, hout]; rfl
    have hgo' := hgo
    rw [hout] at hgo
    refine Wp.seq (Wp.seq (Wp_region ?_))
    simp -implicitDefEqProofs only [vm, vs, pairUp, Nat.reduceEqDiff, Nat.reduceAdd, Nat.reduceLeDiff, reduceIte, Option.map_none, Option.isSome_none, Option.getD_none]
    refine Wp.condT rfl (Wp.seq (Wp_effs (by kernel_rfl) (by simp -implicitDefEqProofs only [vm, vs, pairUp, Nat.reduceEqDiff, Nat.reduceAdd, Nat.reduceLeDiff, reduceIte, h5, h13, h10, n5, n13, n10, eo, hko, mapPut_enc (F := D.bool) hol (v := true) ko]; rfl) (by kernel_rfl) ?_))
    simp only [andThen_normal]
    refine Wp.seq (Wp_region ?_)
    simp -implicitDefEqProofs only [vm, vs, pairUp, Nat.reduceEqDiff, Nat.reduceAdd, Nat.reduceLeDiff, reduceIte]
    have hz : zs.length = o.length := by rw [hT.hz, hol]
    have hbs := fun (H : Hp) (h : H (b + 26) = none) => bsO_enc (G := Unit) (H := H) (g := (b + roomKeys, ())) hz (by rw [hol]; exact hT.hs) h
    refine Wp_region ?_
    simp -implicitDefEqProofs only [vm, vs, pairUp, Nat.reduceEqDiff, Nat.reduceAdd, Nat.reduceLeDiff, reduceIte, h6, n6, m10, eo, Nat.add_left_cancel_iff]
    rw [hbs]
    rotate_left
    · simp only [hset_eq, m10, Nat.add_left_cancel_iff, Nat.reduceEqDiff, if_false, hfree]
    simp -implicitDefEqProofs only [vm, vs, pairUp, Nat.reduceEqDiff, Nat.reduceAdd, Nat.reduceLeDiff, reduceIte]
    have wfree : ∀ i, s.wa ≠ b + i := fun i he => by rw [he, hfree] at hw; cases hw
    have hwa10 : s.wa ≠ B + 10 := fun he => by rw [he, h10] at hw; cases hw
    have hwa6 : s.wa ≠ B + 6 := fun he => by rw [he, h6] at hw; cases hw
    have hwa5 : s.wa ≠ B + 5 := fun he => by rw [he, h5] at hw; cases hw
    have hwa11 : s.wa ≠ B + 11 := fun he => by rw [he, h11] at hw; cases hw
    have hwa13 : s.wa ≠ B + 13 := fun he => by rw [he, h13] at hw; cases hw
    have hwakb : s.wa ≠ kb := fun he => by rw [he, hkb] at hw; cases hw
    rw [ap_arr (qy := 0) (es := s.wes.map enc) (ys := [enc o])]
    rotate_left
    · rw [Hp.set_other, Hp.set_other, Hp.set_other]
      · exact hw
      · exact wfree 4
      · exact hwa10
      · exact wfree 26
    · simpa using hwn
    · rw [Hp.set_same, hT.hz]
    · simp
    · omega
    · intro c hc
      simp only [List.mem_singleton] at hc
      subst hc
      exact ⟨by rw [enc_len]; exact hol, enc_norm⟩
    · have : s.A.work.length = s.wn := by simp [SS.A]; omega
      rw [← this]; exact hb1
    simp -implicitDefEqProofs only [vm, vs, pairUp, Nat.reduceEqDiff, Nat.reduceAdd, Nat.reduceLeDiff, reduceIte, h6, n6, Ne.symm hwa6]
    have f4096 : roomKeys = 4096 := rfl
    have hkeep : ∀ j, (∀ a c e, H j ≠ some (.arr a c e)) → j ≠ b + 4 → j ≠ B + 10 → j ≠ b + 26 → j ≠ B + 6 → (((((H.set (b + 4) (HC.vars (enc o))).set (B + 10) (HC.mp (amap D.bool (aput o true s.out)))).set (b + 26) (HC.arr zs.length 0 [enc o])).set s.wa (HC.arr sz (s.wv + 1) (List.take s.wn (List.map enc s.wes) ++ [enc o]))).set (B + 6) (.vars [.arr s.wa (s.wv + 1) (s.wn + 1)])) j = H j := by
      intro j ha j1 j2 j3 j4
      have : j ≠ s.wa := fun he => ha _ _ _ (by rw [he]; exact hw)
      rw [Hp.set_other _ _ j4, Hp.set_other _ _ this, Hp.set_other _ _ j3, Hp.set_other _ _ j2, Hp.set_other _ _ j1]
    have hvs : ∀ {j c}, H j = some c → c.isV = true → ∀ a d e, H j ≠ some (.arr a d e) := fun {j c} h hv a d e h' => by
      rw [h] at h'
      obtain rfl := Option.some.inj h'
      cases hv
    refine hold_tail hT (rule := rule) (s := { s with out := aput o true s.out, wv := s.wv + 1, wn := s.wn + 1, wes := s.wes.take s.wn ++ [o] }) (k := k) (o := o) ?_ hB ?_ hkl hol ?_ ?_ hkbl rfl rfl rfl rfl hb2 ?_
    · refine ⟨?_, ?_, ?_, ?_, Hp.set_same _ _ _, ?_, by simp; omega, fun p hp => ?_, nd, fun p hp => ?_, kn, fun x hx => ?_, nk⟩
      · rw [hkeep _ (hvs h5 rfl) (by omega) (by omega) (by omega) (by omega)]; exact h5
      · rw [hkeep _ (hvs h13 rfl) (by omega) (by omega) (by omega) (by omega)]; exact h13
      · rw [Hp.set_other _ _ (by omega), Hp.set_other _ _ (Ne.symm hwa10), Hp.set_other _ _ (by omega), Hp.set_same]
      · rw [hkeep _ (hvs h11 rfl) (by omega) (by omega) (by omega) (by omega)]; exact h11
      · show (Hp.set _ (B + 6) _) s.wa = _
        rw [Hp.set_other _ _ hwa6, Hp.set_same]
        simp [arrC, List.map_take]
      · have h1 := hon p hp
        have hne : p.2.1 ≠ s.wa := fun he => (List.nodup_cons.1 nd).1 (List.mem_map.2 ⟨p, hp, he⟩)
        have g1 : ∀ i, p.2.1 ≠ b + i := fun i he => by rw [he, hfree] at h1; cases h1
        have g6 : p.2.1 ≠ B + 6 := fun he => by rw [he, h6] at h1; cases h1
        have g10 : p.2.1 ≠ B + 10 := fun he => by rw [he, h10] at h1; cases h1
        rw [Hp.set_other _ _ g6, Hp.set_other _ _ hne, Hp.set_other _ _ (g1 26), Hp.set_other _ _ g10, Hp.set_other _ _ (g1 4)]; exact h1
      · rw [aput_new hout] at hp
        rcases List.mem_append.1 hp with hp | hp
        · exact ko p hp
        · simp only [List.mem_singleton] at hp; subst hp; exact hol
      · rcases List.mem_append.1 hx with hx | hx
        · exact kw x (List.mem_of_mem_take hx)
        · simp only [List.mem_singleton] at hx; subst hx; exact hol
    · rw [hkeep _ (hvs hkb rfl) (by omega) (by rw [ne_eq, kb10]; exact id) (by omega) (fun he => by rw [he, h6] at hkb; simp at hkb; cases k <;> simp [enc] at hkb)]; exact hkb
    · rw [Hp.set_other _ _ (by omega), Hp.set_other _ _ (Ne.symm (wfree 4)), Hp.set_other _ _ (by omega), Hp.set_other _ _ (by omega), Hp.set_same]
    · intro i hi
      rw [Hp.set_other _ _ (by omega), Hp.set_other _ _ (Ne.symm (wfree i)), Hp.set_other _ _ (by omega), Hp.set_other _ _ (by omega), Hp.set_other _ _ (by omega)]; exact hfree i
    intro H' s' r1 r2 r3 r4
    refine ⟨by rw [hn], rfl, fun j hj => r4 j (by omega) ?_, fun j j1 j2 j3 j4 j5 => ?_, s', r1, ?_⟩
    · have hj0 := hd j (by omega)
      rw [Hp.set_other _ _ (by omega), Hp.set_other _ _ (fun he => by rw [he, hw] at hj0; cases hj0), Hp.set_other _ _ (by omega), Hp.set_other _ _ (by omega), Hp.set_other _ _ (by omega)]; exact hj0
    · rw [r3 j (by omega) (by omega) j4 (fun a c e => by rw [hkeep j j5 (by omega) j3 (by omega) j2]; exact j5 a c e), hkeep j j5 (by omega) j3 (by omega) j2]
    · rw [r2]; unfold hold1; rw [hA, hout]
      simp only [SA.mk.injEq]
      refine ⟨?_, rfl, ?_⟩
      · funext x
        show aget x (aput o true s.out) = _
        rw [aget_put]; rfl
      · show (s.wes.take s.wn ++ [o]).take (s.wn + 1) = s.wes.take s.wn ++ [o]
        exact List.take_of_length_le (by simp; omega)
  | some now =>
    have hn : ans s.A o = now := by unfold ans; rw [hA, hout]; rfl
    refine Wp.seq (Wp.seq (Wp_region ?_))
    simp -implicitDefEqProofs only [vm, vs, pairUp, Nat.reduceEqDiff, Nat.reduceAdd, Nat.reduceLeDiff, reduceIte, Option.map_some, Option.isSome_some, Option.getD_some]
    refine Wp.condF rfl (Wp.skip ?_)
    simp -implicitDefEqProofs only [vm, vs, pairUp, Nat.reduceEqDiff, Nat.reduceAdd, Nat.reduceLeDiff, reduceIte]
    refine hold_tail hT (s := s) (k := k) (o := o) (Rep.set ⟨h5, h13, h10, h11, h6, hw, hwn, hon, nd, ko, kn, kw, nk⟩ (by omega) (fun a c e => by rw [hfree]; simp)) hB (by rw [Hp.set_other _ _ (by omega)]; exact hkb) hkl hol (Hp.set_same _ _ _) (fun i hi => by rw [Hp.set_other _ _ (by omega)]; exact hfree i) hkbl rfl rfl rfl rfl hb2 ?_
    intro H' s' r1 r2 r3 r4
    refine ⟨by rw [hn], rfl, fun j hj => r4 j (by have : roomKeys = 4096 := rfl; omega) (by rw [Hp.set_other _ _ (by have : roomKeys = 4096 := rfl; omega)]; exact hd j (by have : roomKeys = 4096 := rfl; omega)), fun j j1 j2 j3 j4 j5 => ?_, s', r1, ?_⟩
    · rw [r3 j (by omega) (by omega) j4 (fun a c e => by rw [Hp.set_other _ _ (by omega)]; exact j5 a c e), Hp.set_other _ _ (by omega)]
    · rw [r2]; unfold hold1; rw [hA, hout]
end
end Go.VM
end

section
set_option linter.all false
set_option maxRecDepth 100000
namespace Go.VM
open Go Go.Sv

theorem Frame.trans {B b : Nat} {H H1 H2 : Hp} (h : Frame B b H H1) (h' : Frame B b H1 H2) : Frame B b H H2 := fun j j1 j2 j3 j4 j5 => by
  have e := h j j1 j2 j3 j4 j5
  rw [h' j j1 j2 j3 j4 (fun a c d => by rw [e]; exact j5 a c d), e]
theorem Frame.mono {B b n : Nat} {H H1 : Hp} (h : Frame B n H H1) (hb : b ≤ n) : Frame B b H H1 := fun j j1 => h j (by omega)
theorem Frame.refl {B b : Nat} {H : Hp} : Frame B b H H := fun _ _ _ _ _ _ => rfl
/-- A write to one of Solve's own, or to an array, or above. -/
theorem Frame.set {B b : Nat} {H : Hp} {k : Nat} {c : HC} (h : k = B + 6 ∨ k = B + 10 ∨ k = B + 11 ∨ b ≤ k ∨ ∃ a d e, H k = some (.arr a d e)) : Frame B b H (H.set k c) := fun j j1 j2 j3 j4 j5 => by
  refine Hp.set_other H _ ?_
  rintro rfl
  rcases h with h | h | h | h | ⟨a, d, e, h⟩
  · exact j2 h
  · exact j3 h
  · exact j4 h
  · omega
  · exact j5 _ _ _ h
theorem Dom.mono {H : Hp} {n m : Nat} (h : Dom H n) (hm : n ≤ m) : Dom H m := fun j hj => h j (by omega)
theorem Dom.set {H : Hp} {n k : Nat} {c : HC} (h : Dom H n) (hk : k < n) : Dom (H.set k c) n := fun j hj => by rw [Hp.set_other _ _ (by omega)]; exact h j hj

section
variable {T : Tab Unit} {sz by_ B : Nat} {zs : List D} {fH fid : FuncId} {caps : List D} {H : Hp} {s : SS} {b n : Nat} {k : K} {R : Rule} {C : Hp → Prop}
/-- What is asked of the rule. -/
structure RuleOk (T : Tab Unit) (sz by_ B : Nat) (fH fid : FuncId) (caps : List D) (R : Rule) (C : Hp → Prop) : Prop where
  sh : (callL T).sh fH = true
  stab : ∀ H H', C H → Frame B B H H' → C H'
  call : ∀ H n s k kb, Rep sz B (.fnS fid caps) H s → Dom H n → B + 4096 ≤ n → B + 4096 ≤ kb → kb < n → H kb = some (.vars (enc k)) → C H → k ∈ R.U →
    by_ * ((askL k (R.asks k) s.A).work.length + 1) ≤ roomBytes → (∀ o, by_ * ((askL k (R.asks k) s.A).on o).length ≤ roomBytes) →
    ∃ H' g', (callL T).shared fid ([.agg (enc k), .fnS fH [.box (B + 5) 0, .box (B + 6) 0, .box kb 0]] ++ caps) H (n, ()) = some (.bool (R.res k ((R.asks k).map (ans s.A))), H', g') ∧
      n ≤ g'.1 ∧ Dom H' g'.1 ∧ Frame B n H H' ∧ ∃ s', Rep sz B (.fnS fid caps) H' s' ∧ s'.A = askL k (R.asks k) s.A

theorem aget_del {β : Type} {k : K} : ∀ {l : List (K × β)}, (l.map fun p => p.1).Nodup → ∀ x, aget x (adel k l) = if x = k then none else aget x l
  | [], _, x => by simp [adel, aget]
  | p :: ps, hn, x => by
    obtain ⟨h1, h2⟩ := List.nodup_cons.1 hn
    have ih := aget_del (k := k) h2 x
    simp only [adel]
    by_cases he : k = p.1
    · rw [if_pos he]
      by_cases hx : x = k
      · rw [if_pos hx]
        refine aget_none.2 fun q hq e => h1 (List.mem_map.2 ⟨q, hq, ?_⟩)
        rw [e, hx, he]
      · rw [if_neg hx]
        simp only [aget]
        rw [if_neg (by rw [← he]; exact hx)]
    · rw [if_neg he]
      simp only [aget, ih]
      by_cases hx : x = k
      · subst hx
        simp [he]
      · simp [hx]
theorem adel_sub {β : Type} {k : K} : ∀ {l : List (K × β)}, (adel k l).Sublist l
  | [] => .slnil
  | p :: ps => by
    simp only [adel]
    split
    · exact List.sublist_cons_self _ _
    · exact (adel_sub (l := ps)).cons_cons _

theorem roundB_ok (hT : HoldT T sz by_ zs fH) (hR : R.Ok) (hrule : RuleOk T sz by_ B fH fid caps R C) {A : SA} {E : K → Nat} {w : List K} {e : Env} {Q : Ex → St Unit → Prop} (hi : Sv.Inv R A E) (hw : A.work = w ++ [k]) (hr : Rep sz B (.fnS fid caps) H s) (hs : s.A = ⟨A.out, A.on, w⟩) (hC : C H)
    (hd : Dom H (b + 4096)) (hB : B + 4096 ≤ b) (hkb : H (b + 7) = some (.vars (enc k))) (hkl : k.length = sz) (hroom : by_ * (R.U.length * 10240) ≤ roomBytes)
    (e5 : e 5 = some (.box (B + 5) 0)) (e6 : e 6 = some (.box (B + 6) 0)) (e7 : e 7 = some (.box (b + 7) 0))
    (hQ : ∀ ex e' H' n' s' E', ex = .normal ∨ ex = .exit 1 → e' 5 = e 5 → e' 6 = e 6 → e' 2 = e 2 → Rep sz B (.fnS fid caps) H' s' → Sv.Inv R s'.A E' → left R s'.A < left R A → (∀ x, A.out x ≠ none → s'.A.out x ≠ none) → C H' → Dom H' n' → b + 4096 ≤ n' → Frame B b H H' → Q ex ⟨e', H', (n', ()), b⟩) :
    Wp (callL T) (roundB sz by_ (intKs sz) fH) ⟨e, H, (b + 4096, ()), b⟩ Q := by
  have hkU : k ∈ R.U := hi.dom k (hi.wU k (by rw [hw]; simp))
  have hcopy := hr
  obtain ⟨h5, h13, h10, h11, h6, hwa, hwn, hon, nd, ko, kn, kw, nk⟩ := hr
  have ek := enc_part hkl
  have hko := keyOk_enc hkl
  have hgo := mapGet_enc (F := D.bool) hkl ko
  have hA : A.out k = aget k s.out := by
    have : s.A.out k = A.out k := by rw [hs]
    rw [← this]; rfl
  unfold roundB
  have hcase : A.out k = some true ∨ A.out k ≠ some true := by
    cases A.out k with
    | none => right; simp
    | some x => cases x <;> simp
  rcases hcase with hk | hk
  rotate_left
  · -- false already
    have hv : ((Option.map D.bool (aget k s.out)).getD (D.bool false)) = .bool false := by
      rw [← hA]
      cases hx : A.out k with
      | none => rfl
      | some x =>
        cases x with
        | false => rfl
        | true => exact absurd hx hk
    refine Wp.seq (Wp.seq (Wp_effs (by kernel_rfl) (by simp -implicitDefEqProofs only [vm, vs, pairUp, Nat.reduceEqDiff, Nat.reduceAdd, Nat.reduceLeDiff, reduceIte, e5, e7, h5, h13, h10, hkb, ek, hko, hgo, hv, List.getElem?_cons_zero, List.getElem?_cons_succ]; rfl) (by kernel_rfl) ?_))
    simp only [andThen_normal]
    refine Wp.condT rfl (Wp.exit ?_)
    simp -implicitDefEqProofs only [vm, vs, pairUp, Nat.reduceEqDiff, Nat.reduceAdd, Nat.reduceLeDiff, reduceIte]
    obtain ⟨i1, i2⟩ := Sv.step_skip hi hw hk
    refine hQ _ _ _ _ s E (.inr rfl) rfl rfl rfl hcopy (by rw [hs]; exact i1) (by rw [hs]; exact i2) (fun x hx => by rw [hs]; exact hx) hC hd (Nat.le_refl _) Frame.refl
  have hv : ((Option.map D.bool (aget k s.out)).getD (D.bool false)) = .bool true := by rw [← hA, hk]; rfl
  refine Wp.seq (Wp.seq (Wp_effs (by kernel_rfl) (by simp -implicitDefEqProofs only [vm, vs, pairUp, Nat.reduceEqDiff, Nat.reduceAdd, Nat.reduceLeDiff, reduceIte, e5, e7, h5, h13, h10, hkb, ek, hko, hgo, hv, List.getElem?_cons_zero, List.getElem?_cons_succ]; rfl) (by kernel_rfl) ?_))
  simp only [andThen_normal]
  refine Wp.condF rfl (Wp.skip ?_)
  simp -implicitDefEqProofs only [vm, vs, pairUp, Nat.reduceEqDiff, Nat.reduceAdd, Nat.reduceLeDiff, reduceIte]
  obtain ⟨i1, i2, i3, i4, i5, i6, i7, i8⟩ := asked_inv hR hi hw hk
  obtain ⟨b1, b2⟩ := bound_of hR i1 i2 i3 i5 i6
  have hask : askL k (R.asks k) s.A = asked R A w k := by rw [hs]; rfl
  obtain ⟨H1, ⟨n1, u1⟩, c1, c2, c3, c4, s1, c5, c6⟩ := hrule.call H (b + 4096) s k (b + 7) hcopy hd (by omega) (by omega) (by omega) hkb hC hkU (by rw [hask]; have : 0 < R.U.length := List.length_pos_of_mem hkU; exact Nat.le_trans (Nat.mul_le_mul_left _ (by omega)) hroom) (fun o => by rw [hask]; exact Nat.le_trans (Nat.mul_le_mul_left _ (b2 o)) hroom)
  have hans : (R.asks k).map (ans s.A) = (R.asks k).map (ans A) := by
    refine List.map_congr_left fun o _ => ?_
    unfold ans; rw [hs]
  rw [hans] at c1
  rw [hask] at c6
  simp only at c2 c3
  simp only [List.cons_append, List.nil_append] at c1
  refine Wp.seq (Wp_effs (by kernel_rfl) (by simp -implicitDefEqProofs only [vm, vs, pairUp, Nat.reduceEqDiff, Nat.reduceAdd, Nat.reduceLeDiff, reduceIte, e5, e6, e7, h5, h13, hkb, ek, hrule.sh, List.getElem?_cons_zero, List.getElem?_cons_succ, c1]; rfl) (by kernel_rfl) ?_)
  simp only [andThen_normal]
  refine Wp.seq (Wp.seq (Wp_region ?_))
  simp -implicitDefEqProofs only [vm, vs, pairUp, Nat.reduceEqDiff, Nat.reduceAdd, Nat.reduceLeDiff, reduceIte]
  have hkb1 : H1 (b + 7) = some (.vars (enc k)) := by
    rw [c4 (b + 7) (by omega) (by omega) (by omega) (by omega) (by rw [hkb]; simp)]; exact hkb
  have hgrow : ∀ x, A.out x ≠ none → s1.A.out x ≠ none := fun x hx => by
    rw [c6, asked_out, if_neg (fun h => hx h.1)]; exact hx
  have hC1 : C H1 := hrule.stab H H1 hC (c4.mono (by omega))
  obtain ⟨h5', h13', h10', h11', h6', hwa', hwn', hon', nd', ko', kn', kw', nk'⟩ := c5
  cases hres : R.res k ((R.asks k).map (ans A)) with
  | true =>
    obtain ⟨j1, j2⟩ := step_true hR hi hw hk hres
    refine Wp.condT rfl (Wp.exit ?_)
    simp -implicitDefEqProofs only [vm, vs, pairUp, Nat.reduceEqDiff, Nat.reduceAdd, Nat.reduceLeDiff, reduceIte]
    exact hQ _ _ _ _ s1 _ (.inr rfl) rfl rfl rfl ⟨h5', h13', h10', h11', h6', hwa', hwn', hon', nd', ko', kn', kw', nk'⟩ (by rw [c6]; exact j1) (by rw [c6]; exact j2) hgrow hC1 c3 c2 (c4.mono (by omega))
  | false =>
    obtain ⟨j1, j2⟩ := step_false hR hi hw hk hres
    obtain ⟨b3, _⟩ := j1.bound hR
    refine Wp.condF rfl (Wp.skip ?_)
    simp -implicitDefEqProofs only [vm, vs, pairUp, Nat.reduceEqDiff, Nat.reduceAdd, Nat.reduceLeDiff, reduceIte]
    have n10 : (B + 5 = B + 10) = False := by simp
    have n13 : (B + 13 = B + 10) = False := by simp
    have nb : (b + 7 = B + 10) = False := by simp; omega
    have nb6 : (b + 7 = B + 6) = False := by simp; omega
    refine Wp.seq (Wp_effs (by kernel_rfl) (by simp -implicitDefEqProofs only [vm, vs, pairUp, Nat.reduceEqDiff, Nat.reduceAdd, Nat.reduceLeDiff, reduceIte, e5, e7, h5', h13', h10', hkb1, ek, hko, List.getElem?_cons_zero, List.getElem?_cons_succ, mapPut_enc (F := D.bool) hkl (v := false) ko']; rfl) (by kernel_rfl) ?_)
    simp only [andThen_normal]
    have hgn := mapGet_enc (F := onD) hkl (fun p hp => (kn' p hp).1)
    have ha10 : ∀ {j z v es}, H1 j = some (.arr z v es) → j ≠ B + 10 ∧ j ≠ B + 6 ∧ j ≠ B + 11 ∧ j ≠ B + 5 ∧ j ≠ B + 13 ∧ j ≠ b + 7 := fun {j z v es} h =>
      ⟨fun he => (by rw [he, h10'] at h; cases h), fun he => (by rw [he, h6'] at h; cases h), fun he => (by rw [he, h11'] at h; cases h), fun he => (by rw [he, h5'] at h; cases h), fun he => (by rw [he, h13'] at h; cases h), fun he => (by rw [he, hkb1] at h; cases h)⟩
    obtain ⟨w1, w2, w3, w4, w5, w6⟩ := ha10 hwa'
    have hout : ∀ x, s1.A.out x = aget x s1.out := fun x => rfl
    have hgrow2 : ∀ x, A.out x ≠ none → (fell s1.A k).out x ≠ none := fun x hx => by
      unfold fell upd
      by_cases hxk : x = k
      · simp [hxk]
      · simp [hxk]; exact hgrow x hx
    cases hoo : aget k s1.on with
    | none =>
      rw [hoo] at hgn
      have hel : elems (H1.set (B + 10) (.mp (amap D.bool (aput k false s1.out)))) (.arr s1.wa s1.wv s1.wn) = some ((s1.wes.map enc).take s1.wn) := by
        simp only [elems, Hp.set_other _ _ w1, hwa', arrC]
        rw [if_pos ⟨trivial, by simpa using hwn'⟩]
      refine Wp.seq (Wp_effs (by kernel_rfl) (by simp -implicitDefEqProofs only [vm, vs, pairUp, Nat.reduceEqDiff, Nat.reduceAdd, Nat.reduceLeDiff, reduceIte, hset_eq, Nat.add_left_cancel_iff, Nat.reduceEqDiff, nb, nb6, if_false, e5, e6, e7, h5', h6', h13', h11', hkb1, ek, hko, hgn, Option.map_none, Option.getD_none, List.getElem?_cons_zero, List.getElem?_cons_succ, ap_zero hel]; rfl) (by kernel_rfl) ?_)
      simp only [andThen_normal]
      refine Wp_effs (by kernel_rfl) (by simp -implicitDefEqProofs only [vm, vs, pairUp, Nat.reduceEqDiff, Nat.reduceAdd, Nat.reduceLeDiff, reduceIte, hset_eq, Nat.add_left_cancel_iff, Nat.reduceEqDiff, nb, nb6, if_false, e5, e6, e7, h5', h6', h13', h11', hkb1, ek, hko, mapDel_enc (F := onD) hkl (fun p hp => (kn' p hp).1), List.getElem?_cons_zero, List.getElem?_cons_succ]; rfl) (by kernel_rfl) ?_
      have hkeep : ∀ j, j ≠ B + 6 → j ≠ B + 10 → j ≠ B + 11 → (((H1.set (B + 10) (.mp (amap D.bool (aput k false s1.out)))).set (B + 6) (.vars [.arr s1.wa s1.wv s1.wn])).set (B + 11) (.mp (amap onD (adel k s1.on)))) j = H1 j := fun j g1 g2 g3 => by
        rw [Hp.set_other _ _ g3, Hp.set_other _ _ g1, Hp.set_other _ _ g2]
      have hfr : Frame B b H1 (((H1.set (B + 10) (.mp (amap D.bool (aput k false s1.out)))).set (B + 6) (.vars [.arr s1.wa s1.wv s1.wn])).set (B + 11) (.mp (amap onD (adel k s1.on)))) := fun j _ g1 g2 g3 _ => hkeep j g1 g2 g3
      have hA' : (⟨aput k false s1.out, adel k s1.on, s1.wa, s1.wv, s1.wn, s1.wes⟩ : SS).A = fell s1.A k := by
        unfold SS.A fell
        simp only [SA.mk.injEq]
        refine ⟨?_, ?_, ?_⟩
        · funext x; rw [aget_put]; rfl
        · funext x; rw [aget_del nk']; unfold upd; split <;> simp_all
        · simp [hoo]
      refine hQ _ _ _ _ ⟨aput k false s1.out, adel k s1.on, s1.wa, s1.wv, s1.wn, s1.wes⟩ (E1 E k) (.inl rfl) rfl rfl rfl ?_ (by rw [hA', c6]; exact j1) (by rw [hA', c6]; exact j2) (by rw [hA']; exact hgrow2) (hrule.stab _ _ hC1 (hfr.mono (by omega))) ?_ c2 ((c4.mono (by omega)).trans hfr)
      · refine ⟨?_, ?_, ?_, Hp.set_same _ _ _, ?_, ?_, hwn', fun p hp => ?_, ?_, fun p hp => ?_, fun p hp => kn' p (adel_sub.subset hp), kw', ?_⟩
        · rw [hkeep _ (by omega) (by omega) (by omega)]; exact h5'
        · rw [hkeep _ (by omega) (by omega) (by omega)]; exact h13'
        · rw [Hp.set_other _ _ (by omega), Hp.set_other _ _ (by omega), Hp.set_same]
        · rw [Hp.set_other _ _ (by omega), Hp.set_same]
        · rw [hkeep _ w2 w1 w3]; exact hwa'
        · have h1 := hon' p (adel_sub.subset hp)
          obtain ⟨a1, a2, a3, _⟩ := ha10 h1
          rw [hkeep _ a2 a1 a3]; exact h1
        · exact nd'.sublist ((adel_sub.map _).cons_cons _)
        · rcases aput_mem hp with h | h | h | h
          · rw [h]; exact hkl
          · exact ko' p h.1
          · exact h.2.2.elim
          · exact ko' p h
        · exact nk'.sublist (adel_sub.map _)
      · exact ((c3.set (by omega)).set (by omega)).set (by omega)
    | some p =>
      obtain ⟨a, v, l⟩ := p
      rw [hoo] at hgn
      have hmem := aget_some hoo
      have ha := hon' _ hmem
      simp only at ha
      obtain ⟨x1, x2, x3, x4, x5, x6⟩ := ha10 ha
      have hwaa : s1.wa ≠ a := fun he => (List.nodup_cons.1 nd').1 (List.mem_map.2 ⟨_, hmem, he.symm⟩)
      obtain ⟨_, hl1, hl2⟩ := kn' _ hmem
      simp only at hl1 hl2
      have hl0 : 0 < l.length := List.length_pos_iff.2 hl2
      have hlen : by_ * (s1.wn + l.length) ≤ roomBytes := by
        refine Nat.le_trans (Nat.mul_le_mul_left _ ?_) hroom
        rw [← c6] at b3
        have : (fell s1.A k).work.length = s1.wn + l.length := by
          simp only [fell, SS.A, hoo, Option.map_some, Option.getD_some, List.length_append, List.length_take]
          omega
        rw [this] at b3
        omega
      refine Wp.seq (Wp_effs (st' := ?st5) (efs := ?ef5) (by kernel_rfl) ?run5 (by kernel_rfl) ?_)
      case run5 =>
        simp -implicitDefEqProofs only [vm, vs, pairUp, Nat.reduceEqDiff, Nat.reduceAdd, Nat.reduceLeDiff, reduceIte, hset_eq, Nat.add_left_cancel_iff, Nat.reduceEqDiff, nb, nb6, if_false, e5, e6, e7, h5', h6', h13', h11', hkb1, ek, hko, hgn, Option.map_some, Option.getD_some, List.getElem?_cons_zero, List.getElem?_cons_succ, onD]
        rw [ap_arr (qy := v) (es := s1.wes.map enc) (ys := l.map enc)]
        rotate_left
        · rw [Hp.set_other _ _ w1]; exact hwa'
        · simpa using hwn'
        · rw [Hp.set_other _ _ x1]; exact ha
        · simp
        · exact hl0
        · intro c hc
          obtain ⟨q, hq, rfl⟩ := List.mem_map.1 hc
          exact ⟨by rw [enc_len]; exact hl1 q hq, enc_norm⟩
        · exact hlen
        simp -implicitDefEqProofs only [vm, vs, pairUp, Nat.reduceEqDiff, Nat.reduceAdd, Nat.reduceLeDiff, reduceIte, hset_eq, Nat.add_left_cancel_iff, Nat.reduceEqDiff, Ne.symm w2, if_false, h6', e6]
        rfl
      simp only [andThen_normal]
      refine Wp_effs (by kernel_rfl) (by simp -implicitDefEqProofs only [vm, vs, pairUp, Nat.reduceEqDiff, Nat.reduceAdd, Nat.reduceLeDiff, reduceIte, hset_eq, Nat.add_left_cancel_iff, Nat.reduceEqDiff, nb, nb6, Ne.symm w3, Ne.symm w4, Ne.symm w5, Ne.symm w6, if_false, e5, e6, e7, h5', h6', h13', h11', hkb1, ek, hko, mapDel_enc (F := onD) hkl (fun p hp => (kn' p hp).1), List.getElem?_cons_zero, List.getElem?_cons_succ]; rfl) (by kernel_rfl) ?_
      generalize hH4 : ((((H1.set (B + 10) (.mp (amap D.bool (aput k false s1.out)))).set s1.wa (.arr sz (s1.wv + 1) (List.take s1.wn (s1.wes.map enc) ++ List.take l.length (l.map enc)))).set (B + 6) (.vars [.arr s1.wa (s1.wv + 1) (s1.wn + l.length)])).set (B + 11) (.mp (amap onD (adel k s1.on)))) = H4
      have hkeep : ∀ j, j ≠ B + 6 → j ≠ B + 10 → j ≠ B + 11 → j ≠ s1.wa → H4 j = H1 j := fun j g1 g2 g3 g4 => by
        rw [← hH4, Hp.set_other _ _ g3, Hp.set_other _ _ g1, Hp.set_other _ _ g4, Hp.set_other _ _ g2]
      have hfr : Frame B b H1 H4 := fun j _ g1 g2 g3 g4 => hkeep j g1 g2 g3 (fun he => g4 _ _ _ (he ▸ hwa' : H1 j = some (.arr sz s1.wv (s1.wes.map enc))))
      have hA' : (⟨aput k false s1.out, adel k s1.on, s1.wa, s1.wv + 1, s1.wn + l.length, s1.wes.take s1.wn ++ l⟩ : SS).A = fell s1.A k := by
        unfold SS.A fell
        simp only [SA.mk.injEq]
        refine ⟨?_, ?_, ?_⟩
        · funext x; rw [aget_put]; rfl
        · funext x; rw [aget_del nk']; unfold upd; split <;> simp_all
        · simp only [hoo, Option.map_some, Option.getD_some]
          rw [List.take_of_length_le (by simp; omega)]
      refine hQ _ _ H4 _ ⟨aput k false s1.out, adel k s1.on, s1.wa, s1.wv + 1, s1.wn + l.length, s1.wes.take s1.wn ++ l⟩ (E1 E k) (.inl rfl) rfl rfl rfl ?_ (by rw [hA', c6]; exact j1) (by rw [hA', c6]; exact j2) (by rw [hA']; exact hgrow2) (hrule.stab _ _ hC1 (hfr.mono (by omega))) ?_ c2 ((c4.mono (by omega)).trans hfr)
      · refine ⟨?_, ?_, ?_, ?_, ?_, ?_, ?_, fun p hp => ?_, ?_, fun p hp => ?_, fun p hp => kn' p (adel_sub.subset hp), fun x hx => ?_, ?_⟩
        · rw [hkeep _ (by omega) (by omega) (by omega) (Ne.symm w4)]; exact h5'
        · rw [hkeep _ (by omega) (by omega) (by omega) (Ne.symm w5)]; exact h13'
        · rw [← hH4, Hp.set_other _ _ (by omega), Hp.set_other _ _ (by omega), Hp.set_other _ _ (Ne.symm w1), Hp.set_same]
        · rw [← hH4]; exact Hp.set_same _ _ _
        · rw [← hH4, Hp.set_other _ _ (by omega), Hp.set_same]
        · show H4 s1.wa = _
          rw [← hH4, Hp.set_other _ _ w3, Hp.set_other _ _ w2, Hp.set_same]
          simp [arrC, List.map_take, List.take_of_length_le]
        · simp; omega
        · have h1 := hon' p (adel_sub.subset hp)
          obtain ⟨a1, a2, a3, _⟩ := ha10 h1
          rw [hkeep _ a2 a1 a3 (fun he => (List.nodup_cons.1 nd').1 (List.mem_map.2 ⟨_, adel_sub.subset hp, he⟩))]; exact h1
        · exact nd'.sublist ((adel_sub.map _).cons_cons _)
        · rcases aput_mem hp with h | h | h | h
          · rw [h]; exact hkl
          · exact ko' p h.1
          · exact h.2.2.elim
          · exact ko' p h
        · rcases List.mem_append.1 hx with hx | hx
          · exact kw' x (List.mem_of_mem_take hx)
          · exact hl1 x hx
        · exact nk'.sublist (adel_sub.map _)
      · have hwl : s1.wa < n1 := by
          rcases Nat.lt_or_ge s1.wa n1 with h | h
          · exact h
          · rw [c3 _ h] at hwa'; cases hwa'
        rw [← hH4]
        exact (((c3.set (by omega)).set hwl).set (by omega)).set (by omega)
end
end Go.VM
end

section
set_option linter.all false
set_option maxRecDepth 100000
namespace Go.VM
open Go Go.Sv

section
variable {G : Type} {pc : Pc G} {dst : Option Nat} {e : Env} {H : Hp} {g : Nat × G}
def slO (sz : Nat) (x y : Option D) (H : Hp) (g : Nat × G) : Option (Res G) := act (⟨fun _ => false, fun _ _ _ => none, fun _ _ _ _ => none⟩ : Pc G) none (.slc sz (.t 0) none (some (.t 1)) none) (fun i => if i = 0 then x else y) H g
theorem act_slcH {sz : Nat} {x y : Opd} : act pc dst (.slc sz x none (some y) none) e H g = slO sz (x.ev e) (y.ev e) H g := rfl
theorem slO_arr {sz z k q n m : Nat} {es : List (List D)} (h : H k = some (.arr z q es)) (hn : n ≤ es.length) (hm : m ≤ n) : slO sz (some (.arr k q n)) (some (.int .i64 (m : Int))) H g = some ⟨.arr k q m, H, g, .none⟩ := by
  have h1 : ((m : Int) ≤ (n : Int)) := by omega
  simp [slO, act, act.optIdx, Opd.ev, natIdx, h, hn, h1, hm, okD]
end

section
variable {T : Tab Unit} {sz by_ B : Nat} {zs : List D} {fS fH fid : FuncId} {caps : List D} {H : Hp} {R : Rule} {C : Hp → Prop}
def loopCode (sz by_ : Nat) (zs : List D) (fH : FuncId) : VCode := .loop none (.seq (.seq (.region [⟨some 21, .load false 1 (.t 6), none, []⟩,
  ⟨some 22, .len false (.t 21), none, [0]⟩,
  ⟨some 23, .bin .gtr .none (.t 22) (.c (.int .i64 0)), none, [1]⟩] false)
 (.cond (.t 23) .skip (.exit 0)))
 (.block 1 (.seq (.region [⟨some 24, .load false 1 (.t 6), none, []⟩,
  ⟨some 25, .load false 1 (.t 6), none, []⟩,
  ⟨some 26, .len false (.t 25), none, [1]⟩,
  ⟨some 27, .bin .sub .none (.t 26) (.c (.int .i64 1)), none, [2]⟩,
  ⟨some 28, .iaddr sz (.t 24) (.t 27), none, [0, 3]⟩,
  ⟨some 29, .load true sz (.t 28), none, [4]⟩,
  ⟨some 7, .alloc zs, none, []⟩,
  ⟨none, .store sz (.t 7) (.t 29), none, [6, 5, 0, 1, 2, 3, 4, 5, 6]⟩] false)
 (.seq (.region [⟨some 30, .load false 1 (.t 6), none, []⟩,
  ⟨some 31, .load false 1 (.t 6), none, []⟩,
  ⟨some 32, .len false (.t 31), none, [1]⟩,
  ⟨some 33, .bin .sub .none (.t 32) (.c (.int .i64 1)), none, [2]⟩,
  ⟨some 34, .slc sz (.t 30) none (some (.t 33)) none, none, [0, 3]⟩,
  ⟨none, .store 1 (.t 6) (.t 34), none, [4, 0, 1, 2, 3, 4]⟩] false)
 (roundB sz by_ (intKs sz) fH)))))
theorem loop_ok (hT : HoldT T sz by_ zs fH) (hR : R.Ok) (hrule : RuleOk T sz by_ B fH fid caps R C) {q : K} (hUl : ∀ k ∈ R.U, k.length = sz) (hby : 0 < by_) (hroom : by_ * (R.U.length * 10240) ≤ roomBytes) {Q : Ex → St Unit → Prop}
    (hQ : ∀ e H g b s E, e 2 = some (.box (B + 2) 0) → e 5 = some (.box (B + 5) 0) → Rep sz B (.fnS fid caps) H s → Sv.Inv R s.A E → s.A.work = [] → H (B + 2) = some (.vars (enc q)) → s.A.out q ≠ none → Q (.exit 0) ⟨e, H, g, b⟩)
    {st : St Unit} {s : SS} {E : K → Nat} (e2 : st.env 2 = some (.box (B + 2) 0)) (e5 : st.env 5 = some (.box (B + 5) 0)) (e6 : st.env 6 = some (.box (B + 6) 0)) (hr : Rep sz B (.fnS fid caps) st.H s) (hi : Sv.Inv R s.A E) (hC : C st.H) (hd : Dom st.H st.g.1) (hB : B + 4096 ≤ st.g.1) (hst : st.H (B + 2) = some (.vars (enc q))) (hq : s.A.out q ≠ none) :
    Wp (callL T) (loopCode sz by_ zs fH) st Q := by
  refine Wp.loop (Inv := fun n st => ∃ s E, st.env 2 = some (.box (B + 2) 0) ∧ st.env 5 = some (.box (B + 5) 0) ∧ st.env 6 = some (.box (B + 6) 0) ∧ Rep sz B (.fnS fid caps) st.H s ∧ Sv.Inv R s.A E ∧ C st.H ∧ Dom st.H st.g.1 ∧ B + 4096 ≤ st.g.1 ∧ st.H (B + 2) = some (.vars (enc q)) ∧ s.A.out q ≠ none ∧ n = left R s.A) (n := left R s.A) ?_ ⟨s, E, e2, e5, e6, hr, hi, hC, hd, hB, hst, hq, rfl⟩
  clear e2 e5 e6 hr hi hC hd hB hst hq
  rintro n ⟨e, H, ⟨b, u⟩, b0⟩ ⟨s, E, e2, e5, e6, hr, hi, hC, hd, hB, hst, hq, rfl⟩
  refine ⟨_, rfl, ?_⟩
  simp only at e2 e5 e6 hr hC hd hB hst
  unfold anew
  simp only
  have hcopy := hr
  obtain ⟨h5, h13, h10, h11, h6, hwa, hwn, hon, nd, ko, kn, kw, nk⟩ := hr
  have hwl : s.A.work.length = s.wn := by simp [SS.A]; omega
  have hfree : ∀ i, H (b + i) = none := fun i => hd _ (by omega)
  have hb1 := (hi.bound hR).1
  have hnat : s.wn ≤ 140737488355328 := by
    rw [← hwl]
    refine Nat.le_trans hb1 (Nat.le_trans (Nat.mul_le_mul_left _ (by omega : 1024 ≤ 10240)) ?_)
    exact Nat.le_trans (Nat.le_mul_of_pos_left _ hby) hroom
  refine Wp.seq (Wp.seq (Wp_region ?_))
  simp -implicitDefEqProofs only [vm, vs, pairUp, Nat.reduceEqDiff, Nat.reduceAdd, Nat.reduceLeDiff, reduceIte, e6, h6]
  by_cases h0 : s.wn = 0
  · refine Wp.condF (by simp -implicitDefEqProofs only [vm, vs, pairUp, Nat.reduceEqDiff, Nat.reduceAdd, Nat.reduceLeDiff, reduceIte]; simp [h0]) (Wp.exit ?_)
    simp -implicitDefEqProofs only [vm, vs, pairUp, Nat.reduceEqDiff, Nat.reduceAdd, Nat.reduceLeDiff, reduceIte]
    exact hQ _ _ _ _ s E e2 e5 hcopy hi (List.length_eq_zero_iff.1 (by rw [hwl, h0])) hst hq
  refine Wp.condT (by simp -implicitDefEqProofs only [vm, vs, pairUp, Nat.reduceEqDiff, Nat.reduceAdd, Nat.reduceLeDiff, reduceIte]; simp; omega) (Wp.skip ?_)
  simp -implicitDefEqProofs only [vm, vs, pairUp, Nat.reduceEqDiff, Nat.reduceAdd, Nat.reduceLeDiff, reduceIte]
  have hlt : s.wn - 1 < s.wes.length := by omega
  have hsub : IntKind.wrap .i64 ((s.wn : Int) - 1) = ((s.wn - 1 : Nat) : Int) := by rw [wrap_in (by omega)]; omega
  generalize hk : s.wes[s.wn - 1] = k
  have hkl : k.length = sz := kw _ (by rw [← hk]; exact List.getElem_mem _)
  have ek := enc_part hkl
  have hget : (List.map enc s.wes)[s.wn - 1]? = some (enc k) := by rw [List.getElem?_map, List.getElem?_eq_getElem hlt, hk]; rfl
  have hia : ∀ H : Hp, H s.wa = some (arrC sz s.wv s.wes) → iaD H sz (.arr s.wa s.wv s.wn) ((s.wn - 1 : Nat) : Int) = some (.aptr s.wa s.wv (s.wn - 1) 0) := fun H h => by
    simp only [iaD, h, arrC, iaA, Int.toNat_natCast]
    rw [if_pos ⟨trivial, trivial, by simpa using hwn, by omega, by omega⟩]
  have hput : putCells zs 0 (enc k) = enc k := enc_put (by rw [hT.hz, hkl])
  have hlen : (enc k).length = sz := by rw [enc_len]; exact hkl
  have hzl := hT.hz
  have hok : (enc k).all D.cellOk = true := enc_ok
  refine Wp.block (Wp.seq (Wp_region ?_))
  simp -implicitDefEqProofs only [vm, vs, pairUp, Nat.reduceEqDiff, Nat.reduceAdd, Nat.reduceLeDiff, reduceIte, e6, h6, hsub, hia H hwa, hwa, arrC, hget, ek, hfree, hset_eq, if_true, hlen, hzl, hok, hput]
  have n6 : (B + 6 = b + 7) = False := by simp; omega
  have n6' : (b + 7 = B + 6) = False := by simp; omega
  have nw : s.wa ≠ b + 7 := fun he => by rw [he, hfree] at hwa; cases hwa
  have nw6 : s.wa ≠ B + 6 := fun he => by rw [he, h6] at hwa; cases hwa
  refine Wp.seq (Wp_region ?_)
  simp -implicitDefEqProofs only [vm, vs, pairUp, Nat.reduceEqDiff, Nat.reduceAdd, Nat.reduceLeDiff, reduceIte, act_slcH, hset_eq, n6, if_false, e6, h6, hsub]
  rw [slO_arr (z := sz) (es := s.wes.map enc) (by rw [Hp.set_other _ _ nw, Hp.set_other _ _ nw]; exact hwa) (by simpa using hwn) (by omega)]
  simp -implicitDefEqProofs only [vm, vs, pairUp, Nat.reduceEqDiff, Nat.reduceAdd, Nat.reduceLeDiff, reduceIte, hset_eq, n6, if_false, h6, e6]
  have hw : s.A.work = s.wes.take (s.wn - 1) ++ [k] := by
    show s.wes.take s.wn = _
    have : s.wn = s.wn - 1 + 1 := by omega
    rw [this, List.take_succ_eq_append_getElem hlt, hk]
    simp
  generalize hH' : (((H.set (b + 7) (HC.vars zs)).set (b + 7) (HC.vars (enc k))).set (B + 6) (.vars [.arr s.wa s.wv (s.wn - 1)])) = H'
  have hk' : ∀ j, j ≠ b + 7 → j ≠ B + 6 → H' j = H j := fun j g1 g2 => by rw [← hH', Hp.set_other _ _ g2, Hp.set_other _ _ g1, Hp.set_other _ _ g1]
  have hfr : Frame B b H H' := fun j g0 g1 _ _ _ => hk' j (by omega) g1
  refine roundB_ok hT hR hrule (s := { s with wn := s.wn - 1 }) (A := s.A) (E := E) (w := s.wes.take (s.wn - 1)) hi hw ?_ rfl (hrule.stab _ _ hC (hfr.mono (by omega))) ?_ hB ?_ hkl hroom ?_ ?_ ?_ ?_
  · refine ⟨?_, ?_, ?_, ?_, ?_, ?_, Nat.le_trans (Nat.sub_le _ _) hwn, fun p hp => ?_, nd, ko, kn, kw, nk⟩
    · rw [hk' _ (by omega) (by omega)]; exact h5
    · rw [hk' _ (by omega) (by omega)]; exact h13
    · rw [hk' _ (by omega) (by omega)]; exact h10
    · rw [hk' _ (by omega) (by omega)]; exact h11
    · rw [← hH']; exact Hp.set_same _ _ _
    · show H' s.wa = _
      rw [hk' _ nw nw6]; exact hwa
    · have h1 := hon p hp
      rw [hk' _ (fun he => by rw [he, hfree] at h1; cases h1) (fun he => by rw [he, h6] at h1; cases h1)]; exact h1
  · intro j hj
    have := hd j (by omega)
    rw [hk' _ (by omega) (by omega)]; exact this
  · rw [← hH', Hp.set_other _ _ (by omega), Hp.set_same]
  · exact e5
  · exact e6
  · rfl
  intro ex e' H2 n' s' E' hex f5 f6 f2 r1 r2 r3 r4 r5 r6 r7 r8
  have g2 : e' 2 = some (.box (B + 2) 0) := by rw [f2]; exact e2
  have g5 : e' 5 = some (.box (B + 5) 0) := by rw [f5]; exact e5
  have g6 : e' 6 = some (.box (B + 6) 0) := by rw [f6]; exact e6
  have gs : H2 (B + 2) = some (.vars (enc q)) := by
    have h1 : H' (B + 2) = some (.vars (enc q)) := by rw [hk' _ (by omega) (by omega)]; exact hst
    rw [r8 (B + 2) (by omega) (by omega) (by omega) (by omega) (by rw [h1]; simp)]; exact h1
  rcases hex with rfl | rfl
  · simp only [inBlock_normal]
    exact ⟨_, r3, s', E', g2, g5, g6, r1, r2, r5, r6, by show B + 4096 ≤ n'; omega, gs, r4 _ hq, rfl⟩
  · simp only [inBlock_exit, if_true]
    exact ⟨_, r3, s', E', g2, g5, g6, r1, r2, r5, r6, by show B + 4096 ≤ n'; omega, gs, r4 _ hq, rfl⟩
theorem solve_ok (hT : HoldT T sz by_ zs fH) (hR : R.Ok) (hrule : RuleOk T sz by_ B fH fid caps R C) (h1 : T.primS fS = none) (h2 : T.code fS = some (solveCode sz by_ zs (intKs sz) fH)) {q : K} (hq : q ∈ R.U) (hUl : ∀ k ∈ R.U, k.length = sz) (hd : Dom H B) (hC : C H)
    (hby : 0 < by_) (hroom : by_ * (R.U.length * 10240) ≤ roomBytes) :
    ∃ r H' g', (callL T).shared fS [.agg (enc q), .fnS fid caps] H (B, ()) = some (r, H', g') ∧ r = .bool (dec (R.G q)) := by
  have hql := hUl q hq
  refine fnS_of h1 h2 (by rfl) rfl ?_
  have hfree : ∀ i, H (B + i) = none := fun i => hd _ (by omega)
  have eq_ := enc_part hql
  have hko := keyOk_enc hql
  unfold solveCode
  refine Wp.seq (Wp_region ?_)
  simp -implicitDefEqProofs only [vm, vs, pairUp, Nat.reduceEqDiff, Nat.reduceAdd, Nat.reduceLeDiff, reduceIte, enc_ok, hfree]
  have hsp : setParts [D.nilfn, D.nilmp, D.nilmp] [(0, 1, D.fnS fid caps), (1, 1, D.mp (B + 10)), (2, 1, D.mp (B + 11))] = some [D.fnS fid caps, D.mp (B + 10), D.mp (B + 11)] := rfl
  refine Wp.seq (Wp_region ?_)
  simp -implicitDefEqProofs only [vm, vs, pairUp, Nat.reduceEqDiff, Nat.reduceAdd, Nat.reduceLeDiff, reduceIte, hset_eq, Nat.add_left_cancel_iff, Nat.reduceEqDiff, if_false, hfree, hsp]
  have hz : zs.length = q.length := by rw [hT.hz, hql]
  have hbs := fun (H : Hp) (g : Nat × Unit) (h : H (B + 15) = none) => bsO_enc (G := Unit) (H := H) (g := g) hz (by rw [hql]; exact hT.hs) h
  refine Wp.seq (Wp_region ?_)
  simp -implicitDefEqProofs only [vm, vs, pairUp, Nat.reduceEqDiff, Nat.reduceAdd, Nat.reduceLeDiff, reduceIte, hset_eq, Nat.add_left_cancel_iff, Nat.reduceEqDiff, if_false, if_true, hfree, eq_]
  rw [hbs]
  rotate_left
  · simp only [hset_eq, Nat.add_left_cancel_iff, Nat.reduceEqDiff, if_false, if_true, hfree]
  simp -implicitDefEqProofs only [vm, vs, pairUp, Nat.reduceEqDiff, Nat.reduceAdd, Nat.reduceLeDiff, reduceIte, hset_eq, Nat.add_left_cancel_iff, Nat.reduceEqDiff, if_false, if_true, hfree]
  refine Wp.seq (Wp_effs (by kernel_rfl) (by simp -implicitDefEqProofs only [vm, vs, pairUp, Nat.reduceEqDiff, Nat.reduceAdd, Nat.reduceLeDiff, reduceIte, hset_eq, Nat.add_left_cancel_iff, Nat.reduceEqDiff, if_false, if_true, eq_, hko, mapPut, List.getElem?_cons_zero, List.getElem?_cons_succ]; rfl) (by kernel_rfl) ?_)
  simp only [andThen_normal]
  refine Wp.seq (Wp.block ?_)
  generalize hH0 : (((((((((H.set (B + 2) (HC.vars (enc q))).set (B + 10) (HC.mp [])).set (B + 11) (HC.mp [])).set (B + 13) (HC.vars [D.fnS fid caps, D.mp (B + 10), D.mp (B + 11)])).set (B + 5) (HC.vars [D.nilptr])).set (B + 5) (HC.vars [D.box (B + 13) 0])).set (B + 15) (HC.arr zs.length 0 [enc q])).set (B + 6) (HC.vars [D.nilsl])).set (B + 6) (HC.vars [D.arr (B + 15) 0 1])).set (B + 10) (HC.mp [(D.agg (enc q), D.bool true)]) = H0
  have hlow : ∀ j, j < B → H0 j = H j := fun j hj => by
    rw [← hH0]
    simp only [hset_eq]
    repeat rw [if_neg (by omega)]
  refine loop_ok (q := q) hT hR hrule hUl hby hroom ?_ (s := ⟨[(q, true)], [], B + 15, 0, 1, [q]⟩) (E := fun _ => 0) rfl rfl rfl ?_ ?_ (hrule.stab _ _ hC fun j hj _ _ _ _ => hlow j hj) ?_ (Nat.le_refl _) ?_ ?_
  · intro e H g b s E e2 e5 hr hi hw hst hq0
    simp only [inBlock_exit, if_true]
    obtain ⟨h5, h13, h10, h11, h6, hwa, hwn, hon, nd, ko, kn, kw, nk⟩ := hr
    have hgo := mapGet_enc (F := D.bool) hql ko
    refine Wp.seq (Wp_effs (by kernel_rfl) (by simp -implicitDefEqProofs only [vm, vs, pairUp, Nat.reduceEqDiff, Nat.reduceAdd, Nat.reduceLeDiff, reduceIte, e2, e5, h5, h13, h10, hst, eq_, hko, hgo, List.getElem?_cons_zero, List.getElem?_cons_succ]; rfl) (by kernel_rfl) ?_)
    simp only [andThen_normal]
    refine Wp.ret ?_
    simp only [EndsP_ret, rawD_tmp, rawD_nil, consO_some, rawO_some, tupD_one, set_eq, Nat.reduceEqDiff, if_true, if_false]
    have he := end_G hi hw hq0
    have hA : s.A.out q = aget q s.out := rfl
    rw [hA] at he hq0
    cases ho : aget q s.out with
    | none => exact absurd ho hq0
    | some x =>
      rw [ho] at he
      simp only [Option.map_some, Option.getD_some, D.bool.injEq] at he ⊢
      cases x with
      | true => exact (dec_true (he.1 rfl)).symm
      | false => exact (dec_false (fun h => by have := he.2 h; cases this)).symm
  · refine ⟨?_, ?_, ?_, ?_, ?_, ?_, Nat.le_refl _, fun p hp => by simp at hp, by simp, fun p hp => ?_, fun p hp => by simp at hp, fun x hx => ?_, by simp⟩
    · simp [← hH0, hset_eq]
    · simp [← hH0, hset_eq]
    · simp [← hH0, hset_eq, amap]
    · simp [← hH0, hset_eq, amap]
    · simp [← hH0, hset_eq]
    · simp [← hH0, hset_eq, arrC, hT.hz]
    · simp only [List.mem_singleton] at hp; subst hp; exact hql
    · simp only [List.mem_singleton] at hx; subst hx; exact hql
  · have : (⟨[(q, true)], [], B + 15, 0, 1, [q]⟩ : SS).A = Sv.start q := by
      unfold SS.A Sv.start
      simp only [SA.mk.injEq]
      refine ⟨?_, ?_, ?_⟩
      · funext x; unfold upd; simp [aget]
      · funext x; simp [aget]
      · rfl
    rw [this]; exact start_inv hq
  · intro j hj
    have hj' : B + 4096 ≤ j := hj
    have := hd j (by omega)
    rw [← hH0]
    simp only [hset_eq]
    repeat rw [if_neg (by omega)]
    exact this
  · simp [← hH0, hset_eq]
  · simp [SS.A, aget]
end
end Go.VM
end

section
set_option linter.all false
set_option maxRecDepth 100000
namespace Go.VM
open Go Go.Sv

section
variable {T : Tab Unit} {sz by_ B N : Nat} {zs : List D} {fH fid : FuncId} {rule : D} {H : Hp} {C : Hp → Prop} {k o : K} {kb : Nat}
/-- A shared function that asks of some keys, and answers as these answer. -/
def AskOk (T : Tab Unit) (sz by_ B N : Nat) (rule : D) (C : Hp → Prop) (k : K) (f : FuncId) (args : List D) (oo : List K) (val : (K → Bool) → Bool) : Prop :=
  ∀ (H : Hp) (n : Nat) (s : SS), C H → Rep sz B rule H s → Dom H n → N ≤ n → by_ * ((askL k oo s.A).work.length + 1) ≤ roomBytes → (∀ o, by_ * ((askL k oo s.A).on o).length ≤ roomBytes) →
    ∃ H' g', (callL T).shared f args H (n, ()) = some (.bool (val (ans s.A)), H', g') ∧ n ≤ g'.1 ∧ Dom H' g'.1 ∧ Frame B n H H' ∧ ∃ s', Rep sz B rule H' s' ∧ s'.A = askL k oo s.A

theorem AskOk.of {f : FuncId} {args : List D} {oo : List K} {val : (K → Bool) → Bool} (h : ∀ (H : Hp) (n : Nat) (s : SS), C H → Rep sz B rule H s → Dom H n → N ≤ n → by_ * ((askL k oo s.A).work.length + 1) ≤ roomBytes → (∀ o, by_ * ((askL k oo s.A).on o).length ≤ roomBytes) →
    ∃ r H' g', (callL T).shared f args H (n, ()) = some (r, H', g') ∧ (r = .bool (val (ans s.A)) ∧ n ≤ g'.1 ∧ Dom H' g'.1 ∧ Frame B n H H' ∧ ∃ s', Rep sz B rule H' s' ∧ s'.A = askL k oo s.A)) : AskOk T sz by_ B N rule C k f args oo val := by
  intro H n s h1 h2 h3 h4 h5 h6
  obtain ⟨r, H', g', h7, rfl, h8⟩ := h H n s h1 h2 h3 h4 h5 h6
  exact ⟨H', g', h7, h8⟩
theorem hold_ask (hT : HoldT T sz by_ zs fH) (hN : B + 4096 ≤ N) (hkl : k.length = sz) (hol : o.length = sz) : AskOk T sz by_ B N rule (fun H => H kb = some (.vars (enc k))) k fH [.agg (enc o), .box (B + 5) 0, .box (B + 6) 0, .box kb 0] [o] (fun a => a o) := by
  intro H n s hC hr hd hn h1 h2
  have e1 : askL k [o] s.A = hold1 k o s.A := rfl
  rw [e1] at h1
  have hlen := hold1_len k o s.A
  have h2' : by_ * ((s.A.on o).length + 1) ≤ roomBytes := by
    have := h2 o
    rw [e1, hold1_on, if_pos rfl, List.length_append] at this
    exact this
  obtain ⟨r, H', g', c1, rfl, rfl, c4, c5, s', c6, c7⟩ := hold_ok hT hr hd (by omega) hC hkl hol (Nat.le_trans (Nat.mul_le_mul_left _ (by omega)) h1) h2'
  exact ⟨H', _, c1, by show n ≤ n + roomKeys; omega, c4, c5, s', c6, c7⟩

theorem askL_append (k : K) : ∀ (l m : List K) (A : SA), askL k (l ++ m) A = askL k m (askL k l A)
  | [], m, A => rfl
  | o :: l, m, A => by simp only [List.cons_append, askL]; exact askL_append k l m _
end
end Go.VM
end
