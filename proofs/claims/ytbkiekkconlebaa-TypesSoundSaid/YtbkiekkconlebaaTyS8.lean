/-
  Sub is an order: in plain words, no program.
-/
import Derived.Test.YtbkiekkconlebaaTyS5
set_option linter.all false
set_option linter.all false
set_option maxRecDepth 100000
namespace Go.VM
open Go Go.Sv

variable {t : List Ty} {S : K → Bool} {a b c : Int}
theorem holds2_five (h : (tyAt t a).kind = 5) : res2 t a b ((asks2 t a b).map S) = true ↔ ∀ e ∈ (tyAt t a).elems.list, S [e, b] = true := by
  simp only [res2, asks2, if_pos h, List.map_map, List.all_map, List.all_eq_true]
  exact Iff.rfl
theorem holds2_right (h : (tyAt t a).kind ≠ 5) (h' : (tyAt t b).kind = 5) : res2 t a b ((asks2 t a b).map S) = true ↔ ∃ e ∈ (tyAt t b).elems.list, S [a, e] = true := by
  simp only [res2, asks2, if_neg h, if_pos h', List.map_map, List.any_map, List.any_eq_true]
  exact Iff.rfl
theorem holds2_any (h : (tyAt t a).kind ≠ 5) (h' : (tyAt t b).kind = 0) : res2 t a b ((asks2 t a b).map S) = true := by
  simp only [res2, asks2, if_neg h, if_neg (show (tyAt t b).kind ≠ 5 by rw [h']; decide), if_pos h']
theorem holds2_plain (h : (tyAt t a).kind ≠ 5) (h' : (tyAt t b).kind ≠ 5) (h0 : (tyAt t b).kind ≠ 0) : res2 t a b ((asks2 t a b).map S) = true ↔ (tyAt t a).kind = (tyAt t b).kind ∧ ∀ f ∈ (tyAt t b).fields.list, ∃ m, fieldGet (tyAt t a).fields.list f.name = some m ∧ S [m, f.type] = true := by
  by_cases hk : (tyAt t a).kind = (tyAt t b).kind
  · have e1 : asks2 t a b = (tyAt t b).fields.list.flatMap (askF (tyAt t a).fields.list) := by simp only [asks2, if_neg h, if_neg h', if_neg h0, if_neg (fun h : (tyAt t a).kind ≠ (tyAt t b).kind => h hk)]
    have e2 : ∀ l, res2 t a b l = (((tyAt t b).fields.list.all fun f => (fieldGet (tyAt t a).fields.list f.name).isSome) && l.all id) := fun l => by simp only [res2, if_neg h, if_neg h', if_neg h0, if_neg (fun h : (tyAt t a).kind ≠ (tyAt t b).kind => h hk)]
    rw [e1, e2, Bool.and_eq_true, List.all_eq_true, List.all_eq_true]
    constructor
    · rintro ⟨h1, h2⟩
      refine ⟨hk, fun f hf => ?_⟩
      obtain ⟨m, hm⟩ := Option.isSome_iff_exists.1 (h1 f hf)
      refine ⟨m, hm, ?_⟩
      exact h2 _ (List.mem_map.2 ⟨[m, f.type], List.mem_flatMap.2 ⟨f, hf, by unfold askF; rw [hm]; simp⟩, rfl⟩)
    · rintro ⟨_, h1⟩
      refine ⟨fun f hf => ?_, fun x hx => ?_⟩
      · obtain ⟨m, hm, _⟩ := h1 f hf
        rw [hm]; rfl
      · obtain ⟨o, ho, rfl⟩ := List.mem_map.1 hx
        obtain ⟨f, hf, ho⟩ := List.mem_flatMap.1 ho
        obtain ⟨m, hm, hs⟩ := h1 f hf
        unfold askF at ho
        rw [hm] at ho
        simp only [List.mem_singleton] at ho
        subst ho; exact hs
  · have e2 : res2 t a b ((asks2 t a b).map S) = false := by simp only [res2, if_neg h, if_neg h', if_neg h0, if_pos hk]
    rw [e2]
    simp [hk]

/-- In a table. -/
theorem G_in (h : (ruleT t).G [a, b]) : InT t a ∧ InT t b := by
  obtain ⟨X, hX, hab⟩ := h
  obtain ⟨i, j, hi, hj, he⟩ := mem_pairsT.1 (hX _ hab).1
  simp at he
  obtain ⟨rfl, rfl⟩ := he
  exact ⟨⟨by omega, by omega⟩, ⟨by omega, by omega⟩⟩
theorem mem_pair (ha : InT t a) (hb : InT t b) : ([a, b] : K) ∈ pairsT t.length := mem_pairsT.2 ⟨a.toNat, b.toNat, by have := ha.1; have := ha.2; omega, by have := hb.1; have := hb.2; omega, by rw [Int.toNat_of_nonneg ha.1, Int.toNat_of_nonneg hb.1]⟩
/-- What is held together. -/
theorem G_of {X : Int → Int → Prop} (hX : ∀ a b, X a b → InT t a ∧ InT t b ∧ ∀ S : K → Bool, (∀ x y, X x y → S [x, y] = true) → res2 t a b ((asks2 t a b).map S) = true) (h : X a b) : (ruleT t).G [a, b] := by
  classical
  refine ⟨fun q => match q with | [x, y] => dec (X x y) | _ => false, fun q hq => ?_, dec_true h⟩
  match q, hq with
  | [x, y], hq =>
    obtain ⟨h1, h2, h3⟩ := hX x y (dec_iff.1 hq)
    exact ⟨mem_pair h1 h2, h3 _ fun x y hxy => dec_true hxy⟩
/-- What of a pair of the set is known. -/
theorem G_holds (hok : (ruleT t).Ok) (h : (ruleT t).G [a, b]) {S : K → Bool} (hS : ∀ x y, (ruleT t).G [x, y] → S [x, y] = true) : res2 t a b ((asks2 t a b).map S) = true := by
  obtain ⟨X, hX, hab⟩ := h
  obtain ⟨hU, h1⟩ := hX _ hab
  refine hok.mono _ hU (fun o => X o && decide (o ∈ (ruleT t).U)) S (fun o ho => ?_) (Eq.trans (congrArg _ (List.map_congr_left fun o ho => ?_)) h1)
  · simp only [Bool.and_eq_true, decide_eq_true_eq] at ho
    obtain ⟨i, j, _, _, rfl⟩ := mem_pairsT.1 ho.2
    exact hS _ _ ⟨X, hX, ho.1⟩
  · simp [hok.closed _ hU o ho]
theorem tyAt_ok (hm : MayP t) (h : InT t a) : OkTy t.length a.toNat (tyAt t a) := by
  have h1 : a.toNat < t.length := by have := h.1; have := h.2; omega
  have h2 := hm.1 a.toNat h1
  have h3 := tyAt_get h1
  rw [Int.toNat_of_nonneg h.1] at h3
  rw [h3]; exact h2
theorem elem_in (hm : MayP t) (h : InT t a) {e : Int} (he : e ∈ (tyAt t a).elems.list) : InT t e ∧ e < a := by
  obtain ⟨h1, h2⟩ := (tyAt_ok hm h).2.2 e he
  have := h.1; have := h.2
  exact ⟨⟨h1, by omega⟩, by omega⟩
theorem field_in (hm : MayP t) (h : InT t a) {f : TF} (hf : f ∈ (tyAt t a).fields.list) : InT t f.type := by
  obtain ⟨k, hk, rfl⟩ := List.getElem_of_mem hf
  obtain ⟨h1, h2, _⟩ := (tyAt_ok hm h).2.1 k hk
  exact ⟨h1, h2⟩
theorem field_self {n : Nat} {l : List TF} (h : OkFields n l) {f : TF} (hf : f ∈ l) : fieldGet l f.name = some f.type := by
  obtain ⟨k, hk, rfl⟩ := List.getElem_of_mem hf
  refine fieldGet_at hk rfl fun j hj hjk he => ?_
  have hr : Rising TF.name l := fun i hi => by
    obtain ⟨_, _, h3⟩ := h (i + 1) hi
    exact h3 (by omega)
  have := hr.lt hk hjk
  rw [he, slt_irrefl] at this
  cases this

/-- One stands below another: it is it, or an element of it, or of an element. -/
inductive Under (t : List Ty) : Int → Int → Prop
  | refl (a : Int) : Under t a a
  | step {a e b : Int} : (tyAt t b).kind = 5 → e ∈ (tyAt t b).elems.list → Under t a e → Under t a b
theorem Under.trans (h : Under t b c) (h' : Under t a b) : Under t a c := by
  induction h with
  | refl => exact h'
  | step h1 h2 _ ih => exact .step h1 h2 ih
theorem G_refl (hm : MayP t) (h : InT t a) : (ruleT t).G [a, a] := by
  refine G_of (X := fun x y => InT t x ∧ InT t y ∧ Under t x y) (fun x y ⟨hx, hy, hu⟩ => ⟨hx, hy, fun S hS => ?_⟩) ⟨h, h, .refl _⟩
  by_cases hx5 : (tyAt t x).kind = 5
  · rw [holds2_five hx5]
    intro e he
    exact hS _ _ ⟨(elem_in hm hx he).1, hy, hu.trans (.step hx5 he (.refl _))⟩
  by_cases hy5 : (tyAt t y).kind = 5
  · rw [holds2_right hx5 hy5]
    cases hu with
    | refl => exact absurd hy5 hx5
    | step h1 h2 h3 => exact ⟨_, h2, hS _ _ ⟨hx, (elem_in hm hy h2).1, h3⟩⟩
  by_cases hy0 : (tyAt t y).kind = 0
  · exact holds2_any hx5 hy0
  rw [holds2_plain hx5 hy5 hy0]
  cases hu with
  | refl =>
    refine ⟨rfl, fun f hf => ⟨f.type, field_self (tyAt_ok hm hx).2.1 hf, hS _ _ ⟨field_in hm hx hf, field_in hm hx hf, .refl _⟩⟩⟩
  | step h1 => exact absurd h1 hy5
/-- The middle may be taken to be no union. -/
theorem mid (hok : (ruleT t).Ok) (hm : MayP t) (ha : (tyAt t a).kind ≠ 5) : ∀ (n : Nat) (b : Int), b.toNat < n → (ruleT t).G [a, b] → (ruleT t).G [b, c] → ∃ b', (tyAt t b').kind ≠ 5 ∧ (ruleT t).G [a, b'] ∧ (ruleT t).G [b', c]
  | 0, b, h, _, _ => absurd h (by omega)
  | n + 1, b, hn, h1, h2 => by
    by_cases hb : (tyAt t b).kind = 5
    · classical
      have k1 := G_holds hok h1 (S := fun q => dec ((ruleT t).G q)) fun _ _ h => dec_true h
      have k2 := G_holds hok h2 (S := fun q => dec ((ruleT t).G q)) fun _ _ h => dec_true h
      rw [holds2_right ha hb] at k1
      rw [holds2_five hb] at k2
      obtain ⟨e, he, hae⟩ := k1
      have hin := elem_in hm (G_in h1).2 he
      exact mid hok hm ha n e (by have := hin.1.1; omega) (dec_iff.1 hae) (dec_iff.1 (k2 e he))
    · exact ⟨b, hb, h1, h2⟩
theorem G_trans (hok : (ruleT t).Ok) (hm : MayP t) (h1 : (ruleT t).G [a, b]) (h2 : (ruleT t).G [b, c]) : (ruleT t).G [a, c] := by
  classical
  refine G_of (X := fun x z => ∃ y, (ruleT t).G [x, y] ∧ (ruleT t).G [y, z]) (fun x z ⟨y, k1, k2⟩ => ⟨(G_in k1).1, (G_in k2).2, fun S hS => ?_⟩) ⟨b, h1, h2⟩
  have hG : ∀ {x y : Int}, (ruleT t).G [x, y] → res2 t x y ((asks2 t x y).map fun q => dec ((ruleT t).G q)) = true := fun h => G_holds hok h fun _ _ h => dec_true h
  by_cases hx5 : (tyAt t x).kind = 5
  · rw [holds2_five hx5]
    intro e he
    have k3 := hG k1
    rw [holds2_five hx5] at k3
    exact hS _ _ ⟨y, dec_iff.1 (k3 e he), k2⟩
  obtain ⟨y, hy5, k1, k2⟩ := mid hok hm hx5 (y.toNat + 1) y (Nat.lt_succ_self _) k1 k2
  have k3 := hG k1
  have k4 := hG k2
  by_cases hz5 : (tyAt t z).kind = 5
  · rw [holds2_right hx5 hz5]
    rw [holds2_right hy5 hz5] at k4
    obtain ⟨e, he, h⟩ := k4
    exact ⟨e, he, hS _ _ ⟨y, k1, dec_iff.1 h⟩⟩
  by_cases hz0 : (tyAt t z).kind = 0
  · exact holds2_any hx5 hz0
  rw [holds2_plain hy5 hz5 hz0] at k4
  rw [holds2_plain hx5 hz5 hz0]
  rw [holds2_plain hx5 hy5 (by rw [k4.1]; exact hz0)] at k3
  refine ⟨k3.1.trans k4.1, fun f hf => ?_⟩
  obtain ⟨m, hm1, hm2⟩ := k4.2 f hf
  have : ∃ f' ∈ (tyAt t y).fields.list, f'.name = f.name ∧ f'.type = m := by
    unfold fieldGet at hm1
    cases hf1 : (tyAt t y).fields.list.find? fun g => dec (g.name = f.name) with
    | none => rw [hf1] at hm1; cases hm1
    | some f' =>
      rw [hf1] at hm1
      exact ⟨f', List.mem_of_find?_eq_some hf1, dec_iff.1 (List.find?_some (p := fun g : TF => dec (g.name = f.name)) hf1), by simpa using hm1⟩
  obtain ⟨f', hf', hn, rfl⟩ := this
  obtain ⟨m', hm3, hm4⟩ := k3.2 f' hf'
  exact ⟨m', by rw [← hn]; exact hm3, hS _ _ ⟨f'.type, dec_iff.1 hm4, dec_iff.1 hm2⟩⟩
end Go.VM
