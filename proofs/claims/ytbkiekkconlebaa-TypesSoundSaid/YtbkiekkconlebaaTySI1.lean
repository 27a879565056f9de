/-
  When is a value in a type: the rule, without a program.
-/
import Derived.Test.YtbkiekkconlebaaTySR5
import Derived.Test.YtbkiekkconlebaaTyS8
set_option linter.all false
set_option linter.all false
set_option maxRecDepth 100000
namespace Go.VM
open Go Go.Sv

def keyV (v : Va) (x : Int) : K := [v.kind, v.n, x]
/-- Whom a value and a type ask. -/
noncomputable def askLk (s : List Ob) (v : Va) (f : TF) : List K := match look1 s v f.name with
  | some w => [keyV w f.type]
  | none => []
def kindOf (k : Int) : Int := if k = 1 then 0 else if k = 2 then 1 else if k = 3 then 2 else if k = 4 then 4 else 0
noncomputable def asks3 (t : List Ty) (s : List Ob) (v : Va) (x : Int) : List K :=
  if (tyAt t x).kind = 0 then []
  else if (tyAt t x).kind = 5 then (tyAt t x).elems.list.map fun e => keyV v e
  else if kindOf (tyAt t x).kind ≠ v.kind then []
  else (tyAt t x).fields.list.flatMap (askLk s v)
noncomputable def res3 (t : List Ty) (s : List Ob) (v : Va) (x : Int) (l : List Bool) : Bool :=
  if (tyAt t x).kind = 0 then true
  else if (tyAt t x).kind = 5 then l.any id
  else if kindOf (tyAt t x).kind ≠ v.kind then false
  else ((tyAt t x).fields.list.all fun f => (look1 s v f.name).isSome) && l.all id
noncomputable def asksI (t : List Ty) (s : List Ob) : K → List K
  | [k, n, x] => asks3 t s ⟨k, n⟩ x
  | _ => []
noncomputable def resI (t : List Ty) (s : List Ob) : K → List Bool → Bool
  | [k, n, x], l => res3 t s ⟨k, n⟩ x l
  | _, _ => false
/-- Without what comes twice. -/
def dedup : List K → List K
  | [] => []
  | x :: l => if x ∈ l then dedup l else x :: dedup l
theorem mem_dedup {x : K} : ∀ {l : List K}, x ∈ dedup l ↔ x ∈ l
  | [] => Iff.rfl
  | y :: l => by
    have ih := mem_dedup (x := x) (l := l)
    simp only [dedup]
    split
    · rename_i h
      rw [ih]
      constructor
      · intro h1; simp [h1]
      · intro h1
        rcases List.mem_cons.1 h1 with rfl | h1
        · exact h
        · exact h1
    · simp [ih]
theorem nodup_dedup : ∀ (l : List K), (dedup l).Nodup
  | [] => by simp [dedup]
  | y :: l => by
    simp only [dedup]
    split
    · exact nodup_dedup l
    · rename_i h
      rw [List.nodup_cons, mem_dedup]
      exact ⟨h, nodup_dedup l⟩
theorem dedup_len : ∀ (l : List K), (dedup l).length ≤ l.length
  | [] => Nat.le_refl _
  | y :: l => by
    have := dedup_len l
    simp only [dedup]
    split
    · simp; omega
    · simp; omega
def vals (s : List Ob) (v : Va) : List Va := v :: s.flatMap fun o => o.props.list.map fun p => p.val
def keysI (t : List Ty) (s : List Ob) (v : Va) : List K := (vals s v).flatMap fun w => (List.range t.length).map fun i : Nat => keyV w (i : Int)
noncomputable def ruleI (t : List Ty) (s : List Ob) (v : Va) : Rule := ⟨dedup (keysI t s v), asksI t s, resI t s⟩
theorem mem_keysI {t : List Ty} {s : List Ob} {v : Va} {q : K} : q ∈ keysI t s v ↔ ∃ w ∈ vals s v, ∃ i : Nat, i < t.length ∧ q = keyV w (i : Int) := by
  unfold keysI
  simp only [List.mem_flatMap, List.mem_map, List.mem_range]
  constructor
  · rintro ⟨w, hw, i, hi, rfl⟩; exact ⟨w, hw, i, hi, rfl⟩
  · rintro ⟨w, hw, i, hi, rfl⟩; exact ⟨w, hw, i, hi, rfl⟩
theorem vals_len {s : List Ob} {v : Va} (hs : SmallS s) : (vals s v).length ≤ 161 := by
  unfold vals
  have : ∀ l : List Ob, (∀ o ∈ l, o.props.list.length ≤ 10) → (l.flatMap fun o => o.props.list.map fun p => p.val).length ≤ l.length * 10 := fun l => by
    induction l with
    | nil => intro _; simp
    | cons o l ih =>
      intro h
      have h1 := ih fun o ho => h o (by simp [ho])
      have h2 := h o (by simp)
      rw [List.flatMap_cons, List.length_append, List.length_map, List.length_cons, Nat.succ_mul]
      omega
  have h1 := this s fun o ho => by
    obtain ⟨i, hi, rfl⟩ := List.getElem_of_mem ho
    exact hs.1 i hi
  have h2 := hs.2
  rw [List.length_cons]
  omega
theorem keysI_len {t : List Ty} {s : List Ob} {v : Va} (hs : SmallS s) (ht : t.length ≤ 200) : (dedup (keysI t s v)).length ≤ 161 * 200 := by
  refine Nat.le_trans (dedup_len _) ?_
  have h1 := vals_len (v := v) hs
  unfold keysI
  have : ∀ l : List Va, (l.flatMap fun w => (List.range t.length).map fun i : Nat => keyV w (i : Int)).length = l.length * t.length := fun l => by
    induction l with
    | nil => simp
    | cons w l ih => rw [List.flatMap_cons, List.length_append, ih, List.length_map, List.length_range, List.length_cons, Nat.succ_mul]; omega
  rw [this]
  exact Nat.mul_le_mul h1 ht
theorem look_vals {s : List Ob} {v w w' : Va} {name : ByteArray} (hS : StoreP s) (h : look1 s w name = some w') : w' ∈ vals s v := by
  obtain ⟨i, hi, p, hp, rfl⟩ := look_mem hS (w.n.toNat + 1) w w' (Nat.lt_succ_self _) h
  exact List.mem_cons_of_mem _ (List.mem_flatMap.2 ⟨_, List.getElem_mem hi, List.mem_map.2 ⟨p, hp, rfl⟩⟩)

theorem ruleI_ok {t : List Ty} {s : List Ob} {v : Va} (hm : MayP t) (hs : FewP t) (hS : StoreP s) : (ruleI t s v).Ok := by
  have hat : ∀ i : Nat, i < t.length → OkTy t.length i (tyAt t i) ∧ (tyAt t i).fields.list.length ≤ 10 ∧ (tyAt t i).elems.list.length ≤ 10 := fun i hi => by
    rw [tyAt_get hi]; exact ⟨hm.1 i hi, hs i hi⟩
  have hin : ∀ i : Nat, i < t.length → InT t (i : Int) := fun i hi => ⟨by omega, by omega⟩
  have hmem : ∀ w ∈ vals s v, ∀ y : Int, InT t y → keyV w y ∈ dedup (keysI t s v) := fun w hw y hy => mem_dedup.2 (mem_keysI.2 ⟨w, hw, y.toNat, by have := hy.1; have := hy.2; omega, by rw [Int.toNat_of_nonneg hy.1]⟩)
  refine ⟨nodup_dedup _, fun q hq o ho => ?_, fun q hq => ?_, fun q hq a b hab h => ?_⟩
  · obtain ⟨w, hw, i, hi, rfl⟩ := mem_keysI.1 (mem_dedup.1 hq)
    show o ∈ dedup (keysI t s v)
    simp only [ruleI, keyV, asksI, asks3] at ho
    split at ho
    · simp at ho
    · split at ho
      · obtain ⟨e, he, rfl⟩ := List.mem_map.1 ho
        exact hmem w hw _ (elem_in hm (hin i hi) he).1
      · split at ho
        · simp at ho
        · obtain ⟨f, hf, ho⟩ := List.mem_flatMap.1 ho
          unfold askLk at ho
          cases hg : look1 s ⟨w.kind, w.n⟩ f.name with
          | none => rw [hg] at ho; simp at ho
          | some w' =>
            rw [hg] at ho
            simp only [List.mem_singleton] at ho
            subst ho
            exact hmem w' (look_vals hS hg) _ (field_in hm (hin i hi) hf)
  · obtain ⟨w, hw, i, hi, rfl⟩ := mem_keysI.1 (mem_dedup.1 hq)
    simp only [ruleI, keyV, asksI, asks3]
    split
    · simp
    · split
      · rw [List.length_map]; exact (hat i hi).2.2
      · split
        · simp
        · refine Nat.le_trans ?_ (hat i hi).2.1
          generalize (tyAt t i).fields.list = l
          induction l with
          | nil => simp
          | cons f l ih =>
            rw [List.flatMap_cons, List.length_append, List.length_cons]
            have : (askLk s ⟨w.kind, w.n⟩ f).length ≤ 1 := by unfold askLk; split <;> simp
            omega
  · obtain ⟨w, hw, i, hi, rfl⟩ := mem_keysI.1 (mem_dedup.1 hq)
    simp only [ruleI, keyV, asksI, resI, asks3, res3] at h ⊢
    have hall : ∀ {l : List K}, (l.map a).all id = true → (l.map b).all id = true := fun {l} h1 => by
      simp only [List.all_eq_true, List.mem_map, id] at h1 ⊢
      rintro x ⟨o, ho, rfl⟩
      exact hab o (h1 _ ⟨o, ho, rfl⟩)
    by_cases h0 : (tyAt t i).kind = 0
    · simp only [if_pos h0]
    by_cases h5 : (tyAt t i).kind = 5
    · simp only [if_neg h0, if_pos h5] at h ⊢
      simp only [List.any_eq_true, List.mem_map, id] at h ⊢
      obtain ⟨x, ⟨o, ho, rfl⟩, hx⟩ := h
      exact ⟨_, ⟨o, ho, rfl⟩, hab o hx⟩
    by_cases h8 : kindOf (tyAt t i).kind ≠ w.kind
    · simp only [if_neg h0, if_neg h5, if_pos h8] at h
      cases h
    · simp only [if_neg h0, if_neg h5, if_neg h8] at h ⊢
      rw [Bool.and_eq_true] at h ⊢
      exact ⟨h.1, hall h.2⟩
end Go.VM
