/-
  When is a type sub of another: the rule, without a program.
-/
import Derived.Test.YtbkiekkconlebaaM5
import Derived.Test.YtbkiekkconlebaaTyF4
set_option linter.all false
set_option linter.all false
set_option maxRecDepth 100000
namespace Go.VM
open Go Go.Sv

def tyAt (t : List Ty) (i : Int) : Ty := (t[i.toNat]?).getD ⟨0, .nil, .nil⟩
theorem tyAt_get {t : List Ty} {i : Nat} (h : i < t.length) : tyAt t (i : Int) = t[i] := by simp [tyAt, h]
theorem tyAt_mem {t : List Ty} {i : Int} (h0 : 0 ≤ i) (h : i < t.length) : ∃ j : Nat, ∃ hj : j < t.length, i = (j : Int) ∧ tyAt t i = t[j] := ⟨i.toNat, by omega, by omega, by
  have : i.toNat < t.length := by omega
  simp [tyAt, this]⟩
noncomputable def askF (l : List TF) (f : TF) : List K := match fieldGet l f.name with
  | some n => [[n, f.type]]
  | none => []
/-- Whom a pair asks. -/
noncomputable def asks2 (t : List Ty) (a b : Int) : List K :=
  if (tyAt t a).kind = 5 then (tyAt t a).elems.list.map fun e => [e, b]
  else if (tyAt t b).kind = 5 then (tyAt t b).elems.list.map fun e => [a, e]
  else if (tyAt t b).kind = 0 then []
  else if (tyAt t a).kind ≠ (tyAt t b).kind then []
  else (tyAt t b).fields.list.flatMap (askF (tyAt t a).fields.list)
/-- What it must have. -/
noncomputable def res2 (t : List Ty) (a b : Int) (l : List Bool) : Bool :=
  if (tyAt t a).kind = 5 then l.all id
  else if (tyAt t b).kind = 5 then l.any id
  else if (tyAt t b).kind = 0 then true
  else if (tyAt t a).kind ≠ (tyAt t b).kind then false
  else ((tyAt t b).fields.list.all fun f => (fieldGet (tyAt t a).fields.list f.name).isSome) && l.all id
noncomputable def asksT (t : List Ty) : K → List K
  | [a, b] => asks2 t a b
  | _ => []
noncomputable def resT (t : List Ty) : K → List Bool → Bool
  | [a, b], l => res2 t a b l
  | _, _ => false
def pairsT (n : Nat) : List K := (List.range n).flatMap fun i : Nat => (List.range n).map fun j : Nat => [(i : Int), (j : Int)]
theorem mem_pairsT {n : Nat} {q : K} : q ∈ pairsT n ↔ ∃ i j : Nat, i < n ∧ j < n ∧ q = [(i : Int), (j : Int)] := by
  unfold pairsT
  simp only [List.mem_flatMap, List.mem_range, List.mem_map]
  constructor
  · rintro ⟨i, hi, j, hj, rfl⟩; exact ⟨i, j, hi, hj, rfl⟩
  · rintro ⟨i, j, hi, hj, rfl⟩; exact ⟨i, hi, j, hj, rfl⟩
theorem pairsT_len (n : Nat) : (pairsT n).length = n * n := by
  unfold pairsT
  rw [List.length_flatMap]
  simp only [List.length_map, List.length_range]
  have : ∀ l : List Nat, (l.map fun _ => n).sum = l.length * n := fun l => by
    induction l with
    | nil => simp
    | cons x l ih => rw [List.map_cons, List.sum_cons, ih, List.length_cons, Nat.succ_mul]; omega
  rw [this, List.length_range]
theorem pairsT_nd (n : Nat) : (pairsT n).Nodup := by
  unfold pairsT
  rw [List.Nodup, List.pairwise_flatMap]
  refine ⟨fun i _ => ?_, ?_⟩
  · rw [List.pairwise_map]
    refine List.Pairwise.imp ?_ List.nodup_range
    intro a b hab h
    simp at h
    exact hab (by omega)
  · refine List.Pairwise.imp ?_ List.nodup_range
    intro a b hab x hx y hy h
    simp only [List.mem_map] at hx hy
    obtain ⟨_, _, rfl⟩ := hx
    obtain ⟨_, _, rfl⟩ := hy
    simp at h
    exact hab (by omega)
noncomputable def ruleT (t : List Ty) : Rule := ⟨pairsT t.length, asksT t, resT t⟩

theorem fieldGet_mem {l : List TF} {name : ByteArray} {n : Int} (h : fieldGet l name = some n) : ∃ f ∈ l, f.type = n := by
  unfold fieldGet at h
  cases hf : l.find? fun f => dec (f.name = name) with
  | none => rw [hf] at h; cases h
  | some f => rw [hf] at h; exact ⟨f, List.mem_of_find?_eq_some hf, by simpa using h⟩
theorem all_map {α : Type} {l : List α} {f : α → K} {a b : K → Bool} (h : ∀ o, a o = true → b o = true) (h1 : (l.map f |>.map a).all id = true) : (l.map f |>.map b).all id = true := by
  simp only [List.all_eq_true, List.mem_map, id] at h1 ⊢
  rintro x ⟨o, ho, rfl⟩
  exact h o (h1 _ ⟨o, ho, rfl⟩)

theorem ruleT_ok {t : List Ty} (hm : MayP t) (hs : ∀ i (h : i < t.length), (t[i]).fields.list.length ≤ 10 ∧ (t[i]).elems.list.length ≤ 10) : (ruleT t).Ok := by
  have hat : ∀ i : Nat, i < t.length → OkTy t.length i (tyAt t i) ∧ (tyAt t i).fields.list.length ≤ 10 ∧ (tyAt t i).elems.list.length ≤ 10 := fun i hi => by
    rw [tyAt_get hi]; exact ⟨hm.1 i hi, hs i hi⟩
  have hty : ∀ i : Nat, i < t.length → ∀ f ∈ (tyAt t i).fields.list, 0 ≤ f.type ∧ f.type < t.length := fun i hi f hf => by
    obtain ⟨k, hk, rfl⟩ := List.getElem_of_mem hf
    obtain ⟨h1, h2, _⟩ := (hat i hi).1.2.1 k hk
    exact ⟨h1, h2⟩
  have hmem : ∀ x y : Int, 0 ≤ x → x < t.length → 0 ≤ y → y < t.length → ([x, y] : K) ∈ pairsT t.length := fun x y hx hx' hy hy' => mem_pairsT.2 ⟨x.toNat, y.toNat, by omega, by omega, by
    rw [Int.toNat_of_nonneg hx, Int.toNat_of_nonneg hy]⟩
  refine ⟨pairsT_nd t.length, fun q hq o ho => ?_, fun q hq => ?_, fun q hq a b hab h => ?_⟩
  · obtain ⟨i, j, hi, hj, rfl⟩ := mem_pairsT.1 hq
    show o ∈ pairsT t.length
    simp only [ruleT, asksT, asks2] at ho
    split at ho
    · obtain ⟨e, he, rfl⟩ := List.mem_map.1 ho
      obtain ⟨h1, h2⟩ := (hat i hi).1.2.2 e he
      exact hmem _ _ h1 (by omega) (by omega) (by omega)
    · split at ho
      · obtain ⟨e, he, rfl⟩ := List.mem_map.1 ho
        obtain ⟨h1, h2⟩ := (hat j hj).1.2.2 e he
        exact hmem _ _ (by omega) (by omega) h1 (by omega)
      · split at ho
        · simp at ho
        · split at ho
          · simp at ho
          · obtain ⟨f, hf, ho⟩ := List.mem_flatMap.1 ho
            unfold askF at ho
            cases hg : fieldGet (tyAt t i).fields.list f.name with
            | none => rw [hg] at ho; simp at ho
            | some n =>
              rw [hg] at ho
              simp only [List.mem_singleton] at ho
              subst ho
              obtain ⟨f', hf', rfl⟩ := fieldGet_mem hg
              obtain ⟨h1, h2⟩ := hty i hi f' hf'
              obtain ⟨h3, h4⟩ := hty j hj f hf
              exact hmem _ _ h1 h2 h3 h4
  · obtain ⟨i, j, hi, hj, rfl⟩ := mem_pairsT.1 hq
    simp only [ruleT, asksT, asks2]
    split
    · rw [List.length_map]; exact (hat i hi).2.2
    · split
      · rw [List.length_map]; exact (hat j hj).2.2
      · split
        · simp
        · split
          · simp
          · refine Nat.le_trans ?_ (hat j hj).2.1
            generalize (tyAt t j).fields.list = l
            induction l with
            | nil => simp
            | cons f l ih =>
              rw [List.flatMap_cons, List.length_append, List.length_cons]
              have : (askF (tyAt t i).fields.list f).length ≤ 1 := by unfold askF; split <;> simp
              omega
  · obtain ⟨i, j, hi, hj, rfl⟩ := mem_pairsT.1 hq
    simp only [ruleT, asksT, resT, asks2, res2] at h ⊢
    have hall : ∀ {l : List K}, (l.map a).all id = true → (l.map b).all id = true := fun {l} h1 => by
      simp only [List.all_eq_true, List.mem_map, id] at h1 ⊢
      rintro x ⟨o, ho, rfl⟩
      exact hab o (h1 _ ⟨o, ho, rfl⟩)
    by_cases h5 : (tyAt t i).kind = 5
    · simp only [h5, if_true] at h ⊢
      exact hall h
    by_cases h6 : (tyAt t j).kind = 5
    · simp only [h5, h6, if_true, if_false] at h ⊢
      simp only [List.any_eq_true, List.mem_map, id] at h ⊢
      obtain ⟨x, ⟨o, ho, rfl⟩, hx⟩ := h
      exact ⟨_, ⟨o, ho, rfl⟩, hab o hx⟩
    by_cases h7 : (tyAt t j).kind = 0
    · simp only [if_neg h5, if_neg h6, if_pos h7]
    by_cases h8 : (tyAt t i).kind ≠ (tyAt t j).kind
    · simp only [if_neg h5, if_neg h6, if_neg h7, if_pos h8] at h
      cases h
    · simp only [if_neg h5, if_neg h6, if_neg h7, if_neg h8] at h ⊢
      rw [Bool.and_eq_true] at h ⊢
      exact ⟨h.1, hall h.2⟩
end Go.VM
