/-
  What is found of a name in an object, or its prototypes.
-/
import Derived.Test.YtbkiekkconlebaaTySR3
import Derived.KernelRfl
set_option linter.all false
set_option linter.all false
set_option maxRecDepth 100000
set_option maxHeartbeats 4000000
namespace Go.VM
open Go Go.Sv

noncomputable def propGet (l : List Pr) (name : ByteArray) : Option Va := (l.find? fun f => dec (f.name = name)).map (·.val)
theorem propGet_at {l : List Pr} {name : ByteArray} {k : Nat} (h : k < l.length) (hk : (l[k]).name = name) (hb : ∀ j (hj : j < l.length), j < k → (l[j]).name ≠ name) : propGet l name = some (l[k]).val := by
  unfold propGet
  have : l.find? (fun f => dec (f.name = name)) = some l[k] := by
    rw [List.find?_eq_some_iff_append]
    refine ⟨dec_true hk, l.take k, l.drop (k + 1), ?_, fun a ha => ?_⟩
    · rw [← List.drop_eq_getElem_cons h, List.take_append_drop]
    · obtain ⟨j, hj, rfl⟩ := List.getElem_of_mem ha
      simp only [List.length_take] at hj
      simp only [List.getElem_take]
      rw [dec_false (hb j (by omega) (by omega))]
      rfl
  rw [this]; rfl
theorem propGet_none {l : List Pr} {name : ByteArray} (h : ∀ j (hj : j < l.length), (l[j]).name ≠ name) : propGet l name = none := by
  unfold propGet
  have : l.find? (fun f => dec (f.name = name)) = none := by
    rw [List.find?_eq_none]
    intro a ha
    obtain ⟨j, hj, rfl⟩ := List.getElem_of_mem ha
    rw [dec_false (h j hj)]
    simp
  rw [this]; rfl
theorem propGet_mem {l : List Pr} {name : ByteArray} {w : Va} (h : propGet l name = some w) : ∃ p ∈ l, p.val = w := by
  unfold propGet at h
  cases hf : l.find? fun f => dec (f.name = name) with
  | none => rw [hf] at h; cases h
  | some f => rw [hf] at h; exact ⟨f, List.mem_of_find?_eq_some hf, by simpa using h⟩
theorem propGet_bs {l : List Pr} {name : ByteArray} {k : Nat} {found : Bool} (hr : Rising Pr.name l) (ok : BsOk Pr.name l name k found) : (found = true → ∃ h : k < l.length, propGet l name = some (l[k]).val) ∧ (found = false → propGet l name = none) := by
  refine ⟨fun h => ?_, fun h => ?_⟩
  · obtain ⟨hk, he⟩ := ok.is.1 h
    refine ⟨hk, propGet_at hk he fun j hj hjk => ?_⟩
    have := ok.lo j hj hjk
    intro h
    rw [h, slt_irrefl] at this; cases this
  · refine propGet_none fun j hj he => ?_
    by_cases hjk : j < k
    · have := ok.lo j hj hjk
      rw [he, slt_irrefl] at this; cases this
    · by_cases hje : j = k
      · subst hje
        have := ok.is.2 ⟨hj, he⟩
        rw [h] at this; cases this
      · have h1 := hr.lt (i := k) hj (by omega)
        have h2 := ok.hi k (by omega) (Nat.le_refl _)
        rw [he] at h1
        rw [h1] at h2; cases h2

noncomputable def lookN (s : List Ob) (name : ByteArray) : Nat → Va → Option Va
  | 0, _ => none
  | f + 1, v => if v.kind = 4 ∧ 0 ≤ v.n ∧ v.n < s.length then
      (match (s[v.n.toNat]?) with
      | some o => (match propGet o.props.list name with
        | some w => some w
        | none => lookN s name f o.proto)
      | none => none) else none
noncomputable def look1 (s : List Ob) (v : Va) (name : ByteArray) : Option Va := lookN s name (v.n.toNat + 1) v
variable {s : List Ob} {name : ByteArray}
theorem lookN_no {f : Nat} {v : Va} (h : ¬ (v.kind = 4 ∧ 0 ≤ v.n ∧ v.n < s.length)) : lookN s name f v = none := by
  cases f with
  | zero => rfl
  | succ f => unfold lookN; rw [if_neg h]
theorem lookN_eq (hS : StoreP s) : ∀ (f g : Nat) (v : Va), v.n.toNat < f → v.n.toNat < g → lookN s name f v = lookN s name g v
  | 0, _, _, h, _ => absurd h (by omega)
  | _, 0, _, _, h => absurd h (by omega)
  | f + 1, g + 1, v, hf, hg => by
    by_cases hv : v.kind = 4 ∧ 0 ≤ v.n ∧ v.n < s.length
    · have hlt : v.n.toNat < s.length := by omega
      unfold lookN
      rw [if_pos hv, if_pos hv, List.getElem?_eq_getElem hlt]
      simp only
      cases propGet (s[v.n.toNat]).props.list name with
      | some w => rfl
      | none =>
        rcases (hS v.n.toNat hlt).2 with h | h
        · simp only
          rw [lookN_no (by omega), lookN_no (by omega)]
        · exact lookN_eq hS f g _ (by omega) (by omega)
    · rw [lookN_no hv, lookN_no hv]
theorem look_no {v : Va} (h : ¬ (v.kind = 4 ∧ 0 ≤ v.n ∧ v.n < s.length)) : look1 s v name = none := lookN_no h
theorem look_yes (hS : StoreP s) {v : Va} (h : v.kind = 4 ∧ 0 ≤ v.n ∧ v.n < s.length) (hlt : v.n.toNat < s.length) : look1 s v name = (match propGet (s[v.n.toNat]).props.list name with | some w => some w | none => look1 s (s[v.n.toNat]).proto name) := by
  unfold look1
  rw [lookN, if_pos h, List.getElem?_eq_getElem hlt]
  simp only
  cases propGet (s[v.n.toNat]).props.list name with
  | some w => rfl
  | none =>
    rcases (hS v.n.toNat hlt).2 with h | h
    · simp only
      rw [lookN_no (by omega), lookN_no (by omega)]
    · exact lookN_eq hS _ _ _ (by omega) (by omega)
/-- What is found is a property's value. -/
theorem look_mem (hS : StoreP s) : ∀ (n : Nat) (v w : Va), v.n.toNat < n → look1 s v name = some w → ∃ i, ∃ h : i < s.length, ∃ p ∈ (s[i]).props.list, p.val = w
  | 0, v, _, h, _ => absurd h (by omega)
  | n + 1, v, w, hn, h => by
    by_cases hv : v.kind = 4 ∧ 0 ≤ v.n ∧ v.n < s.length
    · have hlt : v.n.toNat < s.length := by omega
      rw [look_yes hS hv hlt] at h
      cases hp : propGet (s[v.n.toNat]).props.list name with
      | some w' =>
        rw [hp] at h
        simp only [Option.some.injEq] at h
        subst h
        exact ⟨_, hlt, propGet_mem hp⟩
      | none =>
        rw [hp] at h
        rcases (hS v.n.toNat hlt).2 with h' | h'
        · simp only at h
          rw [look_no (by omega)] at h
          cases h
        · exact look_mem hS n _ w (by omega) h
    · rw [look_no hv] at h; cases h

theorem pcmp_c (f : Pr) (name : ByteArray) (u : Unit) : (callL TT).pure 146 [.agg (encPr f), .str name] u = some (.int .i64 (cmpL f.name.data.toList name.data.toList), u) := by
  refine fn_of rfl rfl (by simp -implicitDefEqProofs only [vm, vs, pairUp, Nat.reduceEqDiff, Nat.reduceAdd, Nat.reduceLeDiff, reduceIte, encPr]) rfl rfl ?_
  unfold v146
  refine Wp.seq (Wp_region ?_)
  simp -implicitDefEqProofs only [vm, vs, pairUp, Nat.reduceEqDiff, Nat.reduceAdd, Nat.reduceLeDiff, reduceIte, encPr]
  refine Wp.seq (Wp_region ?_)
  simp -implicitDefEqProofs only [vm, vs, pairUp, Nat.reduceEqDiff, Nat.reduceAdd, Nat.reduceLeDiff, reduceIte, sh_TT, shTy, compare_c]
  refine Wp.ret ?_
  simp -implicitDefEqProofs only [vm, vs, pairUp, Nat.reduceEqDiff, Nat.reduceAdd, Nat.reduceLeDiff, reduceIte]
theorem find_c (o : Ob) (name : ByteArray) (hr : Rising Pr.name o.props.list) : ∃ k found, (∀ u, (callL TT).pure 127 [.agg (encOb o), .str name] u = some (.tup [.int .i64 (k : Nat), .bool found], u)) ∧ BsOk Pr.name o.props.list name k found := by
  obtain ⟨k, found, hb, ok⟩ := bs_c (T := TT) (enc := encPr) (sz := 3) (fun _ => rfl) (fun _ => by simp only [encPr, vm, vs, pairUp, Nat.reduceEqDiff, Nat.reduceAdd, Nat.reduceLeDiff, reduceIte]) (fun _ _ => by simp only [encPr, vm, vs, pairUp, Nat.reduceEqDiff, Nat.reduceAdd, Nat.reduceLeDiff, reduceIte]) Pr.name (f := 145) (fid := 146) rfl rfl rfl o.props name (fun a u => pcmp_c a name u) hr ()
  have hb' : ∀ v, (callL TT).pure 145 [slD encPr o.props, .str name, .fn 146 []] v = some (.tup [.int .i64 (k : Nat), .bool found], v) := fun v => hb
  refine ⟨k, found, fun u => ?_, ok⟩
  refine fn_of rfl rfl (by simp -implicitDefEqProofs only [vm, vs, pairUp, Nat.reduceEqDiff, Nat.reduceAdd, Nat.reduceLeDiff, reduceIte, encOb]) rfl rfl ?_
  unfold v127
  refine Wp.seq (Wp_region ?_)
  simp -implicitDefEqProofs only [vm, vs, pairUp, Nat.reduceEqDiff, Nat.reduceAdd, Nat.reduceLeDiff, reduceIte, encOb]
  refine Wp.seq (Wp_region ?_)
  simp -implicitDefEqProofs only [vm, vs, pairUp, Nat.reduceEqDiff, Nat.reduceAdd, Nat.reduceLeDiff, reduceIte, sh_TT, shTy, hb', hset_eq, if_true, List.drop_zero, List.getElem?_cons_zero, List.getElem?_cons_succ]
  refine Wp.ret ?_
  simp -implicitDefEqProofs only [vm, vs, pairUp, Nat.reduceEqDiff, Nat.reduceAdd, Nat.reduceLeDiff, reduceIte]
end Go.VM
