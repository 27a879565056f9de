/-
  A property's type: the program's search and the document's.
-/
import Derived.Test.YtbkiekkconlebaaTyF3
set_option linter.all false
set_option linter.all false
set_option maxRecDepth 100000
namespace Go.VM
open Go

noncomputable def fieldGet (l : List TF) (name : ByteArray) : Option Int := (l.find? fun f => dec (f.name = name)).map (·.type)
noncomputable def fieldD (l : List TF) (name : ByteArray) : D := .tup [.int .i64 ((fieldGet l name).getD 0), .bool (fieldGet l name).isSome]
theorem fieldGet_at {l : List TF} {name : ByteArray} {k : Nat} (h : k < l.length) (hk : (l[k]).name = name) (hb : ∀ j (hj : j < l.length), j < k → (l[j]).name ≠ name) : fieldGet l name = some (l[k]).type := by
  unfold fieldGet
  have : l.find? (fun f => dec (f.name = name)) = some l[k] := by
    rw [List.find?_eq_some_iff_append]
    refine ⟨dec_true hk, l.take k, l.drop (k + 1), ?_, fun a ha => ?_⟩
    · rw [← List.drop_eq_getElem_cons h, List.take_append_drop]
    · obtain ⟨j, hj, rfl⟩ := List.getElem_of_mem ha
      simp only [List.length_take] at hj
      simp only [List.getElem_take]
      rw [dec_false (hb j (by omega) (by omega))]
      rfl
  rw [this]; rfl
theorem fieldGet_none {l : List TF} {name : ByteArray} (h : ∀ j (hj : j < l.length), (l[j]).name ≠ name) : fieldGet l name = none := by
  unfold fieldGet
  have : l.find? (fun f => dec (f.name = name)) = none := by
    rw [List.find?_eq_none]
    intro a ha
    obtain ⟨j, hj, rfl⟩ := List.getElem_of_mem ha
    rw [dec_false (h j hj)]
    simp
  rw [this]; rfl

theorem cmpstring_c (a b : ByteArray) (u : Unit) : (callL TT).pure 152 [.str a, .str b] u = some (.int .i64 (cmpL a.data.toList b.data.toList), u) := callL_prim rfl rfl
theorem cmpstr_c (a b : ByteArray) (u : Unit) : (callL TT).pure 144 [.str a, .str b] u = some (.int .i64 (cmpL a.data.toList b.data.toList), u) := by
  refine fn_of rfl rfl (by simp -implicitDefEqProofs only [vm, pairUp, Nat.reduceEqDiff, Nat.reduceAdd, Nat.reduceLeDiff, reduceIte]) rfl rfl ?_
  unfold v144
  refine Wp.seq (Wp_region ?_)
  simp -implicitDefEqProofs only [vm, pairUp, Nat.reduceEqDiff, Nat.reduceAdd, Nat.reduceLeDiff, reduceIte]
  refine Wp.seq (Wp_region ?_)
  simp -implicitDefEqProofs only [vm, pairUp, Nat.reduceEqDiff, Nat.reduceAdd, Nat.reduceLeDiff, reduceIte, sh_TT, shTy, cmpstring_c]
  refine Wp.ret ?_
  simp -implicitDefEqProofs only [vm, pairUp, Nat.reduceEqDiff, Nat.reduceAdd, Nat.reduceLeDiff, reduceIte]
theorem compare_c (a b : ByteArray) (u : Unit) : (callL TT).pure 124 [.str a, .str b] u = some (.int .i64 (cmpL a.data.toList b.data.toList), u) := by
  refine fn_of rfl rfl (by simp -implicitDefEqProofs only [vm, pairUp, Nat.reduceEqDiff, Nat.reduceAdd, Nat.reduceLeDiff, reduceIte]) rfl rfl ?_
  unfold v124
  refine Wp.seq (Wp_region ?_)
  simp -implicitDefEqProofs only [vm, pairUp, Nat.reduceEqDiff, Nat.reduceAdd, Nat.reduceLeDiff, reduceIte]
  refine Wp.seq (Wp_region ?_)
  simp -implicitDefEqProofs only [vm, pairUp, Nat.reduceEqDiff, Nat.reduceAdd, Nat.reduceLeDiff, reduceIte, sh_TT, shTy, cmpstr_c]
  refine Wp.ret ?_
  simp -implicitDefEqProofs only [vm, pairUp, Nat.reduceEqDiff, Nat.reduceAdd, Nat.reduceLeDiff, reduceIte]
theorem fcmp_c (f : TF) (name : ByteArray) (u : Unit) : (callL TT).pure 123 [.agg (encTF f), .str name] u = some (.int .i64 (cmpL f.name.data.toList name.data.toList), u) := by
  refine fn_of rfl rfl (by simp -implicitDefEqProofs only [vm, pairUp, Nat.reduceEqDiff, Nat.reduceAdd, Nat.reduceLeDiff, reduceIte, encTF]) rfl rfl ?_
  unfold v123
  refine Wp.seq (Wp_region ?_)
  simp -implicitDefEqProofs only [vm, pairUp, Nat.reduceEqDiff, Nat.reduceAdd, Nat.reduceLeDiff, reduceIte, encTF]
  refine Wp.seq (Wp_region ?_)
  simp -implicitDefEqProofs only [vm, pairUp, Nat.reduceEqDiff, Nat.reduceAdd, Nat.reduceLeDiff, reduceIte, sh_TT, shTy, compare_c]
  refine Wp.ret ?_
  simp -implicitDefEqProofs only [vm, pairUp, Nat.reduceEqDiff, Nat.reduceAdd, Nat.reduceLeDiff, reduceIte]
theorem field_c (x : Ty) (name : ByteArray) (hr : Rising TF.name x.fields.list) (u : Unit) : (callL TT).pure 65 [.agg (encTy x), .str name] u = some (fieldD x.fields.list name, u) := by
  obtain ⟨k, found, hb, ok⟩ := bs_c (T := TT) (enc := encTF) (sz := 2) (fun _ => rfl) (fun _ => by simp only [encTF, vm, pairUp, Nat.reduceEqDiff, Nat.reduceAdd, Nat.reduceLeDiff, reduceIte]) (fun _ _ => by simp only [encTF, vm, pairUp, Nat.reduceEqDiff, Nat.reduceAdd, Nat.reduceLeDiff, reduceIte]) TF.name (f := 122) (fid := 123) rfl rfl rfl x.fields name (fun a u => fcmp_c a name u) hr u
  have hb' : ∀ v, (callL TT).pure 122 [slD encTF x.fields, .str name, .fn 123 []] v = some (.tup [.int .i64 (k : Nat), .bool found], v) := fun v => hb
  refine fn_of rfl rfl (by simp -implicitDefEqProofs only [vm, pairUp, Nat.reduceEqDiff, Nat.reduceAdd, Nat.reduceLeDiff, reduceIte, encTy]) rfl rfl ?_
  unfold v65
  refine Wp.seq (Wp_region ?_)
  simp -implicitDefEqProofs only [vm, pairUp, Nat.reduceEqDiff, Nat.reduceAdd, Nat.reduceLeDiff, reduceIte, encTy]
  refine Wp.seq (Wp_region ?_)
  simp -implicitDefEqProofs only [vm, pairUp, Nat.reduceEqDiff, Nat.reduceAdd, Nat.reduceLeDiff, reduceIte, sh_TT, shTy, hb', List.getElem?_cons_zero, List.getElem?_cons_succ]
  refine Wp.seq (Wp.seq (Wp_region ?_))
  simp -implicitDefEqProofs only [vm, pairUp, Nat.reduceEqDiff, Nat.reduceAdd, Nat.reduceLeDiff, reduceIte]
  cases found with
  | false =>
    refine Wp.condT rfl (Wp.seq (Wp_region ?_))
    simp -implicitDefEqProofs only [vm, pairUp, Nat.reduceEqDiff, Nat.reduceAdd, Nat.reduceLeDiff, reduceIte]
    refine Wp.ret ?_
    simp -implicitDefEqProofs only [vm, pairUp, Nat.reduceEqDiff, Nat.reduceAdd, Nat.reduceLeDiff, reduceIte]
    have hn : fieldGet x.fields.list name = none := fieldGet_none fun j hj he => by
      by_cases hjk : j < k
      · have := ok.lo j hj hjk
        rw [he, slt_irrefl] at this; cases this
      · by_cases hje : j = k
        · subst hje
          have := ok.is.2 ⟨hj, he⟩
          cases this
        · have h1 := hr.lt (i := k) hj (by omega)
          have h2 := ok.hi k (by omega) (Nat.le_refl _)
          rw [he] at h1
          rw [h1] at h2; cases h2
    simp only [fieldD, hn]
    rfl
  | true =>
    obtain ⟨hk, he⟩ := ok.is.1 rfl
    refine Wp.condF rfl (Wp.skip ?_)
    simp -implicitDefEqProofs only [vm, pairUp, Nat.reduceEqDiff, Nat.reduceAdd, Nat.reduceLeDiff, reduceIte]
    have ia := fun H : Hp => iaD_nat (H := H) (enc := encTF) (sz := 2) hk rfl
    refine Wp.seq (Wp_region ?_)
    simp -implicitDefEqProofs only [vm, pairUp, Nat.reduceEqDiff, Nat.reduceAdd, Nat.reduceLeDiff, reduceIte, ia, encTF]
    refine Wp.ret ?_
    simp -implicitDefEqProofs only [vm, pairUp, Nat.reduceEqDiff, Nat.reduceAdd, Nat.reduceLeDiff, reduceIte]
    have hn : fieldGet x.fields.list name = some (x.fields.list[k]).type := fieldGet_at hk he fun j hj hjk => by
      have := ok.lo j hj hjk
      intro h
      rw [h, slt_irrefl] at this; cases this
    simp only [fieldD, hn]
    rfl
theorem fieldR_c (x : Ty) (name : ByteArray) (u : Unit) : (callL TT).pure 125 [.agg (encTy x), .str name] u = some (fieldD x.fields.list name, u) := by
  refine fn_of rfl rfl (by simp -implicitDefEqProofs only [vm, pairUp, Nat.reduceEqDiff, Nat.reduceAdd, Nat.reduceLeDiff, reduceIte, encTy]) rfl rfl ?_
  unfold v125
  refine Wp.seq (Wp_region ?_)
  simp -implicitDefEqProofs only [vm, pairUp, Nat.reduceEqDiff, Nat.reduceAdd, Nat.reduceLeDiff, reduceIte, encTy]
  refine Wp.seq (Wp.seq (Wp_region ?_))
  simp -implicitDefEqProofs only [vm, pairUp, Nat.reduceEqDiff, Nat.reduceAdd, Nat.reduceLeDiff, reduceIte]
  refine Wp.block (Wp.loopT (Inv := fun n e H _ => ∃ k : Nat, k ≤ x.fields.list.length ∧ n = x.fields.list.length - k ∧ e 1 = some (.str name) ∧ e 2 = some (.box 2 0) ∧ e 6 = some (.int .i64 k) ∧ H 2 = some (.vars (encTy x)) ∧ ∀ j (h : j < x.fields.list.length), j < k → (x.fields.list[j]).name ≠ name) ?_ (n := x.fields.list.length) ⟨0, by omega, rfl, rfl, rfl, rfl, rfl, fun j _ h => by omega⟩)
  rintro n e3 H g3 ⟨k, hk, rfl, n1, n2, n6, hH2, hfs⟩
  refine ⟨hOk_cons hH2 (by simp only [encTy, HC.okH, vm, pairUp, Nat.reduceEqDiff, Nat.reduceAdd, Nat.reduceLeDiff, reduceIte, okH1_sl]; rfl) rfl, ?_⟩
  have k1 : keepEnv [1, 2, 6] [2] e3 1 = some (.str name) := keepEnv_some n1 rfl rfl
  have k2 : keepEnv [1, 2, 6] [2] e3 2 = some (.box 2 0) := keepEnv_some n2 rfl rfl
  have k6 : keepEnv [1, 2, 6] [2] e3 6 = some (.int .i64 k) := keepEnv_some n6 rfl rfl
  have q2 : keepHp [2] H 2 = some (.vars (encTy x)) := keepHp_in hH2 rfl
  generalize keepEnv [1, 2, 6] [2] e3 = e4 at k1 k2 k6
  generalize keepHp [2] H = H4 at q2
  have q2' := q2
  simp only [encTy] at q2
  refine Wp.seq (Wp.seq (Wp_region ?_))
  simp -implicitDefEqProofs only [vm, pairUp, Nat.reduceEqDiff, Nat.reduceAdd, Nat.reduceLeDiff, reduceIte, k2, k6, q2]
  by_cases hkl : k < x.fields.list.length
  · refine Wp.condT (by simp -implicitDefEqProofs only [vm, pairUp, Nat.reduceEqDiff, Nat.reduceAdd, Nat.reduceLeDiff, reduceIte]; simp [hkl]) (Wp.skip ?_)
    simp -implicitDefEqProofs only [vm, pairUp, Nat.reduceEqDiff, Nat.reduceAdd, Nat.reduceLeDiff, reduceIte]
    have ia2 := fun H : Hp => iaD_nat (H := H) (enc := encTF) (sz := 2) hkl rfl
    refine Wp.seq (Wp.block (Wp.seq (Wp_region ?_)))
    simp -implicitDefEqProofs only [vm, pairUp, Nat.reduceEqDiff, Nat.reduceAdd, Nat.reduceLeDiff, reduceIte, k1, k2, k6, q2, ia2, encTF]
    cases a1 : ((x.fields.list[k]).name == name)
    · refine Wp.condF (by simp -implicitDefEqProofs only [vm, pairUp, Nat.reduceEqDiff, Nat.reduceAdd, Nat.reduceLeDiff, reduceIte, a1]) (Wp.skip ?_)
      simp -implicitDefEqProofs only [vm, pairUp, Nat.reduceEqDiff, Nat.reduceAdd, Nat.reduceLeDiff, reduceIte]
      have hw := wrap_nat (n := k) (by have := x.fields.len_le; omega)
      refine Wp_region ?_
      simp -implicitDefEqProofs only [vm, pairUp, Nat.reduceEqDiff, Nat.reduceAdd, Nat.reduceLeDiff, reduceIte, k6, hw]
      refine Round_normal ⟨x.fields.list.length - (k + 1), by omega, k + 1, by omega, rfl, k1, k2, rfl, q2', fun j h hj => ?_⟩
      by_cases hjk : j = k
      · subst hjk
        intro he
        rw [he, (MapKept.bytes_beq name name).2 rfl] at a1
        cases a1
      · exact hfs j h (by omega)
    · refine Wp.condT (by simp -implicitDefEqProofs only [vm, pairUp, Nat.reduceEqDiff, Nat.reduceAdd, Nat.reduceLeDiff, reduceIte, a1]) (Wp.seq (Wp_region ?_))
      simp -implicitDefEqProofs only [vm, pairUp, Nat.reduceEqDiff, Nat.reduceAdd, Nat.reduceLeDiff, reduceIte, k2, k6, q2, ia2, encTF]
      refine Wp.ret ?_
      simp -implicitDefEqProofs only [vm, pairUp, Nat.reduceEqDiff, Nat.reduceAdd, Nat.reduceLeDiff, reduceIte]
      have he : (x.fields.list[k]).name = name := (MapKept.bytes_beq _ _).1 a1
      rw [fieldD, fieldGet_at hkl he (fun j hj hjk => hfs j hj hjk)]
      rfl
  · refine Wp.condF (by simp -implicitDefEqProofs only [vm, pairUp, Nat.reduceEqDiff, Nat.reduceAdd, Nat.reduceLeDiff, reduceIte]; simp [hkl]) (Wp.exit ?_)
    simp -implicitDefEqProofs only [vm, pairUp, Nat.reduceEqDiff, Nat.reduceAdd, Nat.reduceLeDiff, reduceIte]
    refine Wp.seq (Wp_region ?_)
    simp -implicitDefEqProofs only [vm, pairUp, Nat.reduceEqDiff, Nat.reduceAdd, Nat.reduceLeDiff, reduceIte]
    refine Wp.ret ?_
    simp -implicitDefEqProofs only [vm, pairUp, Nat.reduceEqDiff, Nat.reduceAdd, Nat.reduceLeDiff, reduceIte]
    rw [fieldD, fieldGet_none (fun j hj => hfs j hj (by omega))]
    rfl
end Go.VM
