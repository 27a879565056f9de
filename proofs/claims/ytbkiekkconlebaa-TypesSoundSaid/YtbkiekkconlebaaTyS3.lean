/-
  all: it asks of each.
-/
import Derived.Test.YtbkiekkconlebaaTyS2
set_option linter.all false
set_option linter.all false
set_option maxRecDepth 100000
namespace Go.VM
open Go Go.Sv

variable {sz by_ B N : Nat} {rule : D} {C : Hp → Prop} {k : K} {f2 : FuncId} {caps : List D}
theorem askL_mono {l m : List K} {A : SA} : (askL k l A).work.length ≤ (askL k (l ++ m) A).work.length ∧ ∀ o, ((askL k l A).on o).length ≤ ((askL k (l ++ m) A).on o).length := by
  rw [askL_append]; exact askL_len k m _
theorem take_succ_all {α : Type} {l : List α} {i : Nat} (h : i < l.length) (p : α → Bool) : (l.take (i + 1)).all p = ((l.take i).all p && p l[i]) := by
  rw [List.take_succ_eq_append_getElem h, List.all_append]; simp
theorem take_succ_flat {α β : Type} {l : List α} {i : Nat} (h : i < l.length) (p : α → List β) : (l.take (i + 1)).flatMap p = (l.take i).flatMap p ++ p l[i] := by
  rw [List.take_succ_eq_append_getElem h, List.flatMap_append]; simp
theorem take_split_flat {α β : Type} {l : List α} {i : Nat} (h : i < l.length) (p : α → List β) : l.flatMap p = ((l.take i).flatMap p ++ p l[i]) ++ (l.drop (i + 1)).flatMap p := by
  rw [← take_succ_flat h, ← List.flatMap_append, List.take_append_drop]

theorem all_int (hst : ∀ H H', C H → Frame B N H H' → C H') {x : SlOf Int} {oo : Int → List K} {val : Int → (K → Bool) → Bool} (h : ∀ e ∈ x.list, AskOk TT sz by_ B N rule C k f2 ([.int .i64 e] ++ caps) (oo e) (val e)) :
    AskOk TT sz by_ B N rule C k 60 [slD encI x, .fnS f2 caps] (x.list.flatMap oo) (fun v => x.list.all fun e => val e v) := by
  refine AskOk.of fun H n s0 hC hr hd hn h1 h2 => ?_
  have f4096 : roomKeys = 4096 := rfl
  refine fnS_of (vf := v60) rfl rfl (by rfl) rfl ?_
  unfold v60
  refine Wp.seq (Wp_region ?_)
  simp -implicitDefEqProofs only [vm, vs, pairUp, Nat.reduceEqDiff, Nat.reduceAdd, Nat.reduceLeDiff, reduceIte]
  refine Wp.seq (Wp_region ?_)
  simp -implicitDefEqProofs only [vm, vs, pairUp, Nat.reduceEqDiff, Nat.reduceAdd, Nat.reduceLeDiff, reduceIte]
  refine Wp.seq (Wp.seq (Wp_region ?_))
  simp -implicitDefEqProofs only [vm, vs, pairUp, Nat.reduceEqDiff, Nat.reduceAdd, Nat.reduceLeDiff, reduceIte]
  have hlen := x.len_le
  refine Wp.block (Wp.loop (Inv := fun m st => ∃ (i : Nat) (s : SS), i ≤ x.list.length ∧ m = x.list.length - i ∧ st.env 8 = some (slD encI x) ∧ st.env 9 = some (.int .i64 x.list.length) ∧ st.env 10 = some (.int .i64 i) ∧ st.env 1 = some (.fnS f2 caps) ∧ st.env 5 = some (.bool ((x.list.take i).all fun e => val e (ans s0.A))) ∧ Rep sz B rule st.H s ∧ s.A = askL k ((x.list.take i).flatMap oo) s0.A ∧ C st.H ∧ Dom st.H st.g.1 ∧ n + 4096 ≤ st.g.1 ∧ Frame B n H st.H) (n := x.list.length) ?_ ⟨0, s0, by omega, rfl, rfl, rfl, rfl, rfl, rfl, hr, rfl, hC, hd.mono (Nat.le_add_right _ _), Nat.le_refl _, Frame.refl⟩)
  rintro m ⟨e, H1, ⟨b, u⟩, b0⟩ ⟨i, s, hi, rfl, e8, e9, e10, e1, e5, r1, r2, r3, r4, r5, r6⟩
  refine ⟨_, rfl, ?_⟩
  simp only at e8 e9 e10 e1 e5 r1 r3 r4 r5 r6
  unfold anew
  simp only
  refine Wp.seq (Wp_region ?_)
  simp -implicitDefEqProofs only [vm, vs, pairUp, Nat.reduceEqDiff, Nat.reduceAdd, Nat.reduceLeDiff, reduceIte, e9, e10]
  by_cases hlt : i < x.list.length
  · refine Wp.seq (Wp.condT (by simp -implicitDefEqProofs only [vm, vs, pairUp, Nat.reduceEqDiff, Nat.reduceAdd, Nat.reduceLeDiff, reduceIte]; simp [hlt]) (Wp.skip ?_))
    simp -implicitDefEqProofs only [vm, vs, pairUp, Nat.reduceEqDiff, Nat.reduceAdd, Nat.reduceLeDiff, reduceIte]
    have ia := fun H : Hp => iaD_nat (H := H) (enc := encI) (sz := 1) hlt rfl
    have hA := h (x.list[i]) (List.getElem_mem _)
    have hsplit := take_split_flat hlt oo
    obtain ⟨H', g', c1, c2, c3, c4, s', c5, c6⟩ := hA H1 (b + 4096) s r3 r1 (r4.mono (by omega)) (by omega) (by
        rw [r2, ← askL_append]
        refine Nat.le_trans (Nat.mul_le_mul_left _ (Nat.succ_le_succ ?_)) h1
        rw [hsplit]; exact askL_mono.1) (fun o => by
        rw [r2, ← askL_append]
        refine Nat.le_trans (Nat.mul_le_mul_left _ ?_) (h2 o)
        rw [hsplit]; exact askL_mono.2 o)
    have hans : ans s.A = ans s0.A := by funext z; rw [r2, askL_ans]
    rw [hans] at c1
    obtain ⟨n', u'⟩ := g'
    simp only at c2 c3
    refine Wp.seq (Wp.block (Wp.seq (Wp_region ?_)))
    simp -implicitDefEqProofs only [vm, vs, pairUp, Nat.reduceEqDiff, Nat.reduceAdd, Nat.reduceLeDiff, reduceIte, e8, e10, ia, encI]
    simp only [List.cons_append, List.nil_append] at c1
    have hall := take_succ_all hlt (fun e => val e (ans s0.A))
    have hq : ∀ e' : Env, e' 8 = e 8 → e' 9 = e 9 → e' 10 = some (.int .i64 i) → e' 1 = e 1 → e' 5 = some (.bool ((x.list.take (i + 1)).all fun e => val e (ans s0.A))) → inBlock 1 (andThen (callL TT) (.region [⟨some 20, .bin .add .none (.t 10) (.c (.int .i64 1)), none, []⟩,
  ⟨some 10, .mov (.t 20), none, [0]⟩] false) (fun ex st' => match ex with
      | .normal => ∃ m, m < x.list.length - i ∧ ∃ (i : Nat) (s : SS), i ≤ x.list.length ∧ m = x.list.length - i ∧ st'.env 8 = some (slD encI x) ∧ st'.env 9 = some (.int .i64 x.list.length) ∧ st'.env 10 = some (.int .i64 i) ∧ st'.env 1 = some (.fnS f2 caps) ∧ st'.env 5 = some (.bool ((x.list.take i).all fun e => val e (ans s0.A))) ∧ Rep sz B rule st'.H s ∧ s.A = askL k ((x.list.take i).flatMap oo) s0.A ∧ C st'.H ∧ Dom st'.H st'.g.1 ∧ n + 4096 ≤ st'.g.1 ∧ Frame B n H st'.H
      | ex => inBlock 0 (andThen (callL TT) (.seq (.region [⟨some 21, .mov (.t 5), none, []⟩,
  ⟨some 4, .mov (.t 21), none, [0, 0]⟩] false)
 .ret) (EndsP [.tmp 4] fun r H' g' => r = .bool (x.list.all fun e => val e (ans s0.A)) ∧ n ≤ g'.1 ∧ Dom H' g'.1 ∧ Frame B n H H' ∧ ∃ s', Rep sz B rule H' s' ∧ s'.A = askL k (x.list.flatMap oo) s0.A)) ex st')) .normal ⟨e', H', (n', u'), b⟩ := by
      intro e' q8 q9 q10 q1 q5
      simp only [inBlock_normal, andThen_normal]
      refine Wp_region ?_
      simp -implicitDefEqProofs only [vm, vs, pairUp, Nat.reduceEqDiff, Nat.reduceAdd, Nat.reduceLeDiff, reduceIte, q10, wrap_nat (Nat.lt_of_lt_of_le hlt hlen)]
      refine ⟨x.list.length - (i + 1), by omega, i + 1, s', by omega, rfl, ?_, ?_, ?_, ?_, ?_, c5, ?_, ?_, c3, ?_, ?_⟩
      · rw [← e8, ← q8]
      · rw [← e9, ← q9]
      · rfl
      · rw [← e1, ← q1]
      · rw [← q5]
      · rw [c6, r2, ← askL_append, take_succ_flat hlt]
      · exact hst _ _ r3 (c4.mono (by omega))
      · show n + 4096 ≤ n'; omega
      · exact r6.trans (c4.mono (by omega))
    cases hv : val x.list[i] (ans s0.A) with
    | true =>
      rw [hv] at c1 hall
      refine Wp_region ?_
      simp -implicitDefEqProofs only [vm, vs, pairUp, Nat.reduceEqDiff, Nat.reduceAdd, Nat.reduceLeDiff, reduceIte, e1, e5, f4096, List.cons_append, List.nil_append, c1]
      refine hq _ rfl rfl (by rw [← e10]; rfl) rfl ?_
      rw [hall]; simp only [Bool.and_true]; rfl
    | false =>
      rw [hv] at c1 hall
      refine Wp_region ?_
      simp -implicitDefEqProofs only [vm, vs, pairUp, Nat.reduceEqDiff, Nat.reduceAdd, Nat.reduceLeDiff, reduceIte, e1, e5, f4096, List.cons_append, List.nil_append, c1]
      refine hq _ rfl rfl (by rw [← e10]; rfl) rfl ?_
      rw [hall]; simp only [Bool.and_false]; rfl
  · refine Wp.seq (Wp.condF (by simp -implicitDefEqProofs only [vm, vs, pairUp, Nat.reduceEqDiff, Nat.reduceAdd, Nat.reduceLeDiff, reduceIte]; simp [hlt]) (Wp.exit ?_))
    simp -implicitDefEqProofs only [vm, vs, pairUp, Nat.reduceEqDiff, Nat.reduceAdd, Nat.reduceLeDiff, reduceIte]
    refine Wp.seq (Wp_region ?_)
    simp -implicitDefEqProofs only [vm, vs, pairUp, Nat.reduceEqDiff, Nat.reduceAdd, Nat.reduceLeDiff, reduceIte, e5]
    refine Wp.ret ?_
    simp only [EndsP_ret, rawD_tmp, rawD_nil, consO_some, rawO_some, tupD_one, set_eq, Nat.reduceEqDiff, if_true, if_false]
    have hie : i = x.list.length := by omega
    subst hie
    rw [List.take_length] at r2 ⊢
    exact ⟨rfl, by omega, r4.mono (by omega), r6, s, r1, r2⟩
theorem all_field (hN : B + 4096 ≤ N) (hst : ∀ H H', C H → Frame B N H H' → C H') {x : SlOf TF} {oo : TF → List K} {val : TF → (K → Bool) → Bool} (h : ∀ e ∈ x.list, AskOk TT sz by_ B N rule C k f2 ([.agg (encTF e)] ++ caps) (oo e) (val e)) :
    AskOk TT sz by_ B N rule C k 63 [slD encTF x, .fnS f2 caps] (x.list.flatMap oo) (fun v => x.list.all fun e => val e v) := by
  refine AskOk.of fun H n s0 hC hr hd hn h1 h2 => ?_
  have f4096 : roomKeys = 4096 := rfl
  refine fnS_of (vf := v63) rfl rfl (by rfl) rfl ?_
  unfold v63
  refine Wp.seq (Wp_region ?_)
  simp -implicitDefEqProofs only [vm, vs, pairUp, Nat.reduceEqDiff, Nat.reduceAdd, Nat.reduceLeDiff, reduceIte]
  refine Wp.seq (Wp_region ?_)
  simp -implicitDefEqProofs only [vm, vs, pairUp, Nat.reduceEqDiff, Nat.reduceAdd, Nat.reduceLeDiff, reduceIte]
  refine Wp.seq (Wp.seq (Wp_region ?_))
  simp -implicitDefEqProofs only [vm, vs, pairUp, Nat.reduceEqDiff, Nat.reduceAdd, Nat.reduceLeDiff, reduceIte]
  have hlen := x.len_le
  refine Wp.block (Wp.loop (Inv := fun m st => ∃ (i : Nat) (s : SS), i ≤ x.list.length ∧ m = x.list.length - i ∧ st.env 8 = some (slD encTF x) ∧ st.env 9 = some (.int .i64 x.list.length) ∧ st.env 10 = some (.int .i64 i) ∧ st.env 1 = some (.fnS f2 caps) ∧ st.env 5 = some (.bool ((x.list.take i).all fun e => val e (ans s0.A))) ∧ Rep sz B rule st.H s ∧ s.A = askL k ((x.list.take i).flatMap oo) s0.A ∧ C st.H ∧ Dom st.H st.g.1 ∧ n + 4096 ≤ st.g.1 ∧ Frame B n H st.H) (n := x.list.length) ?_ ⟨0, s0, by omega, rfl, rfl, rfl, rfl, rfl, rfl, hr, rfl, hC, hd.mono (Nat.le_add_right _ _), Nat.le_refl _, Frame.refl⟩)
  rintro m ⟨e, H1, ⟨b, u⟩, b0⟩ ⟨i, s, hi, rfl, e8, e9, e10, e1, e5, r1, r2, r3, r4, r5, r6⟩
  refine ⟨_, rfl, ?_⟩
  simp only at e8 e9 e10 e1 e5 r1 r3 r4 r5 r6
  unfold anew
  simp only
  refine Wp.seq (Wp_region ?_)
  simp -implicitDefEqProofs only [vm, vs, pairUp, Nat.reduceEqDiff, Nat.reduceAdd, Nat.reduceLeDiff, reduceIte, e9, e10]
  by_cases hlt : i < x.list.length
  · refine Wp.seq (Wp.condT (by simp -implicitDefEqProofs only [vm, vs, pairUp, Nat.reduceEqDiff, Nat.reduceAdd, Nat.reduceLeDiff, reduceIte]; simp [hlt]) (Wp.skip ?_))
    simp -implicitDefEqProofs only [vm, vs, pairUp, Nat.reduceEqDiff, Nat.reduceAdd, Nat.reduceLeDiff, reduceIte]
    have ia := fun H : Hp => iaD_nat (H := H) (enc := encTF) (sz := 2) hlt rfl
    have hA := h (x.list[i]) (List.getElem_mem _)
    have hsplit := take_split_flat hlt oo
    have f7 : H1 (b + 7) = none := r4 _ (by omega)
    generalize hH2 : (H1.set (b + 7) (.vars [.str ⟨⟨[]⟩⟩, .int .i64 0])).set (b + 7) (.vars [.str (x.list[i]).name, .int .i64 (x.list[i]).type]) = H2
    have r1' : Rep sz B rule H2 s := by rw [← hH2]; exact (r1.set (by omega) (fun a d e => by rw [f7]; simp)).set (by omega) (fun a d e => by rw [Hp.set_same]; simp)
    have hfr2 : Frame B b H1 H2 := by rw [← hH2]; exact (Frame.set (.inr (.inr (.inr (.inl (by omega)))))).trans (Frame.set (.inr (.inr (.inr (.inl (by omega))))))
    have hd2 : Dom H2 (b + 4096) := by rw [← hH2]; exact ((r4.mono (by omega)).set (by omega)).set (by omega)
    obtain ⟨H', g', c1, c2, c3, c4, s', c5, c6⟩ := hA H2 (b + 4096) s (hst _ _ r3 (hfr2.mono (by omega))) r1' hd2 (by omega) (by
        rw [r2, ← askL_append]
        refine Nat.le_trans (Nat.mul_le_mul_left _ (Nat.succ_le_succ ?_)) h1
        rw [hsplit]; exact askL_mono.1) (fun o => by
        rw [r2, ← askL_append]
        refine Nat.le_trans (Nat.mul_le_mul_left _ ?_) (h2 o)
        rw [hsplit]; exact askL_mono.2 o)
    have hans : ans s.A = ans s0.A := by funext z; rw [r2, askL_ans]
    rw [hans] at c1
    obtain ⟨n', u'⟩ := g'
    simp only at c2 c3
    refine Wp.seq (Wp.block (Wp.seq (Wp_region ?_)))
    simp -implicitDefEqProofs only [vm, vs, pairUp, Nat.reduceEqDiff, Nat.reduceAdd, Nat.reduceLeDiff, reduceIte, e8, e10, ia, encTF, f7, hset_eq, if_true]
    rw [hH2]
    simp only [List.cons_append, List.nil_append, encTF] at c1
    have hb7 : H2 (b + 7) = some (.vars [.str (x.list[i]).name, .int .i64 (x.list[i]).type]) := by rw [← hH2, Hp.set_same]
    have hpd : partD true 2 [D.str (x.list[i]).name, .int .i64 (x.list[i]).type] = some (.agg [.str (x.list[i]).name, .int .i64 (x.list[i]).type]) := rfl
    have hall := take_succ_all hlt (fun e => val e (ans s0.A))
    have hq : ∀ e' : Env, e' 8 = e 8 → e' 9 = e 9 → e' 10 = some (.int .i64 i) → e' 1 = e 1 → e' 5 = some (.bool ((x.list.take (i + 1)).all fun e => val e (ans s0.A))) → inBlock 1 (andThen (callL TT) (.region [⟨some 20, .bin .add .none (.t 10) (.c (.int .i64 1)), none, []⟩,
  ⟨some 10, .mov (.t 20), none, [0]⟩] false) (fun ex st' => match ex with
      | .normal => ∃ m, m < x.list.length - i ∧ ∃ (i : Nat) (s : SS), i ≤ x.list.length ∧ m = x.list.length - i ∧ st'.env 8 = some (slD encTF x) ∧ st'.env 9 = some (.int .i64 x.list.length) ∧ st'.env 10 = some (.int .i64 i) ∧ st'.env 1 = some (.fnS f2 caps) ∧ st'.env 5 = some (.bool ((x.list.take i).all fun e => val e (ans s0.A))) ∧ Rep sz B rule st'.H s ∧ s.A = askL k ((x.list.take i).flatMap oo) s0.A ∧ C st'.H ∧ Dom st'.H st'.g.1 ∧ n + 4096 ≤ st'.g.1 ∧ Frame B n H st'.H
      | ex => inBlock 0 (andThen (callL TT) (.seq (.region [⟨some 21, .mov (.t 5), none, []⟩,
  ⟨some 4, .mov (.t 21), none, [0, 0]⟩] false)
 .ret) (EndsP [.tmp 4] fun r H' g' => r = .bool (x.list.all fun e => val e (ans s0.A)) ∧ n ≤ g'.1 ∧ Dom H' g'.1 ∧ Frame B n H H' ∧ ∃ s', Rep sz B rule H' s' ∧ s'.A = askL k (x.list.flatMap oo) s0.A)) ex st')) .normal ⟨e', H', (n', u'), b⟩ := by
      intro e' q8 q9 q10 q1 q5
      simp only [inBlock_normal, andThen_normal]
      refine Wp_region ?_
      simp -implicitDefEqProofs only [vm, vs, pairUp, Nat.reduceEqDiff, Nat.reduceAdd, Nat.reduceLeDiff, reduceIte, q10, wrap_nat (Nat.lt_of_lt_of_le hlt hlen)]
      refine ⟨x.list.length - (i + 1), by omega, i + 1, s', by omega, rfl, ?_, ?_, ?_, ?_, ?_, c5, ?_, ?_, c3, ?_, ?_⟩
      · rw [← e8, ← q8]
      · rw [← e9, ← q9]
      · rfl
      · rw [← e1, ← q1]
      · rw [← q5]
      · rw [c6, r2, ← askL_append, take_succ_flat hlt]
      · exact hst _ _ r3 ((hfr2.mono (by omega)).trans (c4.mono (by omega)))
      · show n + 4096 ≤ n'; omega
      · exact r6.trans ((hfr2.mono (by omega)).trans (c4.mono (by omega)))
    cases hv : val x.list[i] (ans s0.A) with
    | true =>
      rw [hv] at c1 hall
      refine Wp_region ?_
      simp -implicitDefEqProofs only [vm, vs, pairUp, Nat.reduceEqDiff, Nat.reduceAdd, Nat.reduceLeDiff, reduceIte, e1, e5, f4096, hb7, hpd, List.cons_append, List.nil_append, c1]
      refine hq _ rfl rfl (by rw [← e10]; rfl) rfl ?_
      rw [hall]; simp only [Bool.and_true]; rfl
    | false =>
      rw [hv] at c1 hall
      refine Wp_region ?_
      simp -implicitDefEqProofs only [vm, vs, pairUp, Nat.reduceEqDiff, Nat.reduceAdd, Nat.reduceLeDiff, reduceIte, e1, e5, f4096, hb7, hpd, List.cons_append, List.nil_append, c1]
      refine hq _ rfl rfl (by rw [← e10]; rfl) rfl ?_
      rw [hall]; simp only [Bool.and_false]; rfl
  · refine Wp.seq (Wp.condF (by simp -implicitDefEqProofs only [vm, vs, pairUp, Nat.reduceEqDiff, Nat.reduceAdd, Nat.reduceLeDiff, reduceIte]; simp [hlt]) (Wp.exit ?_))
    simp -implicitDefEqProofs only [vm, vs, pairUp, Nat.reduceEqDiff, Nat.reduceAdd, Nat.reduceLeDiff, reduceIte]
    refine Wp.seq (Wp_region ?_)
    simp -implicitDefEqProofs only [vm, vs, pairUp, Nat.reduceEqDiff, Nat.reduceAdd, Nat.reduceLeDiff, reduceIte, e5]
    refine Wp.ret ?_
    simp only [EndsP_ret, rawD_tmp, rawD_nil, consO_some, rawO_some, tupD_one, set_eq, Nat.reduceEqDiff, if_true, if_false]
    have hie : i = x.list.length := by omega
    subst hie
    rw [List.take_length] at r2 ⊢
    exact ⟨rfl, by omega, r4.mono (by omega), r6, s, r1, r2⟩
end Go.VM
