import Derived.Test.YtgonmjghdkoekaaFacY
namespace Go.AM
open Go Go.Proofs
set_option linter.unusedSimpArgs false
set_option linter.unusedVariables false

/-! ### What the lists hold is small -/
theorem foldl_all {α β : Type} {P : α → Prop} (f : List α → β → List α) : ∀ (l : List β) (out : List α), (∀ out b, b ∈ l → (∀ o ∈ out, P o) → ∀ o ∈ f out b, P o) → (∀ o ∈ out, P o) → ∀ o ∈ l.foldl f out, P o
  | [], out, _, h => h
  | b :: l, out, hf, h => foldl_all f l _ (fun out b hb => hf out b (by simp [hb])) (hf out b (by simp) h)

theorem ovE_all {P : Ov → Prop} (a b : Gr) (nodes : List Int) : ∀ (n : Nat) (es : List Int) (out : List Ov), (∀ o ∈ out, P o) → (∀ es', es'.length = es.length + n → P (glue a b nodes es')) → ∀ o ∈ ovE a b nodes n es out, P o
  | 0, es, out, h, hg => by
    unfold ovE
    split
    · exact h
    · intro o ho
      rcases List.mem_append.1 ho with ho | ho
      · exact h o ho
      · simp at ho; subst ho; exact hg es (by simp)
  | n + 1, es, out, h, hg => by
    unfold ovE
    split
    · exact h
    · refine foldl_all _ _ _ (fun out k _ ho => ?_) (ovE_all a b nodes n _ _ h fun es' he => hg es' (by simp at he; omega))
      split
      · exact ovE_all a b nodes n _ _ ho fun es' he => hg es' (by simp at he; omega)
      · exact ho

theorem ovN_all {P : Ov → Prop} (a b : Gr) : ∀ (n : Nat) (l : List Int) (out : List Ov), (∀ o ∈ out, P o) → (∀ l' es', l'.length = l.length + n → es'.length = b.edges.length → P (glue a b l' es')) → ∀ o ∈ ovN a b n l out, P o
  | 0, l, out, h, hg => by
    unfold ovN
    split
    · exact h
    · exact ovE_all a b l _ _ _ h fun es' he => hg l es' (by simp) (by simpa using he)
  | n + 1, l, out, h, hg => by
    unfold ovN
    split
    · exact h
    · refine foldl_all _ _ _ (fun out k _ ho => ?_) (ovN_all a b n _ _ h fun l' es' hl he => hg l' es' (by simp at hl; omega) he)
      unfold ovStepN
      split
      · exact ovN_all a b n _ _ ho fun l' es' hl he => hg l' es' (by simp at hl; omega) he
      · exact ho

theorem glue_fit (a b : Gr) (l k : List Int) (ha : a.nodes.length ≤ 90 ∧ a.edges.length ≤ 90) (hl : l.length ≤ 90) (hk : k.length ≤ 90) : (glue a b l k).Fit := by
  have h1 := glueN_len a.nodes b.nodes l l.length
  have h2 := glueE_len a.edges b.edges (glueN a.nodes b.nodes l l.length).2 k k.length
  exact ⟨⟨by simp only [glue]; omega, by simp only [glue]; omega⟩, ⟨by simp [glue, idM]; omega, by simp [glue, idM]; omega⟩, ⟨by simp only [glue]; omega, by simp only [glue]; omega⟩⟩

theorem overlapsR_fit (a b : Gr) (ha : a.nodes.length ≤ 90 ∧ a.edges.length ≤ 90) (hb : b.nodes.length ≤ 90 ∧ b.edges.length ≤ 90) : (overlapsR a b).1.length ≤ 1000000 ∧ ∀ o ∈ (overlapsR a b).1, o.Fit := by
  have key : ∀ o ∈ ovN a b b.nodes.length [] [], o.Fit := ovN_all a b _ _ _ (by simp) fun l' es' h1 h2 => glue_fit a b l' es' ha (by simp at h1; omega) (by omega)
  unfold overlapsR
  split
  · simp
  · split
    · simp
    · split
      · simp
      · split
        · simp
        · exact ⟨by simp only; omega, key⟩

theorem quF_fit (a : Gr) (l k : List Int) (hl : l.length ≤ 90) (hk : k.length ≤ 90) : (quF a l k).Fit := by
  have h1 := numN_len l l.length
  have h2 := numN_len k k.length
  exact ⟨⟨by simp only [quF, fillN_len]; omega, by simp only [quF, fillE_len]; omega⟩, ⟨by simp only [quF]; omega, by simp only [quF]; omega⟩⟩

theorem quotientsR_fit (a : Gr) : (quotientsR a).1.length ≤ 1000000 ∧ ∀ o ∈ (quotientsR a).1, o.Fit := by
  by_cases hv : validG a = 0
  · by_cases hs : 6 < a.nodes.length ∨ 6 < a.edges.length
    · have : quotientsR a = ([], 3) := by simp [quotientsR, hv, hs]
      rw [this]
      simp
    · rw [quotientsR_list a hv hs]
      split
      · simp
      · refine ⟨by simp only; omega, fun o ho => ?_⟩
        simp only [listQ, List.mem_flatMap, List.mem_map, List.mem_filter] at ho
        obtain ⟨p, ⟨hp, _⟩, q, ⟨hq, _⟩, rfl⟩ := ho
        have h1 := partsN_len _ p hp
        have h2 := partsN_len _ q hq
        exact quF_fit a p q (by omega) (by omega)
  · have : quotientsR a = ([], validG a) := by simp [quotientsR, hv]
    rw [this]
    simp

/-! ### The first two laws -/
theorem law3_c (a b : Gr) (tok : Nat → Bool) (nt : Nat) : ∃ tok' nt', DCall Try.prog 3 [a.av, b.av] tok nt (B true) tok' nt' := by
  refine ⟨tok, nt, ?_⟩
  intro box nb
  refine ACalls.of_body Try.func3 rfl (by kernel_rfl) follows_Try (by kernel_rfl) (by simp [Try.ntmps3]) ?_
  intro hbox htok
  simp only at hbox htok
  apply AL.start
  repeat (first | refine AL.seq ?_ | refine AL.block ?_ | refine AL.skip ?_ | refine AL.blk ?_)
  refine AL.region follows_Try (Nat.le_refl _) (by kernel_rfl) ?_
  simp
  repeat (first | refine AL.seq ?_ | refine AL.block ?_ | refine AL.skip ?_ | refine AL.blk ?_)
  refine AL.region follows_Try (Nat.le_refl _) (by kernel_rfl) ?_
  simp
  refine Stop.of_d (awake_c _ _) ?_
  simp
  refine Stop.of_d (small_c a 4 4 _ _) ?_
  simp
  by_cases h1 : smallG a 4 4 = true
  · simp [h1]
    refine Stop.of_d (small_c b 4 4 _ _) ?_
    simp [h1]
    by_cases h2 : smallG b 4 4 = true
    · simp [h1, h2]
      have hfa : fewG a = true := by simp [smallG] at h1; exact h1.1
      have hfb : fewG b = true := by simp [smallG] at h2; exact h2.1
      have hsa : a.nodes.length ≤ 90 ∧ a.edges.length ≤ 90 := by simp [fewG] at hfa; omega
      have hsb : b.nodes.length ≤ 90 ∧ b.edges.length ≤ 90 := by simp [fewG] at hfb; omega
      obtain ⟨f1, f2⟩ := overlapsR_fit a b hsa hsb
      repeat (first | refine AL.seq ?_ | refine AL.block ?_ | refine AL.skip ?_ | refine AL.blk ?_)
      refine AL.cond ?_
      simp
      repeat (first | refine AL.seq ?_ | refine AL.block ?_ | refine AL.skip ?_ | refine AL.blk ?_)
      refine AL.region follows_Try (Nat.le_refl _) (by kernel_rfl) ?_
      simp
      refine Stop.of_d (copied_c a (fewG_fit hfa) _ _) ?_
      simp
      refine Stop.of_d (copied_c b (fewG_fit hfb) _ _) ?_
      simp
      refine Stop.data ?_
      have htk := (TK.start htok).full.app.full.app.full.app.full.app
      refine Stop.of_d (overlapsF_c a b (fewG_fit hfa) (fewG_fit hfb) _ _) ?_
      simp
      repeat (first | refine AL.seq ?_ | refine AL.block ?_ | refine AL.skip ?_ | refine AL.blk ?_)
      refine AL.region follows_Try (Nat.le_refl _) (by kernel_rfl) ?_
      simp
      refine Stop.of_d (overlaps13_c a b (fewG_fit hfa) (fewG_fit hfb) _ _) ?_
      simp
      repeat (first | refine AL.seq ?_ | refine AL.block ?_ | refine AL.skip ?_ | refine AL.blk ?_)
      refine AL.region follows_Try (Nat.le_refl _) (by kernel_rfl) ?_
      simp
      refine Stop.of_d (sameOverlaps_c (overlapsR a b).1 (overlapsR a b).1 f1 f2 _ _) ?_
      simp
      repeat (first | refine AL.seq ?_ | refine AL.block ?_ | refine AL.skip ?_ | refine AL.blk ?_)
      refine AL.ret ?_
      try simp only [AU]
      refine ⟨by simp, Fin.data (by simp [resAs, resA]; rfl) hbox rfl htok htk.old htk.le ?_⟩
      simp [packA, ]
    · simp [h1, h2]
      repeat (first | refine AL.seq ?_ | refine AL.block ?_ | refine AL.skip ?_ | refine AL.blk ?_)
      refine AL.cond ?_
      simp
      repeat (first | refine AL.seq ?_ | refine AL.block ?_ | refine AL.skip ?_ | refine AL.blk ?_)
      refine AL.region follows_Try (Nat.le_refl _) (by kernel_rfl) ?_
      simp
      refine Stop.of_d (awake_c _ _) ?_
      simp
      repeat (first | refine AL.seq ?_ | refine AL.block ?_ | refine AL.skip ?_ | refine AL.blk ?_)
      refine AL.ret ?_
      try simp only [AU]
      refine ⟨by simp, Fin.data (by simp [resAs, resA]; rfl) hbox rfl htok (fun _ h => h) (Nat.le_refl _) ?_⟩
      simp [packA]
  · simp [h1]
    repeat (first | refine AL.seq ?_ | refine AL.block ?_ | refine AL.skip ?_ | refine AL.blk ?_)
    refine AL.cond ?_
    simp
    repeat (first | refine AL.seq ?_ | refine AL.block ?_ | refine AL.skip ?_ | refine AL.blk ?_)
    refine AL.region follows_Try (Nat.le_refl _) (by kernel_rfl) ?_
    simp
    refine Stop.of_d (awake_c _ _) ?_
    simp
    repeat (first | refine AL.seq ?_ | refine AL.block ?_ | refine AL.skip ?_ | refine AL.blk ?_)
    refine AL.ret ?_
    try simp only [AU]
    refine ⟨by simp, Fin.data (by simp [resAs, resA]; rfl) hbox rfl htok (fun _ h => h) (Nat.le_refl _) ?_⟩
    simp [packA]

theorem law4_c (a : Gr) (tok : Nat → Bool) (nt : Nat) : ∃ tok' nt', DCall Try.prog 4 [a.av] tok nt (B true) tok' nt' := by
  refine ⟨tok, nt, ?_⟩
  intro box nb
  refine ACalls.of_body Try.func4 rfl (by kernel_rfl) follows_Try (by kernel_rfl) (by simp [Try.ntmps4]) ?_
  intro hbox htok
  simp only at hbox htok
  apply AL.start
  repeat (first | refine AL.seq ?_ | refine AL.block ?_ | refine AL.skip ?_ | refine AL.blk ?_)
  refine AL.region follows_Try (Nat.le_refl _) (by kernel_rfl) ?_
  simp
  repeat (first | refine AL.seq ?_ | refine AL.block ?_ | refine AL.skip ?_ | refine AL.blk ?_)
  refine AL.region follows_Try (Nat.le_refl _) (by kernel_rfl) ?_
  simp
  refine Stop.of_d (awake_c _ _) ?_
  simp
  refine Stop.of_d (small_c a 5 4 _ _) ?_
  simp
  by_cases hs : smallG a 5 4 = true
  · simp [hs]
    refine Stop.of_d (few05_c a _ _) ?_
    simp [hs]
    by_cases hf : fewG a = true
    · simp [hs, hf]
      have hfit := fewG_fit hf
      obtain ⟨f1, f2⟩ := quotientsR_fit a
      repeat (first | refine AL.seq ?_ | refine AL.block ?_ | refine AL.skip ?_ | refine AL.blk ?_)
      refine AL.cond ?_
      simp
      repeat (first | refine AL.seq ?_ | refine AL.block ?_ | refine AL.skip ?_ | refine AL.blk ?_)
      refine AL.region follows_Try (Nat.le_refl _) (by kernel_rfl) ?_
      simp
      refine Stop.of_d (copied_c a hfit _ _) ?_
      simp
      refine Stop.data ?_
      have htk := (TK.start htok).full.app.full.app
      refine Stop.of_d (quotientsF_c a hfit _ _) ?_
      simp
      repeat (first | refine AL.seq ?_ | refine AL.block ?_ | refine AL.skip ?_ | refine AL.blk ?_)
      refine AL.region follows_Try (Nat.le_refl _) (by kernel_rfl) ?_
      simp
      refine Stop.of_d (quotients13_c a hfit _ _) ?_
      simp
      repeat (first | refine AL.seq ?_ | refine AL.block ?_ | refine AL.skip ?_ | refine AL.blk ?_)
      refine AL.region follows_Try (Nat.le_refl _) (by kernel_rfl) ?_
      simp
      refine Stop.of_d (sameQuotients_c (quotientsR a).1 (quotientsR a).1 f1 f2 _ _) ?_
      simp
      repeat (first | refine AL.seq ?_ | refine AL.block ?_ | refine AL.skip ?_ | refine AL.blk ?_)
      refine AL.ret ?_
      try simp only [AU]
      refine ⟨by simp, Fin.data (by simp [resAs, resA]; rfl) hbox rfl htok htk.old htk.le ?_⟩
      simp [packA, ]
    · simp [hs, hf]
      repeat (first | refine AL.seq ?_ | refine AL.block ?_ | refine AL.skip ?_ | refine AL.blk ?_)
      refine AL.cond ?_
      simp
      repeat (first | refine AL.seq ?_ | refine AL.block ?_ | refine AL.skip ?_ | refine AL.blk ?_)
      refine AL.region follows_Try (Nat.le_refl _) (by kernel_rfl) ?_
      simp
      refine Stop.of_d (awake_c _ _) ?_
      simp
      repeat (first | refine AL.seq ?_ | refine AL.block ?_ | refine AL.skip ?_ | refine AL.blk ?_)
      refine AL.ret ?_
      try simp only [AU]
      refine ⟨by simp, Fin.data (by simp [resAs, resA]; rfl) hbox rfl htok (fun _ h => h) (Nat.le_refl _) ?_⟩
      simp [packA]
  · simp [hs]
    by_cases h1 : (a.nodes.length : Int) ≤ 6
    · simp [hs, h1]
      by_cases h2 : (a.edges.length : Int) ≤ 6
      · simp [hs, h1, h2]
        repeat (first | refine AL.seq ?_ | refine AL.block ?_ | refine AL.skip ?_ | refine AL.blk ?_)
        refine AL.cond ?_
        simp
        repeat (first | refine AL.seq ?_ | refine AL.block ?_ | refine AL.skip ?_ | refine AL.blk ?_)
        refine AL.region follows_Try (Nat.le_refl _) (by kernel_rfl) ?_
        simp
        refine Stop.of_d (awake_c _ _) ?_
        simp
        repeat (first | refine AL.seq ?_ | refine AL.block ?_ | refine AL.skip ?_ | refine AL.blk ?_)
        refine AL.ret ?_
        try simp only [AU]
        refine ⟨by simp, Fin.data (by simp [resAs, resA]; rfl) hbox rfl htok (fun _ h => h) (Nat.le_refl _) ?_⟩
        simp [packA]
      · simp [hs, h1, h2]
        refine Stop.of_d (few05_c a _ _) ?_
        simp [hs, h1, h2]
        by_cases hf : fewG a = true
        · simp [hs, h1, h2, hf]
          have hfit := fewG_fit hf
          obtain ⟨f1, f2⟩ := quotientsR_fit a
          repeat (first | refine AL.seq ?_ | refine AL.block ?_ | refine AL.skip ?_ | refine AL.blk ?_)
          refine AL.cond ?_
          simp
          repeat (first | refine AL.seq ?_ | refine AL.block ?_ | refine AL.skip ?_ | refine AL.blk ?_)
          refine AL.region follows_Try (Nat.le_refl _) (by kernel_rfl) ?_
          simp
          refine Stop.of_d (copied_c a hfit _ _) ?_
          simp
          refine Stop.data ?_
          have htk := (TK.start htok).full.app.full.app
          refine Stop.of_d (quotientsF_c a hfit _ _) ?_
          simp
          repeat (first | refine AL.seq ?_ | refine AL.block ?_ | refine AL.skip ?_ | refine AL.blk ?_)
          refine AL.region follows_Try (Nat.le_refl _) (by kernel_rfl) ?_
          simp
          refine Stop.of_d (quotients13_c a hfit _ _) ?_
          simp
          repeat (first | refine AL.seq ?_ | refine AL.block ?_ | refine AL.skip ?_ | refine AL.blk ?_)
          refine AL.region follows_Try (Nat.le_refl _) (by kernel_rfl) ?_
          simp
          refine Stop.of_d (sameQuotients_c (quotientsR a).1 (quotientsR a).1 f1 f2 _ _) ?_
          simp
          repeat (first | refine AL.seq ?_ | refine AL.block ?_ | refine AL.skip ?_ | refine AL.blk ?_)
          refine AL.ret ?_
          try simp only [AU]
          refine ⟨by simp, Fin.data (by simp [resAs, resA]; rfl) hbox rfl htok htk.old htk.le ?_⟩
          simp [packA, ]
        · simp [hs, h1, h2, hf]
          repeat (first | refine AL.seq ?_ | refine AL.block ?_ | refine AL.skip ?_ | refine AL.blk ?_)
          refine AL.cond ?_
          simp
          repeat (first | refine AL.seq ?_ | refine AL.block ?_ | refine AL.skip ?_ | refine AL.blk ?_)
          refine AL.region follows_Try (Nat.le_refl _) (by kernel_rfl) ?_
          simp
          refine Stop.of_d (awake_c _ _) ?_
          simp
          repeat (first | refine AL.seq ?_ | refine AL.block ?_ | refine AL.skip ?_ | refine AL.blk ?_)
          refine AL.ret ?_
          try simp only [AU]
          refine ⟨by simp, Fin.data (by simp [resAs, resA]; rfl) hbox rfl htok (fun _ h => h) (Nat.le_refl _) ?_⟩
          simp [packA]
    · simp [hs, h1]
      refine Stop.of_d (few05_c a _ _) ?_
      simp [hs, h1]
      by_cases hf : fewG a = true
      · simp [hs, h1, hf]
        have hfit := fewG_fit hf
        obtain ⟨f1, f2⟩ := quotientsR_fit a
        repeat (first | refine AL.seq ?_ | refine AL.block ?_ | refine AL.skip ?_ | refine AL.blk ?_)
        refine AL.cond ?_
        simp
        repeat (first | refine AL.seq ?_ | refine AL.block ?_ | refine AL.skip ?_ | refine AL.blk ?_)
        refine AL.region follows_Try (Nat.le_refl _) (by kernel_rfl) ?_
        simp
        refine Stop.of_d (copied_c a hfit _ _) ?_
        simp
        refine Stop.data ?_
        have htk := (TK.start htok).full.app.full.app
        refine Stop.of_d (quotientsF_c a hfit _ _) ?_
        simp
        repeat (first | refine AL.seq ?_ | refine AL.block ?_ | refine AL.skip ?_ | refine AL.blk ?_)
        refine AL.region follows_Try (Nat.le_refl _) (by kernel_rfl) ?_
        simp
        refine Stop.of_d (quotients13_c a hfit _ _) ?_
        simp
        repeat (first | refine AL.seq ?_ | refine AL.block ?_ | refine AL.skip ?_ | refine AL.blk ?_)
        refine AL.region follows_Try (Nat.le_refl _) (by kernel_rfl) ?_
        simp
        refine Stop.of_d (sameQuotients_c (quotientsR a).1 (quotientsR a).1 f1 f2 _ _) ?_
        simp
        repeat (first | refine AL.seq ?_ | refine AL.block ?_ | refine AL.skip ?_ | refine AL.blk ?_)
        refine AL.ret ?_
        try simp only [AU]
        refine ⟨by simp, Fin.data (by simp [resAs, resA]; rfl) hbox rfl htok htk.old htk.le ?_⟩
        simp [packA, ]
      · simp [hs, h1, hf]
        repeat (first | refine AL.seq ?_ | refine AL.block ?_ | refine AL.skip ?_ | refine AL.blk ?_)
        refine AL.cond ?_
        simp
        repeat (first | refine AL.seq ?_ | refine AL.block ?_ | refine AL.skip ?_ | refine AL.blk ?_)
        refine AL.region follows_Try (Nat.le_refl _) (by kernel_rfl) ?_
        simp
        refine Stop.of_d (awake_c _ _) ?_
        simp
        repeat (first | refine AL.seq ?_ | refine AL.block ?_ | refine AL.skip ?_ | refine AL.blk ?_)
        refine AL.ret ?_
        try simp only [AU]
        refine ⟨by simp, Fin.data (by simp [resAs, resA]; rfl) hbox rfl htok (fun _ h => h) (Nat.le_refl _) ?_⟩
        simp [packA]
end Go.AM
