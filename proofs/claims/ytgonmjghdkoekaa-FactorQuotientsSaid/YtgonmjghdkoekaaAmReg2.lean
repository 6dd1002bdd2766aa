/-
  The abstract machine, twelfth part: whole regions.
-/
import Derived.Test.YtgonmjghdkoekaaAmReg
namespace Go.AM
open Go
set_option linter.unusedSimpArgs false
set_option linter.unusedVariables false

variable {P : Program}

def LeK (base : Nat) (G : Gh) (w : World) (b : Nat → Option (List (List AV))) (G' : Gh) (w' : World) (b' : Nat → Option (List (List AV))) : Prop := Le G w G' w' ∧ ∀ k, k < base → G.bx k = none → G'.bx k = none ∧ b' k = b k

theorem LeK.refl (base : Nat) (G : Gh) (w : World) (b : Nat → Option (List (List AV))) : LeK base G w b G w b := ⟨Le.refl G w, fun _ _ h => ⟨h, rfl⟩⟩
theorem LeK.trans {base : Nat} {G1 G2 G3 : Gh} {w1 w2 w3 : World} {b1 b2 b3 : Nat → Option (List (List AV))} (h : LeK base G1 w1 b1 G2 w2 b2) (k : LeK base G2 w2 b2 G3 w3 b3) : LeK base G1 w1 b1 G3 w3 b3 :=
  ⟨h.1.trans k.1, fun j hj hg => ⟨(k.2 j hj (h.2 j hj hg).1).1, (k.2 j hj (h.2 j hj hg).1).2.trans (h.2 j hj hg).2⟩⟩

theorem Kept.leK {base : Nat} {o : Oper} {G G' : Gh} {w w' : World} {box box' : Nat → Option (List (List AV))} (h : Kept base o G G' box box') (hle : Le G w G' w') : LeK base G w box G' w' box' :=
  ⟨hle, fun k hk hg => h k (fun e => by
    cases hd : o.dst with
    | none => rw [hd] at e; cases e
    | some d =>
      rw [hd] at e
      simp only [Option.map_some, Option.some.injEq] at e
      omega) hg⟩

/-- A run over operations, by their places. -/
def IRun (P : Program) (base : Nat) (ops : Array Oper) : List Nat → AState → AState → Prop
  | [], S, S' => S' = S
  | i :: r, S, S' => ∃ o S1, ops[i]? = some o ∧ GStep P base ops o S S1 ∧ IRun P base ops r S1 S'

/-- A run over operations, in the order of a list. -/
def ARun (P : Program) (base : Nat) (ops : Array Oper) : List Oper → AState → AState → Prop
  | [], S, S' => S' = S
  | o :: r, S, S' => ∃ S1, GStep P base ops o S S1 ∧ ARun P base ops r S1 S'

theorem IRun.of_aRun {base : Nat} {ops : Array Oper} {S' : AState} : ∀ (l : List Oper) (k : Nat) (S : AState), ops.toList.drop k = l → ARun P base ops l S S' → IRun P base ops (List.range' k l.length) S S'
  | [], k, S, _, h => h
  | o :: l, k, S, hl, ⟨S1, h1, h2⟩ => by
    have hk : ops.toList[k]? = some o := by
      have := congrArg (·[0]?) hl
      simpa using this
    refine ⟨o, S1, by simpa using hk, h1, ?_⟩
    refine IRun.of_aRun l (k + 1) S1 ?_ h2
    have := congrArg List.tail hl
    simpa [List.tail_drop] using this

theorem IRun.of_all {base : Nat} {ops : Array Oper} {S S' : AState} (h : ARun P base ops ops.toList S S') : IRun P base ops (List.range ops.size) S S' := by
  have := IRun.of_aRun ops.toList 0 S (by simp) h
  simpa [List.range_eq_range'] using this

def direct (o : Oper) : List Nat := (o.after.toList.filter fun e => Region.binds .any e).map (·.on)

/-- The ancestors of an operation, as bits of a number. -/
def om (f : Nat → Nat) (js : List Nat) : Nat := js.foldl (fun m j => m ||| (2 ^ j ||| f j)) 0

theorem om_bit (f : Nat → Nat) (q : Nat) (js : List Nat) : (om f js).testBit q = true ↔ ∃ j ∈ js, q = j ∨ (f j).testBit q = true := by
  have key : ∀ (js : List Nat) (m0 : Nat), (js.foldl (fun m j => m ||| (2 ^ j ||| f j)) m0).testBit q = true ↔ m0.testBit q = true ∨ ∃ j ∈ js, q = j ∨ (f j).testBit q = true := by
    intro js
    induction js with
    | nil => intro m0; simp
    | cons j js ih =>
      intro m0
      rw [List.foldl_cons, ih]
      simp only [Nat.testBit_or, Nat.testBit_two_pow, Bool.or_eq_true, decide_eq_true_eq, List.mem_cons]
      constructor
      · rintro ((h | h | h) | ⟨x, hx, h⟩)
        · exact .inl h
        · exact .inr ⟨j, .inl rfl, .inl h.symm⟩
        · exact .inr ⟨j, .inl rfl, .inr h⟩
        · exact .inr ⟨x, .inr hx, h⟩
      · rintro (h | ⟨x, rfl | hx, h | h⟩)
        · exact .inl (.inl h)
        · exact .inl (.inr (.inl h.symm))
        · exact .inl (.inr (.inr h))
        · exact .inr ⟨x, hx, .inl h⟩
        · exact .inr ⟨x, hx, .inr h⟩
  unfold om
  rw [key]
  simp

def ancs : List Oper → List Nat → List Nat
  | [], acc => acc
  | o :: r, acc => ancs r (acc ++ [om (fun j => acc.getD j 0) (direct o)])

def isAlloc : Op → Bool
  | .alloc _ => true
  | _ => false

/-- No other operation writes an allocation's slot. -/
def allocOk (ops : Array Oper) : Bool :=
  (List.range ops.size).all fun i => (List.range ops.size).all fun j => i == j || (match ops[i]?, ops[j]? with
    | some x, some y => !isAlloc x.op || x.dst != y.dst
    | _, _ => true)

def dstOk (n : Nat) (ops : Array Oper) : Bool := ops.toList.all fun o => match o.dst with
  | some d => decide (d < n)
  | none => true

/-- Two operations of which neither waits for the other do not touch one another. -/
def regOk (ops : Array Oper) : Bool :=
  let an := ancs ops.toList []
  (List.range ops.size).all fun i => (match ops[i]? with | some o => (direct o).all fun j => decide (j < i) | none => true) &&
    (List.range i).all fun j => (an.getD i 0).testBit j || (match ops[j]?, ops[i]? with
      | some x, some y => Oper.apart ops x y && !clash x y
      | _, _ => false)

theorem ancs_keep : ∀ (l : List Oper) (acc : List Nat) (i : Nat), i < acc.length → (ancs l acc).getD i 0 = acc.getD i 0
  | [], acc, i, _ => rfl
  | o :: l, acc, i, h => by
    rw [ancs, ancs_keep l _ i (by simp; omega)]
    simp only [List.getD_eq_getElem?_getD]
    rw [List.getElem?_append_left h]

theorem ancs_at : ∀ (l : List Oper) (acc : List Nat) (i : Nat) (o : Oper), l[i]? = some o → (ancs l acc).getD (acc.length + i) 0 = om (fun j => if j < acc.length + i then (ancs l acc).getD j 0 else 0) (direct o)
  | [], acc, i, o, h => by simp at h
  | o0 :: l, acc, 0, o, h => by
    simp at h
    subst h
    rw [ancs, ancs_keep l _ _ (by simp)]
    simp only [List.getD_eq_getElem?_getD, Nat.add_zero, List.getElem?_append_right (Nat.le_refl _), Nat.sub_self, List.getElem?_cons_zero, Option.getD_some]
    congr 1
    funext j
    split
    · rename_i hj
      have := ancs_keep l (acc ++ [om (fun j => acc.getD j 0) (direct o0)]) j (by simp; omega)
      simp only [List.getD_eq_getElem?_getD] at this
      rw [this, List.getElem?_append_left hj]
    · rename_i hj
      rw [List.getElem?_eq_none (by omega)]
      rfl
  | o0 :: l, acc, i + 1, o, h => by
    have ih := ancs_at l (acc ++ [om (fun j => acc.getD j 0) (direct o0)]) i o (by simpa using h)
    simp only [List.length_append, List.length_cons, List.length_nil, Nat.zero_add] at ih
    rw [ancs]
    have e : acc.length + (i + 1) = acc.length + 1 + i := by omega
    rw [e, ih]

/-- Where all that an operation waits for has been done, with all that that waits for, all its ancestors have been. -/
theorem anc_done {ops : Array Oper} {done : Nat → Prop} (hdown : ∀ i o, ops[i]? = some o → done i → ∀ j ∈ direct o, done j) : ∀ (i : Nat) (o : Oper), ops[i]? = some o → (∀ j ∈ direct o, done j) →
    ∀ j, ((ancs ops.toList []).getD i 0).testBit j = true → done j := by
  intro i
  induction i using Nat.strongRecOn with
  | ind i ih =>
    intro o ho hd j hj
    have := ancs_at ops.toList [] i o (by simpa using ho)
    simp only [List.length_nil, Nat.zero_add] at this
    rw [this, om_bit] at hj
    obtain ⟨q, hq, hj⟩ := hj
    rcases hj with rfl | hj
    · exact hd _ hq
    · split at hj
      · rename_i hlt
        cases hoq : ops[q]? with
        | none =>
          have hge : ops.size ≤ q := by simpa using hoq
          have hlt' : i < ops.size := (Array.getElem?_eq_some_iff.1 ho).1
          omega
        | some oq => exact ih q hlt oq hoq (hdown q oq hoq (hd q hq)) j hj
      · simp at hj

theorem irun_front {base : Nat} {ops : Array Oper} {Sf : AState} {Iv : AState → Prop} (hIv : ∀ (i : Nat) (o : Oper) (S S' : AState) (rest : List Nat), ops[i]? = some o → i ∉ rest → GStep P base ops o S S' → IRun P base ops rest S' Sf → Iv S → Iv S') {i : Nat} {o : Oper} (hi : ops[i]? = some o) :
    ∀ (r1 r2 : List Nat) (S : AState), (r1 ++ i :: r2).Nodup → Iv S →
    (∀ j ∈ r1, ∀ x, ops[j]? = some x → ∀ S S1 S2, Iv S → GStep P base ops x S S1 → GStep P base ops o S1 S2 → ∃ S1', GStep P base ops o S S1' ∧ GStep P base ops x S1' S2) →
    IRun P base ops (r1 ++ i :: r2) S Sf → IRun P base ops (i :: (r1 ++ r2)) S Sf
  | [], r2, S, _, _, _, h => h
  | j :: r1, r2, S, hnd, hS, hj, ⟨x, S1, hx, h1, h2⟩ => by
    have hnd' := List.nodup_cons.1 hnd
    obtain ⟨o', S2, ho', k1, k2⟩ := irun_front hIv hi r1 r2 S1 hnd'.2 (hIv j x S S1 _ hx hnd'.1 h1 h2 hS) (fun q hq => hj q (by simp [hq])) h2
    rw [hi] at ho'
    cases ho'
    obtain ⟨S1', g1, g2⟩ := hj j (by simp) x hx S S1 S2 hS h1 k1
    exact ⟨o, S1', hi, g1, x, S2, hx, g2, k2⟩

theorem mem_ready' {ops : Array Oper} {listed : Array Bool} {i : Nat} (h : i ∈ Region.ready .any ops listed) : ∃ o, ops[i]? = some o ∧ listed.getD i true = false ∧ ∀ j ∈ direct o, listed.getD j false = true := by
  simp only [Region.ready, List.mem_filter, List.mem_range, Bool.and_eq_true, Bool.not_eq_true'] at h
  obtain ⟨h1, h2, h3⟩ := h
  have ho : ops[i]? = some ops[i] := Array.getElem?_eq_getElem h1
  refine ⟨ops[i], ho, h2, ?_⟩
  rw [ho] at h3
  simp only [Option.map_some, Option.getD_some] at h3
  intro j hj
  simp only [direct, List.mem_map, List.mem_filter] at hj
  obtain ⟨e, ⟨he, hb⟩, rfl⟩ := hj
  have := (Array.all_eq_true_iff_forall_mem.1 h3) e (by simpa using he)
  simpa [hb] using this

theorem getD_any {a : Array Bool} {i : Nat} (h : i < a.size) (b c : Bool) : a.getD i b = a.getD i c := by simp [Array.getD, h]

/-- A region whose order Go leaves open. -/
theorem any_sound' {n nb base : Nat} {ops : Array Oper} {Q : Exit → Act → World → Prop} {Sf : AState} {G0 : Gh} {w0 : World} {b0 : Nat → Option (List (List AV))} (hlo : ∀ (i : Nat) (o : Oper), ops[i]? = some o → ∀ j ∈ direct o, j < i) {Iv : AState → Prop} (hIv : ∀ (i : Nat) (o : Oper) (S S' : AState) (rest : List Nat), ops[i]? = some o → i ∉ rest → GStep P base ops o S S' → IRun P base ops rest S' Sf → Iv S → Iv S')
    (hsw : ∀ (i j : Nat) (o x : Oper), ops[i]? = some o → ops[j]? = some x → j < i → ((ancs ops.toList []).getD i 0).testBit j = false → ∀ S S1 S2, Iv S → GStep P base ops x S S1 → GStep P base ops o S1 S2 → ∃ S1', GStep P base ops o S S1' ∧ GStep P base ops x S1' S2) (hal : allocOk ops = true) (hdst : dstOk n ops = true) (hnb : base + n ≤ nb)
    (hQ : ∀ a' w' G', RelS n nb G' Sf a' w' → LeK base G0 w0 b0 G' w' Sf.box → Q .normal a' w') : ∀ (fuel : Nat) (listed : Array Bool) (rem : List Nat) (S : AState) (a : Act) (w : World) (G : Gh),
    listed.size = ops.size → rem = (List.range ops.size).filter (fun i => !listed.getD i true) → rem.length = fuel → (∀ i o, ops[i]? = some o → listed.getD i false = true → ∀ j ∈ direct o, listed.getD j false = true) →
    Iv S → IRun P base ops rem S Sf → RelS n nb G S a w → (∀ i ∈ rem, ∀ o, ops[i]? = some o → Pend P base o G S.box) → LeK base G0 w0 b0 G w S.box → wpAny P .any ops Q fuel listed a w := by
  have hd : ∀ (o : Oper) d, o ∈ ops → o.dst = some d → d < n := by
    intro o d ho hod
    have := List.all_eq_true.1 hdst o (by simpa using ho)
    rw [hod] at this
    simpa using this
  intro fuel
  induction fuel with
  | zero =>
    intro listed rem S a w G hsz hrem hlen hdown hiv hrun hr hp hle
    have h0 : rem = [] := List.eq_nil_of_length_eq_zero hlen
    rw [h0] at hrun hrem
    refine ⟨?_, ?_⟩
    · simp only [Region.ready]
      rw [List.filter_eq_nil_iff]
      intro i hi
      have := (List.filter_eq_nil_iff.1 hrem.symm) i hi
      simp at this
      simp [this]
    · have hS : Sf = S := hrun
      subst hS
      exact hQ a w G hr hle
  | succ fuel ih =>
    intro listed rem S a w G hsz hrem hlen hdown hiv hrun hr hp hle
    refine ⟨fun hre => ?_, fun i hi => ?_⟩
    · -- something is ready: the first that is left
      exfalso
      cases hrem' : rem with
      | nil => rw [hrem'] at hlen; simp at hlen
      | cons i r =>
        have hmem : i ∈ rem := by rw [hrem']; simp
        have hmem' := hmem
        rw [hrem, List.mem_filter, List.mem_range] at hmem
        have ho : ops[i]? = some ops[i] := Array.getElem?_eq_getElem hmem.1
        have hsorted : rem.Pairwise (· < ·) := by rw [hrem]; exact List.pairwise_lt_range.filter _
        rw [hrem'] at hsorted
        have hfirst : ∀ j, j < i → listed.getD j false = true := by
          intro j hj
          have hjs : j < listed.size := by rw [hsz]; omega
          cases hl : listed.getD j false with
          | true => rfl
          | false =>
            have hjm : j ∈ rem := by
              rw [hrem, List.mem_filter, List.mem_range]
              refine ⟨by omega, ?_⟩
              rw [getD_any hjs true false, hl]
              rfl
            rw [hrem'] at hjm
            rcases List.mem_cons.1 hjm with e | e
            · omega
            · have := (List.pairwise_cons.1 hsorted).1 j e
              omega
        have hready : i ∈ Region.ready .any ops listed := by
          simp only [Region.ready, List.mem_filter, List.mem_range]
          refine ⟨hmem.1, ?_⟩
          rw [ho]
          simp only [Option.map_some, Option.getD_some, Bool.and_eq_true]
          refine ⟨hmem.2, ?_⟩
          rw [Array.all_eq_true_iff_forall_mem]
          intro e he
          by_cases hb : Region.binds .any e = true
          · have hlt' : e.on < i := hlo i _ ho e.on (by simp only [direct, List.mem_map, List.mem_filter]; exact ⟨e, ⟨by simpa using he, hb⟩, rfl⟩)
            simp [hfirst e.on hlt']
          · simp [hb]
        rw [hre] at hready
        simp at hready
    · obtain ⟨o, ho, hl, hdir⟩ := mem_ready' hi
      have his : i < ops.size := (Array.getElem?_eq_some_iff.1 ho).1
      have him : i ∈ rem := by
        rw [hrem, List.mem_filter, List.mem_range]
        exact ⟨his, by simp [hl]⟩
      obtain ⟨r1, r2, hr12⟩ := List.append_of_mem him
      have hsorted : rem.Pairwise (· < ·) := by rw [hrem]; exact List.pairwise_lt_range.filter _
      rw [hr12] at hsorted
      have hs1 : ∀ j ∈ r1, j < i := fun j hj => (List.pairwise_append.1 hsorted).2.2 j hj i (by simp)
      have hs2 : ∀ j ∈ r2, i < j := fun j hj => (List.pairwise_cons.1 (List.pairwise_append.1 hsorted).2.1).1 j hj
      have hindep : ∀ j ∈ r1, ∀ x, ops[j]? = some x → ∀ S S1 S2, Iv S → GStep P base ops x S S1 → GStep P base ops o S1 S2 → ∃ S1', GStep P base ops o S S1' ∧ GStep P base ops x S1' S2 := by
        intro j hj x hx
        refine hsw i j o x ho hx (hs1 j hj) ?_
        cases h2 : ((ancs ops.toList []).getD i 0).testBit j with
        | false => rfl
        | true =>
          exfalso
          have hjr : j ∈ rem := by rw [hr12]; simp [hj]
          rw [hrem, List.mem_filter] at hjr
          have hdone := anc_done (done := fun q => listed.getD q false = true) hdown i o ho hdir j h2
          have hjs : j < listed.size := by rw [hsz]; have := hs1 j hj; omega
          rw [getD_any hjs true false, hdone] at hjr
          simp at hjr
      have hnd : (r1 ++ i :: r2).Nodup := hsorted.imp (fun h => Nat.ne_of_lt h)
      have hni : i ∉ r1 ++ r2 := fun hm => by
        rcases List.mem_append.1 hm with h | h
        · have := hs1 i h; omega
        · have := hs2 i h; omega
      rw [hr12] at hrun
      obtain ⟨o', S1, ho', hst, hrest⟩ := irun_front hIv ho r1 r2 S hnd hiv hindep hrun
      rw [ho] at ho'
      cases ho'
      have hiv1 := hIv i o S S1 _ ho hni hst hrest hiv
      refine gstep_sound ho hst hr hd hnb (hp i him o ho) fun a' w' G' hr' hle' hk => ?_
      have hset : ∀ j, j ≠ i → ∀ b, (listed.setIfInBounds i true).getD j b = listed.getD j b := fun j hj b => getD_set_ne b (Ne.symm hj)
      have hrem2 : r1 ++ r2 = (List.range ops.size).filter fun j => !(listed.setIfInBounds i true).getD j true := by
        have e1 : r1 ++ r2 = rem.filter (· != i) := by
          rw [hr12, List.filter_append, List.filter_cons]
          simp only [bne_self_eq_false, Bool.false_eq_true, ↓reduceIte]
          rw [List.filter_eq_self.2 (fun j hj => by have := hs1 j hj; simp; omega), List.filter_eq_self.2 (fun j hj => by have := hs2 j hj; simp; omega)]
        rw [e1, hrem, List.filter_filter]
        apply List.filter_congr
        intro j hj
        by_cases e : j = i
        · subst e
          have : (listed.setIfInBounds j true).getD j true = true := by
            simp [Array.getD]
          simp [this]
        · rw [hset j e]
          simp [e]
      refine ih (listed.setIfInBounds i true) (r1 ++ r2) S1 a' w' G' (by simp [hsz]) hrem2 (by rw [hr12] at hlen; simp at hlen ⊢; omega) ?_ hiv1 hrest hr' ?_ (hle.trans (hk.leK hle'))
      · intro j x hx hlj q hq
        by_cases e : j = i
        · subst e
          rw [ho] at hx
          cases hx
          exact getD_set_true (hdir q hq)
        · rw [hset j e] at hlj
          exact getD_set_true (hdown j x hx hlj q hq)
      · intro j hj x hx
        have hjr : j ∈ rem := by
          rw [hr12]
          rcases List.mem_append.1 hj with h | h
          · exact List.mem_append.2 (.inl h)
          · exact List.mem_append.2 (.inr (List.mem_cons_of_mem _ h))
        have hpj := hp j hjr x hx
        have hne : j ≠ i := by
          rcases List.mem_append.1 hj with h | h
          · have := hs1 j h; omega
          · have := hs2 j h; omega
        unfold Pend at hpj ⊢
        split at hpj
        · rename_i T s hop hds
          obtain ⟨zs, h1, h2, h3⟩ := hpj
          have hjs : j < ops.size := (Array.getElem?_eq_some_iff.1 hx).1
          have hall := List.all_eq_true.1 (List.all_eq_true.1 hal j (by simpa using hjs)) i (by simpa using his)
          rw [hx, ho] at hall
          have hdne : x.dst ≠ o.dst := by
            simp only [Bool.or_eq_true, beq_iff_eq, hne, false_or, hop, isAlloc, Bool.not_true, Bool.false_eq_true] at hall
            simpa using hall
          have := hk (base + s) (fun e => hdne (by
            rw [hds]
            cases hod : o.dst with
            | none => rw [hod] at e; cases e
            | some d =>
              rw [hod] at e
              simp only [Option.map_some, Option.some.injEq] at e
              have : s = d := Nat.add_left_cancel e
              rw [this])) h3
          exact ⟨zs, h1, by rw [this.2]; exact h2, this.1⟩
        · trivial

theorem any_sound {n nb base : Nat} {ops : Array Oper} {Q : Exit → Act → World → Prop} {Sf : AState} {G0 : Gh} {w0 : World} {b0 : Nat → Option (List (List AV))} (hreg : regOk ops = true) (hal : allocOk ops = true) (hdst : dstOk n ops = true) (hnb : base + n ≤ nb)
    (hQ : ∀ a' w' G', RelS n nb G' Sf a' w' → LeK base G0 w0 b0 G' w' Sf.box → Q .normal a' w') (fuel : Nat) (listed : Array Bool) (rem : List Nat) (S : AState) (a : Act) (w : World) (G : Gh)
    (h1 : listed.size = ops.size) (h2 : rem = (List.range ops.size).filter (fun i => !listed.getD i true)) (h3 : rem.length = fuel) (h4 : ∀ i o, ops[i]? = some o → listed.getD i false = true → ∀ j ∈ direct o, listed.getD j false = true)
    (h5 : IRun P base ops rem S Sf) (h6 : RelS n nb G S a w) (h7 : ∀ i ∈ rem, ∀ o, ops[i]? = some o → Pend P base o G S.box) (h8 : LeK base G0 w0 b0 G w S.box) : wpAny P .any ops Q fuel listed a w := by
  have key : ∀ (i : Nat) (o : Oper), ops[i]? = some o → (∀ j ∈ direct o, j < i) ∧ ∀ j x, ops[j]? = some x → j < i → ((ancs ops.toList []).getD i 0).testBit j = true ∨ x.apart ops o = true ∧ clash x o = false := by
    intro i o ho
    have his : i < ops.size := (Array.getElem?_eq_some_iff.1 ho).1
    have hall := List.all_eq_true.1 hreg i (by simpa using his)
    rw [ho] at hall
    simp only [Bool.and_eq_true] at hall
    refine ⟨fun j hj => by simpa using List.all_eq_true.1 hall.1 j hj, fun j x hx hj => ?_⟩
    have h2 := List.all_eq_true.1 hall.2 j (by simpa using hj)
    rw [hx] at h2
    simpa only [Bool.or_eq_true, Bool.and_eq_true, Bool.not_eq_true'] using h2
  refine any_sound' (fun i o ho => (key i o ho).1) (Iv := fun _ => True) (fun _ _ _ _ _ _ _ _ _ _ => trivial) ?_ hal hdst hnb hQ fuel listed rem S a w G h1 h2 h3 h4 trivial h5 h6 h7 h8
  intro i j o x ho hx hj hb S S1 S2 _ g1 g2
  rcases (key i o ho).2 j x hx hj with h | ⟨h, h'⟩
  · rw [hb] at h; cases h
  · exact gstep_swap h h' g1 g2

/-! ### Stores late: loads and stores at boxes that are not the same -/
def dstUniq (ops : Array Oper) : Bool :=
  (List.range ops.size).all fun i => (List.range ops.size).all fun j => i == j || (match ops[i]?, ops[j]? with
    | some x, some y => x.dst == none || x.dst != y.dst
    | _, _ => true)

def isPtr (o : Op) : Bool := (ptrOp o).isSome

def regOk2 (ops : Array Oper) : Bool :=
  let an := ancs ops.toList []
  dstUniq ops && (List.range ops.size).all fun i => (match ops[i]? with | some o => (direct o).all fun j => decide (j < i) | none => true) &&
    (List.range i).all fun j => (an.getD i 0).testBit j || (match ops[j]?, ops[i]? with
      | some x, some y => Oper.apart ops x y && (!clash x y || isPtr x.op && isPtr y.op)
      | _, _ => false)

def NP (x : AV) : Prop := match x with | .ptr .. => False | _ => True
/-- Not the same box. -/
def NK (x y : AV) : Prop := match x with
  | .ptr k _ _ => match y with
    | .ptr k' _ _ => k ≠ k'
    | _ => True
  | _ => True

theorem NK.symm {x y : AV} (h : NK x y) : NK y x := by
  cases x <;> cases y <;> simp only [NK] at h ⊢
  exact Ne.symm h

/-- Loads and stores, by whether it is a store, and where. -/
def ptrs : List Oper → List (Bool × Operand)
  | [] => []
  | o :: r => match o.op with
    | .load _ p => (false, p) :: ptrs r
    | .store _ p _ => (true, p) :: ptrs r
    | _ => ptrs r
def Far1 (S : AState) (b : Bool) (p : Operand) : List (Bool × Operand) → Prop
  | [] => True
  | (c, q) :: r => (match b, c with | false, false => True | _, _ => NK (S.ev p) (S.ev q)) ∧ Far1 S b p r
def Far (S : AState) : List (Bool × Operand) → Prop
  | [] => True
  | (b, p) :: r => Far1 S b p r ∧ Far S r

theorem far1_all {S : AState} {b : Bool} {p : Operand} {l : List (Bool × Operand)} (h : Far1 S b p l) : ∀ c q, (c, q) ∈ l → (b || c) = true → NK (S.ev p) (S.ev q) := by
  induction l with
  | nil => intro c q hm; simp at hm
  | cons x r ih =>
    obtain ⟨c0, q0⟩ := x
    intro c q hm hb
    simp only [Far1] at h
    rcases List.mem_cons.1 hm with e | hm
    · cases e
      have h1 := h.1
      cases b <;> cases c0 <;> first | exact h1 | (simp at hb)
    · exact ih h.2 c q hm hb

theorem ptrs_mem {o : Oper} {p : Operand} (hp : ptrOp o.op = some p) {l : List Oper} (h : o ∈ l) : (match o.op with | .store .. => true | _ => false, p) ∈ ptrs l := by
  induction l with
  | nil => simp at h
  | cons x r ih =>
    rcases List.mem_cons.1 h with e | h
    · subst e
      unfold ptrs
      cases hop : o.op <;> rw [hop] at hp <;> simp only [ptrOp, Option.some.injEq, reduceCtorEq] at hp
      · subst hp; simp
      · subst hp; simp
    · have := ih h
      unfold ptrs
      split
      · exact List.mem_cons_of_mem _ this
      · exact List.mem_cons_of_mem _ this
      · exact this

theorem far_spec {S : AState} : ∀ {l : List Oper} {i j : Nat} {x y : Oper} {p q : Operand}, Far S (ptrs l) → i < j → l[i]? = some x → l[j]? = some y → ptrOp x.op = some p → ptrOp y.op = some q → clash x y = true → NK (S.ev p) (S.ev q) := by
  intro l
  induction l with
  | nil => intro i j x y p q _ _ h; simp at h
  | cons o r ih =>
    intro i j x y p q hf hij hx hy hp hq hc
    cases j with
    | zero => omega
    | succ j =>
      cases i with
      | succ i =>
        refine ih (i := i) (j := j) ?_ (by omega) (by simpa using hx) (by simpa using hy) hp hq hc
        unfold ptrs at hf
        split at hf
        · exact hf.2
        · exact hf.2
        · exact hf
      | zero =>
        simp at hx
        subst hx
        have hm : y ∈ r := List.mem_of_getElem? (by simpa using hy)
        have hm' := ptrs_mem hq hm
        cases hop : o.op <;> rw [hop] at hp <;> simp only [ptrOp, Option.some.injEq, reduceCtorEq] at hp
        · subst hp
          unfold ptrs at hf
          rw [hop] at hf
          refine far1_all hf.1 _ _ hm' ?_
          cases hoq : y.op <;> rw [hoq] at hq <;> simp only [ptrOp, Option.some.injEq, reduceCtorEq] at hq
          · simp [clash, hop, hoq, cls] at hc
          · rfl
        · subst hp
          unfold ptrs at hf
          rw [hop] at hf
          exact far1_all hf.1 _ _ hm' (by simp)

/-- What is asked of the state ahead: the region's own slots hold no pointers. -/
def Side (ops : Array Oper) (S : AState) : Prop := ∀ o ∈ ops.toList, ∀ d, o.dst = some d → NP (S.tmps d)

def Ivs (Sf S : AState) : Prop := ∀ t, S.tmps t = Sf.tmps t ∨ NP (S.tmps t)

theorem dstUniq_spec {ops : Array Oper} (h : dstUniq ops = true) {i j : Nat} {x y : Oper} {d : Tmp} (hx : ops[i]? = some x) (hy : ops[j]? = some y) (h1 : x.dst = some d) (h2 : y.dst = some d) : i = j := by
  have hi := (Array.getElem?_eq_some_iff.1 hx).1
  have hj := (Array.getElem?_eq_some_iff.1 hy).1
  have := List.all_eq_true.1 (List.all_eq_true.1 h i (by simpa using hi)) j (by simpa using hj)
  rw [hx, hy] at this
  simpa [h1, h2] using this

/-- A slot that a run does not write is as it was. -/
theorem irun_keeps {base : Nat} {ops : Array Oper} {Sf : AState} {t : Tmp} : ∀ {rest : List Nat} {S : AState}, (∀ j ∈ rest, ∀ x, ops[j]? = some x → x.dst ≠ some t) → IRun P base ops rest S Sf → Sf.tmps t = S.tmps t
  | [], S, _, h => by
    have : Sf = S := h
    rw [this]
  | j :: r, S, hr, ⟨x, S1, hx, h1, h2⟩ => by
    rw [irun_keeps (fun q hq => hr q (by simp [hq])) h2]
    obtain ⟨v, b, t', n', he, rfl⟩ := gstep_iff.1 h1
    have := hr j (by simp) x hx
    simp only [putT]
    cases hd : x.dst with
    | none => rfl
    | some d => exact upd_other _ _ (fun e => this (by rw [hd, e]))

theorem ivs_step {base : Nat} {ops : Array Oper} {Sf : AState} (hu : dstUniq ops = true) (i : Nat) (o : Oper) (S S' : AState) (rest : List Nat) (ho : ops[i]? = some o) (hni : i ∉ rest) (hst : GStep P base ops o S S') (hrun : IRun P base ops rest S' Sf) (hiv : Ivs Sf S) : Ivs Sf S' := by
  intro t
  by_cases hd : o.dst = some t
  · refine .inl (irun_keeps (fun j hj x hx hxd => ?_) hrun).symm
    have := dstUniq_spec hu ho hx hd hxd
    subst this
    exact hni hj
  · obtain ⟨v, b, t', n', he, rfl⟩ := gstep_iff.1 hst
    have : putT S.tmps o.dst v t = S.tmps t := by
      unfold putT
      cases hod : o.dst with
      | none => rfl
      | some d => exact upd_other _ _ (fun e => hd (by rw [hod, e]))
    show putT S.tmps o.dst v t = Sf.tmps t ∨ NP (putT S.tmps o.dst v t)
    rw [this]
    exact hiv t

theorem any_sound2 {n nb base : Nat} {ops : Array Oper} {Q : Exit → Act → World → Prop} {Sf : AState} {G0 : Gh} {w0 : World} {b0 : Nat → Option (List (List AV))} (hreg : regOk2 ops = true) (hal : allocOk ops = true) (hdst : dstOk n ops = true) (hnb : base + n ≤ nb)
    (hfar : Far Sf (ptrs ops.toList))
    (hQ : ∀ a' w' G', RelS n nb G' Sf a' w' → LeK base G0 w0 b0 G' w' Sf.box → Q .normal a' w') (fuel : Nat) (listed : Array Bool) (rem : List Nat) (S : AState) (a : Act) (w : World) (G : Gh) (hrem : rem = List.range ops.size) (hside : Side ops S)
    (h1 : listed.size = ops.size) (h2 : rem = (List.range ops.size).filter (fun i => !listed.getD i true)) (h3 : rem.length = fuel) (h4 : ∀ i o, ops[i]? = some o → listed.getD i false = true → ∀ j ∈ direct o, listed.getD j false = true)
    (h5 : IRun P base ops rem S Sf) (h6 : RelS n nb G S a w) (h7 : ∀ i ∈ rem, ∀ o, ops[i]? = some o → Pend P base o G S.box) (h8 : LeK base G0 w0 b0 G w S.box) : wpAny P .any ops Q fuel listed a w := by
  unfold regOk2 at hreg
  simp only [Bool.and_eq_true] at hreg
  obtain ⟨hu, hreg⟩ := hreg
  have key : ∀ (i : Nat) (o : Oper), ops[i]? = some o → (∀ j ∈ direct o, j < i) ∧ ∀ j x, ops[j]? = some x → j < i → ((ancs ops.toList []).getD i 0).testBit j = true ∨ x.apart ops o = true ∧ (clash x o = false ∨ isPtr x.op = true ∧ isPtr o.op = true) := by
    intro i o ho
    have his : i < ops.size := (Array.getElem?_eq_some_iff.1 ho).1
    have hall := List.all_eq_true.1 hreg i (by simpa using his)
    rw [ho] at hall
    simp only [Bool.and_eq_true] at hall
    refine ⟨fun j hj => by simpa using List.all_eq_true.1 hall.1 j hj, fun j x hx hj => ?_⟩
    have h2 := List.all_eq_true.1 hall.2 j (by simpa using hj)
    rw [hx] at h2
    simpa only [Bool.or_eq_true, Bool.and_eq_true, Bool.not_eq_true'] using h2
  have start : Ivs Sf S := by
    intro t
    by_cases hd : ∃ o ∈ ops.toList, o.dst = some t
    · obtain ⟨o, ho, hd⟩ := hd
      exact .inr (hside o ho t hd)
    · refine .inl (irun_keeps (fun j _ x hx hxd => hd ⟨x, by simpa using Array.mem_of_getElem? hx, hxd⟩) h5).symm
  refine any_sound' (fun i o ho => (key i o ho).1) (Iv := Ivs Sf) (fun i o S' S'' rest ho hni hst hrun hiv => ivs_step hu i o S' S'' rest ho hni hst hrun hiv) ?_ hal hdst hnb hQ fuel listed rem S a w G h1 h2 h3 h4 start h5 h6 h7 h8
  intro i j o x ho hx hj hb S' S1 S2 hiv g1 g2
  rcases (key i o ho).2 j x hx hj with h | ⟨h, h'⟩
  · rw [hb] at h; cases h
  · cases hc : clash x o with
    | false => exact gstep_swap h hc g1 g2
    | true =>
      rcases h' with h' | ⟨h1', h2'⟩
      · rw [hc] at h'; cases h'
      · obtain ⟨p, hp⟩ := Option.isSome_iff_exists.1 h1'
        obtain ⟨q, hq⟩ := Option.isSome_iff_exists.1 h2'
        have hnk := far_spec hfar hj (by simpa using hx) (by simpa using ho) hp hq hc
        refine gstep_swap' h (fun {c0 c1 c2 s0 s1 s2 m0 m1 m2 vx vy} e1 e2 => ?_) g1 g2
        have back : ∀ (z : Operand) k i off, S'.ev z = .ptr k i off → Sf.ev z = .ptr k i off := by
          intro z k i off hz
          cases z with
          | tmp t =>
            rcases hiv t with e | e
            · exact e.symm.trans hz
            · have hz' : S'.tmps t = .ptr k i off := hz
              rw [hz'] at e
              exact e.elim
          | const c => exact hz
          | global c => exact hz
          | func c => exact hz
        refine eff_far hp hq (fun k i1 off k' i2 off' hk hk' => ?_) e1 e2
        rw [back p _ _ _ hk, back q _ _ _ hk'] at hnk
        exact hnk

end Go.AM
