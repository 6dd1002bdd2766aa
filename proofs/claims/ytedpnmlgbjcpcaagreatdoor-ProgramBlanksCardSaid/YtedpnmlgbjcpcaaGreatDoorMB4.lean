/-
  Parts of the proof, as merged from many texts: a machine over data, what the functions compute, plain laws.
-/
import Derived.Test.YtedpnmlgbjcpcaaGreatDoorMB3
set_option linter.unusedSimpArgs false
set_option linter.unusedVariables false
namespace Go.AM
open Go
variable {P : Program}
theorem upon_exits {o : Oper} {a : Act} {next : Act → World → Prop} {Q Q' : Exit → Act → World → Prop} (h : ∀ e a w, e ≠ .normal → Q e a w → Q' e a w) (r : Result Next) (hh : o.upon P a next Q r) : o.upon P a next Q' r := by
  have hl : LetsOut Q → LetsOut Q' := fun ⟨a, w, h1⟩ => ⟨a, w, h _ _ _ (by simp) h1⟩
  cases r with
  | ok n w' =>
    cases n <;> simp only [Oper.upon] at hh ⊢ <;>
      first
        | exact hh
        | exact Calls.mono hh (fun e w'' he => by
            cases e
            · exact he
            · exact h _ _ _ (by simp) he
            · exact hl he)
  | halt x w' => cases x <;> simp only [Oper.upon] at hh ⊢ <;> first | exact h _ _ _ (by simp) hh | exact hh
theorem wpOp_exits {ops : Array Oper} {i : Nat} {K : Act → World → Prop} {Q Q' : Exit → Act → World → Prop} {a : Act} {w : World} (h : ∀ e a w, e ≠ .normal → Q e a w → Q' e a w) (hh : wpOp P ops Q i K a w) : wpOp P ops Q' i K a w := by
  have hl : LetsOut Q → LetsOut Q' := fun ⟨a, w, h1⟩ => ⟨a, w, h _ _ _ (by simp) h1⟩
  unfold wpOp at *
  split
  · rename_i ho
    simpa only [ho] using hh
  · rename_i o ho
    simp only [ho] at hh
    split
    · rename_i hw
      rw [if_pos hw] at hh
      exact hh.imp (upon_exits h _) fun ⟨h1, h2⟩ => ⟨h1, hl h2⟩
    · rename_i hw
      rw [if_neg hw] at hh
      exact hh
def tiedAll (L : Array Oper) (m : Nat) : Bool := (List.range m).all fun j => (List.range (m + 1)).any fun i => decide (j < i) && (match L[i]? with | some x => (direct x).contains j | none => false)
def downOk (L : Array Oper) : Bool := (List.range L.size).all fun i => match L[i]? with | some o => (direct o).all fun j => decide (j < i) | none => true
theorem tiedAll_spec {L : Array Oper} {m : Nat} (h : tiedAll L m = true) {j : Nat} (hj : j < m) : ∃ i x, j < i ∧ i ≤ m ∧ L[i]? = some x ∧ j ∈ direct x := by
  unfold tiedAll at h
  have h1 := List.all_eq_true.1 h j (by simpa using hj)
  obtain ⟨i, hi, h2⟩ := List.any_eq_true.1 h1
  simp only [Bool.and_eq_true, decide_eq_true_eq] at h2
  obtain ⟨h2, h3⟩ := h2
  split at h3
  · rename_i x hx
    exact ⟨i, x, h2, by simp at hi; omega, hx, by simpa using h3⟩
  · cases h3
theorem downOk_spec {L : Array Oper} (h : downOk L = true) {i : Nat} {o : Oper} (ho : L[i]? = some o) : ∀ j ∈ direct o, j < i := by
  unfold downOk at h
  have hi := (Array.getElem?_eq_some_iff.1 ho).1
  have h1 := List.all_eq_true.1 h i (by simpa using hi)
  rw [ho] at h1
  intro j hj
  simpa using List.all_eq_true.1 h1 j hj
theorem ready_mem {L : Array Oper} {listed : Array Bool} {i : Nat} : i ∈ Region.ready .any L listed ↔ i < L.size ∧ listed.getD i true = false ∧ ∃ o, L[i]? = some o ∧ ∀ j ∈ direct o, listed.getD j false = true := by
  unfold Region.ready
  rw [List.mem_filter]
  simp only [List.mem_range, Bool.and_eq_true, Bool.not_eq_true']
  constructor
  · rintro ⟨h1, h2, h3⟩
    refine ⟨h1, h2, L[i], by simp [h1], ?_⟩
    simp only [h1, Array.getElem?_eq_getElem, Option.map_some, Option.getD_some, Array.all_eq_true'] at h3
    intro j hj
    unfold direct at hj
    obtain ⟨e, he, rfl⟩ := List.mem_map.1 hj
    obtain ⟨he1, he2⟩ := List.mem_filter.1 he
    have := h3 e (by simpa using he1)
    simpa [he2] using this
  · rintro ⟨h1, h2, o, h3, h4⟩
    refine ⟨h1, h2, ?_⟩
    rw [h3]
    simp only [Option.map_some, Option.getD_some, Array.all_eq_true']
    intro e he
    by_cases hb : Region.binds .any e = true
    · have := h4 e.on (by unfold direct; exact List.mem_map.2 ⟨e, List.mem_filter.2 ⟨by simpa using he, hb⟩, rfl⟩)
      simp [this]
    · simp [hb]
theorem getD_some {l : Array Bool} {i : Nat} {d v : Bool} (h : l[i]? = some v) : l.getD i d = v := by simp [Array.getD_eq_getD_getElem?, h]
def guardOk (ops : Array Oper) : Bool := ops.all fun o => match o.guard with | some (j, _) => decide (j < ops.size) | none => true
theorem of_getD {l : Array Bool} {i : Nat} (h : l.getD i false = true) : l[i]? = some true := by
  rw [Array.getD_eq_getD_getElem?] at h
  cases e : l[i]? with
  | none => rw [e] at h; cases h
  | some v => rw [e] at h; simp at h; rw [h]
theorem wpAny_split {ops : Array Oper} {o : Oper} {Q Qm : Exit → Act → World → Prop} (hdown : downOk (ops.push o) = true) (htied : tiedAll (ops.push o) ops.size = true) (hgo : guardOk ops = true) (hg : o.guard = none)
    (hq : ∀ e a w, e ≠ .normal → Qm e a w → Q e a w) (hn : ∀ a w, Qm .normal a w → o.wp P a w (Q .normal) Q ∨ (o.asks P a w ∧ LetsOut Q)) :
    ∀ (fuel : Nat) (listed l' : Array Bool), listed.size = ops.size + 1 → l'.size = ops.size → (∀ i, i < ops.size → l'[i]? = listed[i]?) → listed[ops.size]? = some false →
      (∀ i x, (ops.push o)[i]? = some x → listed.getD i false = true → ∀ j ∈ direct x, listed.getD j false = true) →
      ∀ a w, wpAny P .any ops Qm fuel l' a w → wpAny P .any (ops.push o) Q (fuel + 1) listed a w := by
  have hsL : (ops.push o).size = ops.size + 1 := Array.size_push _
  have hat : ∀ i, i < ops.size → (ops.push o)[i]? = ops[i]? := fun i hi => by rw [Array.getElem?_push, if_neg (by omega)]
  have hlast : (ops.push o)[ops.size]? = some o := by rw [Array.getElem?_push, if_pos rfl]
  have fin : ∀ (listed : Array Bool), listed.size = ops.size + 1 → (∀ i, i < ops.size → listed[i]? = some true) → listed[ops.size]? = some false → ∀ a w, Qm .normal a w → ∀ n, wpAny P .any (ops.push o) Q (n + 1) listed a w := by
    intro listed hsz hall hls a w hQ n
    have hm : ops.size ∈ Region.ready .any (ops.push o) listed := ready_mem.2 ⟨by omega, getD_some hls, o, hlast, fun j hj => getD_some (hall j (downOk_spec hdown hlast j hj))⟩
    refine ⟨fun h0 => absurd hm (by rw [h0]; simp), fun i hi => ?_⟩
    have him : i = ops.size := by
      obtain ⟨h1, h2, _⟩ := ready_mem.1 hi
      rcases Nat.lt_or_ge i ops.size with h | h
      · rw [getD_some (hall i h)] at h2; cases h2
      · omega
    subst him
    have hall2 : Region.ready .any (ops.push o) (listed.setIfInBounds ops.size true) = [] := by
      rw [List.eq_nil_iff_forall_not_mem]
      intro i hi
      obtain ⟨h1, h2, _⟩ := ready_mem.1 hi
      have : (listed.setIfInBounds ops.size true)[i]? = some true := by
        rw [Array.getElem?_setIfInBounds]
        by_cases e : ops.size = i
        · rw [if_pos e, if_pos (by omega)]
        · rw [if_neg e]; exact hall i (by omega)
      rw [getD_some this] at h2
      cases h2
    have hK : ∀ a w, Q .normal a w → wpAny P .any (ops.push o) Q n (listed.setIfInBounds ops.size true) a w := by
      intro a w hq
      cases n with
      | zero => exact ⟨hall2, hq⟩
      | succ n => exact ⟨fun _ => hq, fun i hi => by rw [hall2] at hi; cases hi⟩
    unfold wpOp
    rw [hlast]
    simp only
    rw [if_pos (by simp [Region.wanted, hg])]
    exact (hn a w hQ).imp (Oper.wp_mono hK) id
  intro fuel
  induction fuel with
  | zero =>
    intro listed l' hsz hsz' hll hls hcl a w h
    obtain ⟨h1, h2⟩ := h
    refine fin listed hsz ?_ hls a w h2 0
    have hC : ∀ n i, i < n → i < ops.size → listed[i]? = some true := by
      intro n
      induction n with
      | zero => intro i hi; omega
      | succ n ihn =>
        intro i hi him
        cases e : listed[i]? with
        | none => rw [Array.getElem?_eq_none_iff] at e; omega
        | some v =>
          cases v with
          | true => rfl
          | false =>
            exfalso
            have : i ∈ Region.ready .any ops l' := ready_mem.2 ⟨him, getD_some ((hll i him).trans e), ops[i], by simp [him], fun j hj => by
              have hji := downOk_spec hdown (by rw [hat i him]; simp [him]) j hj
              exact getD_some ((hll j (by omega)).trans (ihn j (by omega) (by omega)))⟩
            rw [h1] at this
            cases this
    exact fun i hi => hC (i + 1) i (Nat.lt_succ_self _) hi
  | succ k ih =>
    intro listed l' hsz hsz' hll hls hcl a w h
    obtain ⟨h1, h2⟩ := h
    have hval : ∀ i, i < ops.size → listed[i]? = some true ∨ listed[i]? = some false := fun i hi => by
      cases e : listed[i]? with
      | none => rw [Array.getElem?_eq_none_iff] at e; omega
      | some v => cases v <;> simp
    have hrd : ∀ i, i < ops.size → (i ∈ Region.ready .any (ops.push o) listed ↔ i ∈ Region.ready .any ops l') := by
      intro i hi
      have hd : ∀ x, ops[i]? = some x → ((∀ j ∈ direct x, listed.getD j false = true) ↔ ∀ j ∈ direct x, l'.getD j false = true) := fun x hx => by
        have hj := downOk_spec hdown ((hat i hi).trans hx)
        constructor
        · exact fun h j hj' => getD_some ((hll j (by have := hj j hj'; omega)).trans (of_getD (h j hj')))
        · exact fun h j hj' => getD_some ((hll j (by have := hj j hj'; omega)).symm.trans (of_getD (h j hj')))
      rw [ready_mem, ready_mem, hat i hi]
      have hg2 : listed.getD i true = l'.getD i true := by rw [Array.getD_eq_getD_getElem?, Array.getD_eq_getD_getElem?, hll i hi]
      constructor
      · rintro ⟨_, g2, x, g3, g4⟩
        exact ⟨hi, hg2 ▸ g2, x, g3, (hd x g3).1 g4⟩
      · rintro ⟨_, g2, x, g3, g4⟩
        exact ⟨by omega, hg2.symm ▸ g2, x, g3, (hd x g3).2 g4⟩
    by_cases hall : ∀ i, i < ops.size → listed[i]? = some true
    · refine fin listed hsz hall hls a w (h1 ?_) (k + 1)
      rw [List.eq_nil_iff_forall_not_mem]
      intro i hi
      obtain ⟨g1, g2, _⟩ := ready_mem.1 hi
      rw [getD_some ((hll i g1).trans (hall i g1))] at g2
      cases g2
    · have hnm : ops.size ∉ Region.ready .any (ops.push o) listed := by
        intro hm
        refine hall ?_
        obtain ⟨_, _, x, hx, hx2⟩ := ready_mem.1 hm
        rw [hlast] at hx
        cases hx
        have hD : ∀ n j, ops.size - j ≤ n → j < ops.size → listed[j]? = some true := by
          intro n
          induction n with
          | zero => intro j h; omega
          | succ n ihn =>
            intro j hj hjm
            obtain ⟨i, x, hji, him, hx, hjx⟩ := tiedAll_spec htied hjm
            by_cases e : i = ops.size
            · subst e
              rw [hlast] at hx
              cases hx
              exact of_getD (hx2 j hjx)
            · exact of_getD (hcl i x hx (getD_some (ihn i (by omega) (by omega))) j hjx)
        exact fun i hi => hD _ i (Nat.le_refl _) hi
      refine ⟨fun h0 => ?_, fun i hi => ?_⟩
      · exfalso
        refine hall ?_
        have hC : ∀ n i, i < n → i < ops.size → listed[i]? = some true := by
          intro n
          induction n with
          | zero => intro i hi; omega
          | succ n ihn =>
            intro i hi him
            rcases hval i him with e | e
            · exact e
            · exfalso
              have : i ∈ Region.ready .any (ops.push o) listed := ready_mem.2 ⟨by omega, getD_some e, ops[i], by rw [hat i him]; simp [him], fun j hj => by
                have hji := downOk_spec hdown (by rw [hat i him]; simp [him]) j hj
                exact getD_some (ihn j (by omega) (by omega))⟩
              rw [h0] at this
              cases this
        exact fun i hi => hC (i + 1) i (Nat.lt_succ_self _) hi
      · have him : i < ops.size := by
          obtain ⟨g1, _⟩ := ready_mem.1 hi
          rcases Nat.lt_or_ge i ops.size with h | h
          · exact h
          · exfalso
            have : i = ops.size := by omega
            subst this
            exact hnm hi
        have h3 := wpOp_exits hq (h2 i ((hrd i him).1 hi))
        obtain ⟨_, g2, x, g3, g4⟩ := ready_mem.1 hi
        have hx : ops[i]? = some x := (hat i him).symm.trans g3
        have hIH : ∀ a w, wpAny P .any ops Qm k (l'.setIfInBounds i true) a w → wpAny P .any (ops.push o) Q (k + 1) (listed.setIfInBounds i true) a w := by
          intro a w hh
          refine ih _ _ (by simpa using hsz) (by simpa using hsz') ?_ ?_ ?_ a w hh
          · intro j hj
            rw [Array.getElem?_setIfInBounds, Array.getElem?_setIfInBounds]
            by_cases e : i = j
            · rw [if_pos e, if_pos e, if_pos (by omega), if_pos (by omega)]
            · rw [if_neg e, if_neg e]; exact hll j hj
          · rw [Array.getElem?_setIfInBounds, if_neg (by omega)]; exact hls
          · intro i2 y hy hl2 j hj
            have hset : ∀ q, (listed.setIfInBounds i true)[q]? = some true ↔ (q = i ∨ listed[q]? = some true) := by
              intro q
              rw [Array.getElem?_setIfInBounds]
              by_cases e : i = q
              · rw [if_pos e, if_pos (by omega)]; simp [e]
              · rw [if_neg e]
                constructor
                · exact .inr
                · rintro (h | h)
                  · exact absurd h.symm e
                  · exact h
            refine getD_some ((hset j).2 ?_)
            rcases (hset i2).1 (of_getD hl2) with e | e
            · subst e
              rw [g3] at hy
              cases hy
              exact .inr (of_getD (g4 j hj))
            · exact .inr (of_getD (hcl i2 y hy (getD_some e) j hj))
        unfold wpOp at h3 ⊢
        rw [hx] at h3
        rw [g3]
        simp only at h3 ⊢
        have hwan : Region.wanted x (yielded (ops.push o) a.tmps) = Region.wanted x (yielded ops a.tmps) := by
          unfold Region.wanted
          cases hgx : x.guard with
          | none => rfl
          | some jw =>
            obtain ⟨j, want⟩ := jw
            have hj : j < ops.size := by
              unfold guardOk at hgo
              have := Array.all_eq_true'.1 hgo x (Array.mem_of_getElem? hx)
              rw [hgx] at this
              simpa using this
            simp only [yielded, hat j hj]
        rw [hwan]
        split
        · rename_i hw
          rw [if_pos hw] at h3
          exact h3.imp (Oper.wp_mono hIH) id
        · rename_i hw
          rw [if_neg hw] at h3
          exact hIH _ _ h3
def splitOk (n : Nat) (ops : Array Oper) (o : Oper) : Bool := regionOk n ops true && (regionOk n #[o] false && (downOk (ops.push o) && (tiedAll (ops.push o) ops.size && (guardOk ops && o.guard.isNone))))
theorem AL.split {cx : Cx} {nt0 : Nat} {K : Exit → AState → Prop} {r : List CI} {S : AState} {id : Nat} {L ops : Array Oper} {o : Oper} (hL : L = ops.push o) (hf : P.follows .mixedOrders = true) (hnb : cx.base + cx.n ≤ cx.nb) (hok : splitOk cx.n ops o = true)
    (h : FReg P cx ops true (fun S' => FReg P cx #[o] false (AL P cx nt0 K r) S') S) : AL P cx nt0 K (.c (.region id L true) :: r) S := by
  subst hL
  unfold splitOk at hok
  simp only [Bool.and_eq_true, regionOk, Bool.or_eq_true, Bool.not_eq_true', Option.isNone_iff_eq_none] at hok
  obtain ⟨⟨⟨hal, hdst⟩, hreg⟩, ⟨⟨hal1, hdst1⟩, _⟩, hdown, htied, hgo, hgn⟩ := hok
  have hreg' : regOk ops = true := by simpa using hreg
  have h := fReg_sound h
  simp only [AL]
  intro G0 w0 he hn G a w hr hl
  have hd := dstOk_spec hdst
  obtain ⟨b, hb, hr1, hp, hkeep⟩ := preB_sound hnb ops.toList S.box (S := S) hr (fun o ho d hod => hd o d (by simpa using ho) hod) (allocOk_nodup hal) h
  have hl1 : LeC cx G0 w0 G w { S with box := b } := ⟨hl.1, fun k hk hg => by
    rw [← hl.2 k hk hg]
    refine hkeep k fun hm => ?_
    obtain ⟨o, ho, he⟩ := List.mem_filterMap.1 hm
    split at he
    · rename_i T s h1 h2
      simp only [Option.some.injEq] at he
      subst he
      exact absurd hk (by simp)
    · cases he⟩
  simp only at hb
  obtain ⟨S', hrun, hK⟩ := hb
  refine wp_region_any hf ?_
  have hrd : RelS cx.n cx.nb G { S with box := b } a w.drew := hr1.drew
  have hld : LeC cx G0 w0 G w.drew { S with box := b } := hl1.step ⟨Le.drew, fun k _ hg => ⟨hg, rfl⟩⟩
  rw [Array.size_push]
  refine wpAny_split (Qm := fun e a' w' => match e with
    | .normal => o.wp P a' w' (fun a w => ∃ S' G', AL P cx nt0 K r S' ∧ RelS cx.n cx.nb G' S' a w ∧ LeC cx G0 w0 G' w S') (fun e a' w' => ∃ S' G', (match e with | .normal => AL P cx nt0 K r S' | e => AU P cx nt0 K r e S') ∧ RelS cx.n cx.nb G' S' a' w' ∧ LeC cx G0 w0 G' w' S') ∨ (o.asks P a' w' ∧ LetsOut (fun e a' w' => ∃ S' G', (match e with | .normal => AL P cx nt0 K r S' | e => AU P cx nt0 K r e S') ∧ RelS cx.n cx.nb G' S' a' w' ∧ LeC cx G0 w0 G' w' S'))
    | e => False) hdown htied hgo hgn (fun e a w hne hh => by cases e <;> first | exact absurd rfl hne | exact hh.elim) (fun a w hh => ?_) ops.size _ (Array.replicate ops.size false) (by simp) (by simp) (fun i hi => by simp [Array.getElem?_replicate, hi]; omega) (by simp [Array.getElem?_replicate]) ?_ a w.drew ?_
  · exact hh
  · intro i x hx hl2
    have := of_getD hl2
    rw [Array.getElem?_replicate] at this
    split at this
    · cases this
    · cases this
  · refine any_sound (n := cx.n) (nb := cx.nb) (base := cx.base) (Sf := S') (G0 := G) (w0 := w.drew) (b0 := b) hreg' hal hdst hnb (fun a' w' G' h1 h2 => ?_) ops.size (Array.replicate ops.size false) (List.range ops.size) { S with box := b } a w.drew G (by simp) ?_ (by simp) ?_ (IRun.of_all hrun) hrd ?_ (LeK.refl _ _ _ _)
    · have hl2 := hld.step h2
      have hK2 := fReg_sound hK
      obtain ⟨b2, hb2, hr2, hp2, hkeep2⟩ := preB_sound hnb (#[o] : Array Oper).toList S'.box (S := S') h1 (fun o ho d hod => dstOk_spec hdst1 o d (by simpa using ho) hod) (allocOk_nodup hal1) hK2
      have hl3 : LeC cx G0 w0 G' w' { S' with box := b2 } := ⟨hl2.1, fun k hk hg => by
        rw [← hl2.2 k hk hg]
        refine hkeep2 k fun hm => ?_
        obtain ⟨o, ho, he⟩ := List.mem_filterMap.1 hm
        split at he
        · rename_i T s h1 h2
          simp only [Option.some.injEq] at he
          subst he
          exact absurd hk (by simp)
        · cases he⟩
      simp only at hb2
      have hfin := aops_sound (cx := cx) (ops := #[o]) (Q := fun e a' w' => ∃ S' G', (match e with | .normal => AL P cx nt0 K r S' | e => AU P cx nt0 K r e S') ∧ RelS cx.n cx.nb G' S' a' w' ∧ LeC cx G0 w0 G' w' S') (K := AL P cx nt0 K r) (G0 := G0) (w0 := w0) (fun o d ho hod => dstOk_spec hdst1 o d ho hod) hnb hal1 (fun S' a' w' G' h1 h2 h3 => ⟨S', G', h1, h2, h3⟩) (#[o] : Array Oper).toList 0 { S' with box := b2 } a' w' G' (by simp) hp2 hr2 hl3 hb2
      rw [show (#[o] : Array Oper).toList.length = 1 from rfl, show List.range' 0 1 = [0] from rfl, wpOps_cons] at hfin
      unfold wpOp at hfin
      rw [show (#[o] : Array Oper)[0]? = some o from rfl] at hfin
      simp only at hfin
      rw [if_pos (by simp [Region.wanted, hgn])] at hfin
      exact hfin
    · rw [List.filter_eq_self.2]
      intro i hi
      simp at hi
      simp [Array.getD, hi]
    · intro i o ho hlst
      have hi := (Array.getElem?_eq_some_iff.1 ho).1
      simp [Array.getD, hi] at hlst
    · intro i _ o ho
      exact hp o (by simpa using Array.mem_of_getElem? ho)
theorem AL.splitL {cx : Cx} {nt0 : Nat} {K : Exit → AState → Prop} {r : List CI} {S : AState} {id : Nat} {L : List Oper} {o : Oper} (hl : L.getLast? = some o) (hL : L = L.dropLast ++ [o]) (hf : P.follows .mixedOrders = true) (hnb : cx.base + cx.n ≤ cx.nb) (hok : splitOk cx.n L.dropLast.toArray o = true)
    (h : FReg P cx L.dropLast.toArray true (fun S' => FReg P cx #[o] false (AL P cx nt0 K r) S') S) : AL P cx nt0 K (.c (.region id L.toArray true) :: r) S := by
  refine AL.split (ops := L.dropLast.toArray) (o := o) ?_ hf hnb hok h
  rw [List.push_toArray, ← hL]
end Go.AM
