import Derived.Test.YtbihadcpidlfoaaVa5
/-
  The plain law of the standard quotients: listing all partitions and choosing those that fit is going on from the least elements, class by class. No program in sight.
-/
namespace Go.AM
open Go
set_option linter.unusedSimpArgs false
set_option linter.unusedVariables false

/-! ### Lists that grow up to 2001 -/
def lim {α : Type} (out L : List α) : List α := out ++ L.take (2001 - out.length)
theorem lim_nil {α : Type} (out : List α) : lim out [] = out := by simp [lim]
theorem lim_append {α : Type} (out A B : List α) : lim (lim out A) B = lim out (A ++ B) := by
  unfold lim
  rw [List.take_append, List.append_assoc]
  congr 2
  simp only [List.length_append, List.length_take]
  congr 1
  omega
theorem lim_full {α : Type} (out L : List α) (h : 2000 < out.length) : lim out L = out := by
  unfold lim
  have : 2001 - out.length = 0 := by omega
  simp [this]
theorem lim_one {α : Type} (out : List α) (x : α) (h : ¬ 2000 < out.length) : lim out [x] = out ++ [x] := by
  unfold lim
  have : 2001 - out.length = (2001 - out.length - 1) + 1 := by omega
  rw [this]
  simp
theorem foldl_lim {α : Type} (c : Nat → Bool) (f : Nat → List α → List α) (g : Nat → List α) : ∀ (ks : List Nat) (out : List α), (∀ k ∈ ks, ∀ out, f k out = lim out (g k)) →
    ks.foldl (fun out k => if c k = true then f k out else out) out = lim out ((ks.filter c).flatMap g)
  | [], out, _ => by simp [lim_nil]
  | k :: ks, out, h => by
    rw [List.foldl_cons, foldl_lim c f g ks _ (fun k hk => h k (by simp [hk]))]
    by_cases hk : c k = true
    · rw [List.filter_cons_of_pos hk, List.flatMap_cons, if_pos hk, h k (by simp), lim_append]
    · rw [List.filter_cons_of_neg hk, if_neg hk]

/-! ### One element after the other -/
def nextsG (g : Nat → Int → Bool) (l : List Int) : List (List Int) := ((List.range (l.length + 1)).filter fun x => decide (x = l.length ∨ (l.getD x 0 = x ∧ g l.length x = true))).map fun (x : Nat) => l ++ [(x : Int)]
def dfsG (g : Nat → Int → Bool) : Nat → List Int → List (List Int)
  | 0, l => [l]
  | n + 1, l => (nextsG g l).flatMap (dfsG g n)
def reachG (g : Nat → Int → Bool) : Nat → List Int → List (List Int)
  | 0, l => [l]
  | n + 1, l => (reachG g n l).flatMap (nextsG g)

theorem reach_comm (g : Nat → Int → Bool) : ∀ (n : Nat) (l : List Int), (nextsG g l).flatMap (reachG g n) = reachG g (n + 1) l
  | 0, l => by simp [reachG]
  | n + 1, l => by
    have : (fun l => reachG g (n + 1) l) = fun l => (reachG g n l).flatMap (nextsG g) := rfl
    show (nextsG g l).flatMap (fun l => (reachG g n l).flatMap (nextsG g)) = (reachG g (n + 1) l).flatMap (nextsG g)
    rw [← reach_comm g n l, List.flatMap_assoc]
theorem dfs_reach (g : Nat → Int → Bool) : ∀ (n : Nat) (l : List Int), dfsG g n l = reachG g n l
  | 0, l => rfl
  | n + 1, l => by
    have : dfsG g n = reachG g n := funext fun l => dfs_reach g n l
    rw [dfsG, this, reach_comm]

theorem alikeB_snoc (g : Nat → Int → Bool) (l : List Int) (x : Int) : alikeB g (l ++ [x]) = (alikeB g l && g l.length x) := by
  unfold alikeB
  simp only [List.length_append, List.length_cons, List.length_nil, Nat.zero_add]
  rw [alikeK_succ]
  congr 1
  · unfold alikeK
    rw [Bool.eq_iff_iff, List.all_eq_true, List.all_eq_true]
    constructor <;> intro h j hj <;> have := h j hj <;> have hj' : j < l.length := by simpa using hj
    · rw [List.getD_eq_getElem?_getD, List.getElem?_append_left hj', ← List.getD_eq_getElem?_getD] at this
      exact this
    · rw [List.getD_eq_getElem?_getD, List.getElem?_append_left hj', ← List.getD_eq_getElem?_getD]
      exact this
  · simp

theorem reach_filter (g : Nat → Int → Bool) (hg : ∀ i : Nat, g i i = true) : ∀ n, reachG g n [] = (partsN n).filter (alikeB g)
  | 0 => by simp [reachG, partsN, alikeB, alikeK]
  | n + 1 => by
    rw [reachG, reach_filter g hg n, partsN, List.filter_flatMap]
    have key : ∀ L : List (List Int), (∀ l ∈ L, l.length = n) → (L.filter (alikeB g)).flatMap (nextsG g) = L.flatMap fun l => (nextsK l (n + 1)).filter (alikeB g) := by
      intro L
      induction L with
      | nil => intro _; rfl
      | cons l L ih =>
        intro hL
        have hl := hL l (by simp)
        have hone : (nextsK l (n + 1)).filter (alikeB g) = if alikeB g l = true then nextsG g l else [] := by
          unfold nextsK nextsG
          rw [List.filter_map, List.filter_filter, hl]
          by_cases ha : alikeB g l = true
          · rw [if_pos ha]
            congr 1
            apply List.filter_congr
            intro x hx
            simp only [Function.comp, alikeB_snoc, ha, Bool.true_and, hl]
            rw [Bool.eq_iff_iff]
            simp only [Bool.and_eq_true, Bool.or_eq_true, decide_eq_true_eq]
            constructor
            · rintro ⟨h1, h2 | h2⟩
              · exact .inl h2
              · exact .inr ⟨h2, h1⟩
            · rintro (h1 | ⟨h1, h2⟩)
              · subst h1; exact ⟨hg _, .inl rfl⟩
              · exact ⟨h2, .inr h1⟩
          · rw [if_neg ha]
            have : ((List.range (n + 1)).filter fun a => ((alikeB g) ∘ fun (x : Nat) => l ++ [(x : Int)]) a && (decide (a = n) || decide (l.getD a 0 = ↑a))) = [] := by
              rw [List.filter_eq_nil_iff]
              intro x hx
              simp only [Function.comp, alikeB_snoc]
              simp [ha]
            rw [this]
            rfl
        rw [List.flatMap_cons, hone]
        by_cases ha : alikeB g l = true
        · rw [List.filter_cons_of_pos ha, List.flatMap_cons, if_pos ha, ih fun l hl => hL l (by simp [hl])]
        · rw [List.filter_cons_of_neg ha, if_neg ha, ih fun l hl => hL l (by simp [hl])]
          rfl
    exact key _ (partsN_len n)

/-! ### The reference's lists -/
def gE (a : Gr) (p : List Int) (i : Nat) (k : Int) : Bool := decide (likeE a p i k.toNat)
def gN (a : Gr) (i : Nat) (k : Int) : Bool := decide (a.nodes.getD i 0 = a.nodes.getD k.toNat 0)

theorem quE_lim (a : Gr) (p : List Int) : ∀ (n : Nat) (es : List Int) (out : List Qu), quE a p n es out = lim out ((dfsG (gE a p) n es).map (quot a p))
  | 0, es, out => by
    unfold quE
    split
    · rename_i h; rw [lim_full _ _ h]
    · rename_i h; simp only [dfsG, List.map_cons, List.map_nil]; rw [lim_one _ _ h]
  | n + 1, es, out => by
    unfold quE
    split
    · rename_i h; rw [lim_full _ _ h]
    · have h1 : (quStepE a p (quE a p n) es) = fun out k => if (decide (k = es.length ∨ (es.getD k 0 = k ∧ gE a p es.length k = true))) = true then quE a p n (es ++ [(k : Int)]) out else out := by
        funext out k
        simp only [quStepE, gE, decide_eq_true_eq, Int.toNat_natCast]
      rw [h1, foldl_lim _ (fun (k : Nat) out => quE a p n (es ++ [(k : Int)]) out) (fun (k : Nat) => (dfsG (gE a p) n (es ++ [(k : Int)])).map (quot a p)) _ _ (fun k _ out => quE_lim a p n _ out)]
      congr 1
      simp only [dfsG, nextsG, List.map_flatMap, List.flatMap_map]

theorem quN_lim (a : Gr) : ∀ (n : Nat) (l : List Int) (out : List Qu), quN a n l out = lim out ((dfsG (gN a) n l).flatMap fun p => (dfsG (gE a p) a.edges.length []).map (quot a p))
  | 0, l, out => by
    unfold quN
    split
    · rename_i h; rw [lim_full _ _ h]
    · simp only [dfsG, List.flatMap_cons, List.flatMap_nil, List.append_nil]; rw [quE_lim]
  | n + 1, l, out => by
    unfold quN
    split
    · rename_i h; rw [lim_full _ _ h]
    · have h1 : (quStepN a (quN a n) l) = fun out k => if (decide (k = l.length ∨ (l.getD k 0 = k ∧ gN a l.length k = true))) = true then quN a n (l ++ [(k : Int)]) out else out := by
        funext out k
        simp only [quStepN, gN, decide_eq_true_eq, Int.toNat_natCast]
        congr 1
        rw [eq_comm (a := a.nodes.getD k 0)]
      rw [h1, foldl_lim _ (fun (k : Nat) out => quN a n (l ++ [(k : Int)]) out) (fun (k : Nat) => (dfsG (gN a) n (l ++ [(k : Int)])).flatMap fun p => (dfsG (gE a p) a.edges.length []).map (quot a p)) _ _ (fun k _ out => quN_lim a n _ out)]
      congr 1
      simp only [dfsG, nextsG, List.flatMap_assoc, List.flatMap_map]

/-- All standard quotients, as the program lists them. -/
def listQ (a : Gr) : List Qu := ((partsN a.nodes.length).filter (alikeB (gN a))).flatMap fun p => ((partsN a.edges.length).filter (alikeB (gE a p))).map (quF a p)

/-! ### Numbers by least elements -/
section
variable {α : Type}
def repG (f : Nat → α) (l : List Int) : Nat → List α
  | 0 => []
  | i + 1 => if l.getD i 0 = i then repG f l i ++ [f i] else repG f l i
def fillG (p : List Int) (f : Nat → α) (n : Nat) (d : α) : Nat → List α
  | 0 => List.replicate n d
  | i + 1 => (fillG p f n d i).set (p.getD i 0).toNat (f i)

theorem numN_pre (l : List Int) : ∀ (i j k : Nat), j ≤ i → k < j → (numN l i).1.getD k 0 = (numN l j).1.getD k 0 := by
  intro i j k hji hkj
  induction i with
  | zero => have : j = 0 := by omega
            subst this; rfl
  | succ i ih =>
    by_cases h : j = i + 1
    · subst h; rfl
    · rw [← ih (by omega)]
      have hl := (numN_len l i).1
      simp only [numN]
      split <;> simp only [List.getD_eq_getElem?_getD] <;> rw [List.getElem?_append_left (by omega)]

theorem numN_rep (f : Nat → α) (l : List Int) : ∀ i, (repG f l i).length = (numN l i).2.toNat
  | 0 => rfl
  | i + 1 => by
    have ih := numN_rep f l i
    have h := numN_len l i
    simp only [repG, numN]
    split
    · simp only [List.length_append, List.length_cons, List.length_nil]; omega
    · exact ih

theorem numN_get {l : List Int} (hp : PartL l) (f : Nat → α) (hf : ∀ i (h : i < l.length), f l[i].toNat = f i) : ∀ i, i ≤ l.length → ∀ j, j < i → (repG f l i)[((numN l i).1.getD j 0).toNat]? = some (f j)
  | 0, _ => by intro j h; omega
  | i + 1, hi => by
    intro j hj
    have ih := numN_get hp f hf i (by omega)
    have hlen := numN_len l i
    have hil : i < l.length := by omega
    have hg : l.getD i 0 = l[i] := by simp [hil]
    obtain ⟨p1, p2, p3⟩ := hp i hil
    have hrep := numN_rep f l i
    by_cases hji : j < i
    · rw [numN_pre l (i + 1) i j (by omega) hji]
      have h1 := ih j hji
      simp only [repG]
      split
      · have hlt : ((numN l i).1.getD j 0).toNat < (repG f l i).length := (List.getElem?_eq_some_iff.1 h1).1
        rw [List.getElem?_append_left hlt]
        exact h1
      · exact h1
    · have hji2 : j = i := by omega
      subst hji2
      simp only [repG, numN, hg]
      split
      · rename_i he
        have : ((numN l j).1 ++ [(numN l j).2]).getD j 0 = (numN l j).2 := by
          rw [List.getD_eq_getElem?_getD, List.getElem?_append_right (by omega)]
          simp [hlen.1]
        rw [this, ← hrep]
        simp
      · rename_i he
        have : ((numN l j).1 ++ [(numN l j).1.getD l[j].toNat 0]).getD j 0 = (numN l j).1.getD l[j].toNat 0 := by
          rw [List.getD_eq_getElem?_getD, List.getElem?_append_right (by omega)]
          simp [hlen.1]
        rw [this, ih l[j].toNat (by omega), hf j hil]

theorem numN_mono (l : List Int) : ∀ i j, i ≤ j → (numN l i).2 ≤ (numN l j).2 := by
  intro i j h
  induction j with
  | zero => have : i = 0 := by omega
            subst this; exact Int.le_refl _
  | succ j ih =>
    by_cases e : i = j + 1
    · subst e; exact Int.le_refl _
    · have := ih (by omega)
      simp only [numN]
      split <;> simp only <;> omega

theorem fill_rep {l : List Int} (hp : PartL l) (f : Nat → α) (d : α) (hf : ∀ i (h : i < l.length), f l[i].toNat = f i) : ∀ i, i ≤ l.length →
    fillG (numN l l.length).1 f (numN l l.length).2.toNat d i = repG f l i ++ List.replicate ((numN l l.length).2.toNat - (numN l i).2.toNat) d
  | 0, _ => by simp [fillG, repG, numN]
  | i + 1, hi => by
    have ih := fill_rep hp f d hf i (by omega)
    have hil : i < l.length := by omega
    have hg : l.getD i 0 = l[i] := by simp [hil]
    have hlen := numN_len l i
    have hrep := numN_rep f l i
    rw [fillG, ih, numN_pre l l.length (i + 1) i hi (by omega)]
    have hm := numN_mono l (i + 1) l.length hi
    simp only [repG, numN, hg] at hm ⊢
    split
    · rename_i he
      simp only [he, ↓reduceIte] at hm
      have e1 : ((numN l i).1 ++ [(numN l i).2]).getD i 0 = (numN l i).2 := by
        rw [List.getD_eq_getElem?_getD, List.getElem?_append_right (by omega)]
        simp [hlen.1]
      rw [e1, List.set_append, ← hrep]
      simp only [Nat.lt_irrefl, ↓reduceIte, Nat.sub_self]
      have e2 : (numN l l.length).2.toNat - (repG f l i).length = ((numN l l.length).2.toNat - ((numN l i).2 + 1).toNat) + 1 := by omega
      rw [e2, List.replicate_succ, List.set_cons_zero, List.append_assoc]
      rfl
    · rename_i he
      have e1 : ((numN l i).1 ++ [(numN l i).1.getD l[i].toNat 0]).getD i 0 = (numN l i).1.getD l[i].toNat 0 := by
        rw [List.getD_eq_getElem?_getD, List.getElem?_append_right (by omega)]
        simp [hlen.1]
      obtain ⟨p1, p2, p3⟩ := hp i hil
      have h3 := numN_get hp f hf i (by omega) l[i].toNat (by omega)
      rw [hf i hil] at h3
      obtain ⟨h4, h5⟩ := List.getElem?_eq_some_iff.1 h3
      rw [e1, List.set_append, if_pos h4, ← h5, List.set_getElem_self]

theorem fill_rep_all {l : List Int} (hp : PartL l) (f : Nat → α) (d : α) (hf : ∀ i (h : i < l.length), f l[i].toNat = f i) :
    fillG (numN l l.length).1 f (numN l l.length).2.toNat d l.length = repG f l l.length := by
  rw [fill_rep hp f d hf l.length (Nat.le_refl _), Nat.sub_self]
  simp
end

theorem fillN_eq (p an : List Int) (n : Nat) : ∀ i, fillN p an n i = fillG p (fun j => an.getD j 0) n 0 i
  | 0 => rfl
  | i + 1 => by rw [fillN, fillG, fillN_eq p an n i]
theorem repN_eq (an l : List Int) : ∀ i, repN an l i = repG (fun j => an.getD j 0) l i
  | 0 => rfl
  | i + 1 => by rw [repN, repG, repN_eq an l i]
def edgeAt (ae : List E) (p : List Int) (j : Nat) : E := ⟨(ae.getD j default).ty, p.getD (ae.getD j default).fr.toNat 0, p.getD (ae.getD j default).to.toNat 0⟩
theorem fillE_eq (q p : List Int) (ae : List E) (n : Nat) : ∀ i, fillE q p ae n i = fillG q (edgeAt ae p) n ⟨0, 0, 0⟩ i
  | 0 => rfl
  | i + 1 => by rw [fillE, fillG, fillE_eq q p ae n i]; rfl
theorem repE_eq (ae : List E) (p l : List Int) : ∀ i, repE ae p l i = repG (edgeAt ae p) l i
  | 0 => rfl
  | i + 1 => by rw [repE, repG, repE_eq ae p l i]; rfl

/-- What one class has is one number. -/
theorem numN_class {l : List Int} (hp : PartL l) (x : Nat) (hx : x < l.length) : (numN l l.length).1.getD x 0 = (numN l l.length).1.getD l[x].toNat 0 := by
  obtain ⟨p1, p2, p3⟩ := hp x hx
  by_cases he : l[x] = x
  · rw [he]; rfl
  · rw [numN_pre l l.length (x + 1) x (by omega) (by omega), numN_pre l l.length x l[x].toNat (by omega) (by omega)]
    have hlen := numN_len l x
    have hg : l.getD x 0 = l[x] := by simp [hx]
    simp only [numN, hg, he, ↓reduceIte]
    rw [List.getD_eq_getElem?_getD, List.getElem?_append_right (by omega)]
    simp [hlen.1]

theorem alikeB_all {g : Nat → Int → Bool} {l : List Int} (h : alikeB g l = true) (i : Nat) (hi : i < l.length) : g i l[i] = true := by
  unfold alikeB alikeK at h
  have := List.all_eq_true.1 h i (by simpa using hi)
  simpa [hi] using this

theorem quF_quot (a : Gr) (l k : List Int) (hl : l.length = a.nodes.length) (hk : k.length = a.edges.length) (hpl : PartL l) (hpk : PartL k) (hx : ∀ e ∈ a.edges, 0 ≤ e.fr ∧ e.fr < a.nodes.length ∧ 0 ≤ e.to ∧ e.to < a.nodes.length)
    (h1 : alikeB (gN a) l = true) (h2 : alikeB (gE a l) k = true) : quF a l k = quot a l k := by
  unfold quF quot
  simp only
  congr 1
  congr 1
  · rw [← hl, fillN_eq, repN_eq]
    refine fill_rep_all hpl _ _ fun i hi => ?_
    have := alikeB_all h1 i hi
    simp only [gN, decide_eq_true_eq] at this
    exact this.symm
  · rw [← hk, fillE_eq, repE_eq]
    refine fill_rep_all hpk _ _ fun i hi => ?_
    have := alikeB_all h2 i hi
    simp only [gE, decide_eq_true_eq] at this
    obtain ⟨t1, t2, t3⟩ := this
    have hia : i < a.edges.length := by omega
    obtain ⟨q1, q2, q3⟩ := hpk i hi
    have hka : k[i].toNat < a.edges.length := by omega
    have g1 : a.edges.getD i default = a.edges[i] := by simp [hia]
    have g2 : a.edges.getD k[i].toNat default = a.edges[k[i].toNat] := by simp [hka]
    obtain ⟨x1, x2, x3, x4⟩ := hx _ (List.getElem_mem hia)
    obtain ⟨z1, z2, z3, z4⟩ := hx _ (List.getElem_mem hka)
    have cls : ∀ x y : Nat, x < l.length → y < l.length → l.getD x 0 = l.getD y 0 → (numN l l.length).1.getD x 0 = (numN l l.length).1.getD y 0 := by
      intro x y hx hy he
      have e1 : l.getD x 0 = l[x] := by simp [hx]
      have e2 : l.getD y 0 = l[y] := by simp [hy]
      rw [numN_class hpl x hx, numN_class hpl y hy, ← e1, ← e2, he]
    rw [g1, g2] at t1 t2 t3
    simp only [edgeAt, g1, g2, E.mk.injEq]
    exact ⟨t1.symm, (cls _ _ (by omega) (by omega) t2).symm, (cls _ _ (by omega) (by omega) t3).symm⟩

theorem quN_list (a : Gr) (hx : ∀ e ∈ a.edges, 0 ≤ e.fr ∧ e.fr < a.nodes.length ∧ 0 ≤ e.to ∧ e.to < a.nodes.length) : quN a a.nodes.length [] [] = (listQ a).take 2001 := by
  rw [quN_lim, dfs_reach, reach_filter _ (fun i => by simp [gN])]
  have e : (((partsN a.nodes.length).filter (alikeB (gN a))).flatMap fun p => (dfsG (gE a p) a.edges.length []).map (quot a p)) = listQ a := by
    unfold listQ
    have key : ∀ L : List (List Int), (∀ p ∈ L, p ∈ partsN a.nodes.length ∧ alikeB (gN a) p = true) → (L.flatMap fun p => (dfsG (gE a p) a.edges.length []).map (quot a p)) = L.flatMap fun p => ((partsN a.edges.length).filter (alikeB (gE a p))).map (quF a p) := by
      intro L
      induction L with
      | nil => intro _; rfl
      | cons p L ih =>
        intro hL
        obtain ⟨hp, ha⟩ := hL p (by simp)
        rw [List.flatMap_cons, List.flatMap_cons, ih fun p hp => hL p (by simp [hp]), dfs_reach, reach_filter _ (fun i => by simp [gE, likeE])]
        congr 1
        apply List.map_congr_left
        intro q hq
        rw [List.mem_filter] at hq
        exact (quF_quot a p q (partsN_len _ p hp) (partsN_len _ q hq.1) (partsN_partL _ p hp) (partsN_partL _ q hq.1) hx ha hq.2).symm
    exact key _ fun p hp => by simpa using List.mem_filter.1 hp
  rw [e]
  simp [lim]
end Go.AM
namespace Go.AM
open Go Go.Proofs
set_option linter.unusedSimpArgs false
set_option linter.unusedVariables false

/-! ### factor.Quotients -/
def qsOf (a : Gr) (L M : List (List Int)) (p : List Int) : List Qu := (M.filter (alikeB (gE a p))).map (quF a p)
def goneQ (a : Gr) (j : Nat) : List Qu := (((partsN a.nodes.length).take j).filter (alikeB (gN a))).flatMap (qsOf a [] (partsN a.edges.length))
def goneE (a : Gr) (p : List Int) (i : Nat) : List Qu := qsOf a [] ((partsN a.edges.length).take i) p

theorem goneQ_all (a : Gr) : goneQ a (partsN a.nodes.length).length = listQ a := by
  unfold goneQ listQ qsOf
  rw [List.take_length]
theorem goneE_all (a : Gr) (p : List Int) : goneE a p (partsN a.edges.length).length = qsOf a [] (partsN a.edges.length) p := by
  unfold goneE
  rw [List.take_length]
theorem goneQ_no (a : Gr) (j : Nat) (h : j < (partsN a.nodes.length).length) (hp : alikeB (gN a) (partsN a.nodes.length)[j] = false) : goneQ a (j + 1) = goneQ a j := by
  unfold goneQ
  rw [List.take_succ_eq_append_getElem h, List.filter_append]
  simp [hp]
theorem goneQ_yes (a : Gr) (j : Nat) (h : j < (partsN a.nodes.length).length) (hp : alikeB (gN a) (partsN a.nodes.length)[j] = true) : goneQ a (j + 1) = goneQ a j ++ qsOf a [] (partsN a.edges.length) (partsN a.nodes.length)[j] := by
  unfold goneQ
  rw [List.take_succ_eq_append_getElem h, List.filter_append, List.flatMap_append]
  simp [hp]
theorem goneE_no (a : Gr) (p : List Int) (i : Nat) (h : i < (partsN a.edges.length).length) (hp : alikeB (gE a p) (partsN a.edges.length)[i] = false) : goneE a p (i + 1) = goneE a p i := by
  unfold goneE qsOf
  rw [List.take_succ_eq_append_getElem h, List.filter_append]
  simp [hp]
theorem goneE_yes (a : Gr) (p : List Int) (i : Nat) (h : i < (partsN a.edges.length).length) (hp : alikeB (gE a p) (partsN a.edges.length)[i] = true) : goneE a p (i + 1) = goneE a p i ++ [quF a p (partsN a.edges.length)[i]] := by
  unfold goneE qsOf
  rw [List.take_succ_eq_append_getElem h, List.filter_append, List.map_append]
  simp [hp]
theorem goneE_le (a : Gr) (p : List Int) (i : Nat) (h : i ≤ (partsN a.edges.length).length) : (goneE a p i).length ≤ (qsOf a [] (partsN a.edges.length) p).length := by
  exact (((List.take_sublist i (partsN a.edges.length)).filter (alikeB (gE a p))).map (quF a p)).length_le
theorem goneQ_le (a : Gr) (j : Nat) : (goneQ a j).length ≤ (listQ a).length := by
  have : partsN a.nodes.length = (partsN a.nodes.length).take j ++ (partsN a.nodes.length).drop j := by simp
  have e : listQ a = goneQ a j ++ (((partsN a.nodes.length).drop j).filter (alikeB (gN a))).flatMap (qsOf a [] (partsN a.edges.length)) := by
    unfold goneQ
    rw [← List.flatMap_append, ← List.filter_append, ← this]
    rfl
  rw [e]
  simp

theorem quotientsR_list (a : Gr) (hv : validG a = 0) (hs : ¬ (6 < a.nodes.length ∨ 6 < a.edges.length)) : quotientsR a = if 2000 < (listQ a).length then ([], 3) else (listQ a, 0) := by
  have h := quN_list a (validG_edges hv)
  unfold quotientsR
  simp only [hv, hs, h, ne_eq, not_true_eq_false, ↓reduceIte]
  by_cases hb : 2000 < (listQ a).length
  · have : 2000 < ((listQ a).take 2001).length := by simp; omega
    rw [if_pos this, if_pos hb]
  · have : (listQ a).take 2001 = listQ a := List.take_of_length_le (by omega)
    rw [this]

structure AccQ where
  i : Nat
  own : Own
  tok : Nat → Bool
  nt : Nat

def st18a (a : Gr) (nb : Nat) (box : Nat → Option (List (List AV))) (x : AccQ) : AState :=
  ⟨tl [(1, .ptr (nb + 1) 0 0), (7, .d (lists (partsN a.edges.length))), (9, .osl 4 ((goneQ a x.i).map Qu.cells) x.own), (44, .d (lists (partsN a.nodes.length))), (45, I (partsN a.nodes.length).length), (46, I x.i)],
    lb nb box [(1, [[.d (ints a.nodes), .d (AM.edges a.edges)]])], x.tok, x.nt⟩

end Go.AM
namespace Go.AM
open Go Go.Proofs
set_option linter.unusedSimpArgs false
set_option linter.unusedVariables false

/-! ### awake -/
def gOne : Gr := ⟨[4], []⟩
def gTwo : Gr := ⟨[4, 4], [⟨1, 0, 1⟩]⟩
def gThree : Gr := ⟨[4, 4], []⟩
theorem one_ov : (overlapsR gOne gOne).1.length = 2 ∧ (overlapsR gOne gOne).2 = 0 := by decide +kernel
theorem two_ov : (overlapsR gTwo gTwo).1.length = 8 ∧ (overlapsR gTwo gTwo).2 = 0 := by decide +kernel
theorem three_qu : ∃ x y, (quotientsR gThree) = ([x, y], 0) ∧ x.g.nodes.length = 1 := ⟨(quotientsR gThree).1.getD 0 default, (quotientsR gThree).1.getD 1 default, by decide +kernel, by decide +kernel⟩

theorem Sub.agg {xs ys : List AV} (h : SubL xs ys) : Sub (.agg xs) (.agg ys) := fun G w v r => by
  cases r with
  | agg hl hh h1 => have := h.rvs ⟨hl, hh⟩; exact .agg this.1 this.2 h1

end Go.AM
namespace Go.AM
open Go Go.Proofs
set_option linter.unusedSimpArgs false
set_option linter.unusedVariables false

/-! ### What the lists hold is small -/
theorem foldl_all {α β : Type} {P : α → Prop} (f : List α → β → List α) : ∀ (l : List β) (out : List α), (∀ out b, b ∈ l → (∀ o ∈ out, P o) → ∀ o ∈ f out b, P o) → (∀ o ∈ out, P o) → ∀ o ∈ l.foldl f out, P o
  | [], out, _, h => h
  | b :: l, out, hf, h => foldl_all f l _ (fun out b hb => hf out b (by simp [hb])) (hf out b (by simp) h)

theorem ovE_all {P : Ov → Prop} (a b : Gr) (nodes : List Int) : ∀ (n : Nat) (es : List Int) (out : List Ov), (∀ o ∈ out, P o) → (∀ es', es'.length = es.length + n → P (glue a b nodes es')) → ∀ o ∈ ovE a b nodes n es out, P o
  | 0, es, out, h, hg => by
    unfold ovE
    split
    · exact h
    · intro o ho
      rcases List.mem_append.1 ho with ho | ho
      · exact h o ho
      · simp at ho; subst ho; exact hg es (by simp)
  | n + 1, es, out, h, hg => by
    unfold ovE
    split
    · exact h
    · refine foldl_all _ _ _ (fun out k _ ho => ?_) (ovE_all a b nodes n _ _ h fun es' he => hg es' (by simp at he; omega))
      split
      · exact ovE_all a b nodes n _ _ ho fun es' he => hg es' (by simp at he; omega)
      · exact ho

theorem ovN_all {P : Ov → Prop} (a b : Gr) : ∀ (n : Nat) (l : List Int) (out : List Ov), (∀ o ∈ out, P o) → (∀ l' es', l'.length = l.length + n → es'.length = b.edges.length → P (glue a b l' es')) → ∀ o ∈ ovN a b n l out, P o
  | 0, l, out, h, hg => by
    unfold ovN
    split
    · exact h
    · exact ovE_all a b l _ _ _ h fun es' he => hg l es' (by simp) (by simpa using he)
  | n + 1, l, out, h, hg => by
    unfold ovN
    split
    · exact h
    · refine foldl_all _ _ _ (fun out k _ ho => ?_) (ovN_all a b n _ _ h fun l' es' hl he => hg l' es' (by simp at hl; omega) he)
      unfold ovStepN
      split
      · exact ovN_all a b n _ _ ho fun l' es' hl he => hg l' es' (by simp at hl; omega) he
      · exact ho

theorem glue_fit (a b : Gr) (l k : List Int) (ha : a.nodes.length ≤ 90 ∧ a.edges.length ≤ 90) (hl : l.length ≤ 90) (hk : k.length ≤ 90) : (glue a b l k).Fit := by
  have h1 := glueN_len a.nodes b.nodes l l.length
  have h2 := glueE_len a.edges b.edges (glueN a.nodes b.nodes l l.length).2 k k.length
  exact ⟨⟨by simp only [glue]; omega, by simp only [glue]; omega⟩, ⟨by simp [glue, idM]; omega, by simp [glue, idM]; omega⟩, ⟨by simp only [glue]; omega, by simp only [glue]; omega⟩⟩

theorem overlapsR_fit (a b : Gr) (ha : a.nodes.length ≤ 90 ∧ a.edges.length ≤ 90) (hb : b.nodes.length ≤ 90 ∧ b.edges.length ≤ 90) : (overlapsR a b).1.length ≤ 1000000 ∧ ∀ o ∈ (overlapsR a b).1, o.Fit := by
  have key : ∀ o ∈ ovN a b b.nodes.length [] [], o.Fit := ovN_all a b _ _ _ (by simp) fun l' es' h1 h2 => glue_fit a b l' es' ha (by simp at h1; omega) (by omega)
  unfold overlapsR
  split
  · simp
  · split
    · simp
    · split
      · simp
      · split
        · simp
        · exact ⟨by simp only; omega, key⟩

theorem quF_fit (a : Gr) (l k : List Int) (hl : l.length ≤ 90) (hk : k.length ≤ 90) : (quF a l k).Fit := by
  have h1 := numN_len l l.length
  have h2 := numN_len k k.length
  exact ⟨⟨by simp only [quF, fillN_len]; omega, by simp only [quF, fillE_len]; omega⟩, ⟨by simp only [quF]; omega, by simp only [quF]; omega⟩⟩

theorem quotientsR_fit (a : Gr) : (quotientsR a).1.length ≤ 1000000 ∧ ∀ o ∈ (quotientsR a).1, o.Fit := by
  by_cases hv : validG a = 0
  · by_cases hs : 6 < a.nodes.length ∨ 6 < a.edges.length
    · have : quotientsR a = ([], 3) := by simp [quotientsR, hv, hs]
      rw [this]
      simp
    · rw [quotientsR_list a hv hs]
      split
      · simp
      · refine ⟨by simp only; omega, fun o ho => ?_⟩
        simp only [listQ, List.mem_flatMap, List.mem_map, List.mem_filter] at ho
        obtain ⟨p, ⟨hp, _⟩, q, ⟨hq, _⟩, rfl⟩ := ho
        have h1 := partsN_len _ p hp
        have h2 := partsN_len _ q hq
        exact quF_fit a p q (by omega) (by omega)
  · have : quotientsR a = ([], validG a) := by simp [quotientsR, hv]
    rw [this]
    simp

/-! ### The first two laws -/
end Go.AM
namespace Go.AM
open Go Go.Proofs
set_option linter.unusedSimpArgs false
set_option linter.unusedVariables false

/-! ### morphism.Valid, ref06.Valid -/
/-- The first error of a list. -/
def firstE (f : Nat → Int) : Nat → Int
  | 0 => 0
  | n + 1 => if firstE f n = 0 then f n else firstE f n
theorem firstE_stop {f : Nat → Int} {i : Nat} (h0 : firstE f i = 0) (h : f i ≠ 0) : ∀ n, i < n → firstE f n = f i
  | 0, hn => by omega
  | n + 1, hn => by
    simp only [firstE]
    by_cases e : i = n
    · subst e; rw [if_pos h0]
    · rw [firstE_stop h0 h n (by omega), if_neg h]

def nodeE (a b : Gr) (m : Mo) (i : Nat) : Int :=
  if m.nodes.getD i 0 < 0 ∨ (b.nodes.length : Int) ≤ m.nodes.getD i 0 then 6 else if b.nodes.getD (m.nodes.getD i 0).toNat 0 = a.nodes.getD i 0 then 0 else 13
def edgeE (a b : Gr) (m : Mo) (i : Nat) : Int :=
  if m.edges.getD i 0 < 0 ∨ (b.edges.length : Int) ≤ m.edges.getD i 0 then 6 else
    let x := a.edges.getD i default
    let y := b.edges.getD (m.edges.getD i 0).toNat default
    if x.ty ≠ y.ty then 13 else if m.nodes.getD x.fr.toNat 0 ≠ y.fr ∨ m.nodes.getD x.to.toNat 0 ≠ y.to then 11 else 0

def validM (a b : Gr) (m : Mo) : Int :=
  if validG a ≠ 0 then validG a else if validG b ≠ 0 then validG b else if m.nodes.length ≠ a.nodes.length ∨ m.edges.length ≠ a.edges.length then 20
  else if firstE (nodeE a b m) a.nodes.length ≠ 0 then firstE (nodeE a b m) a.nodes.length else firstE (edgeE a b m) a.edges.length

def st51a (a b : Gr) (m : Mo) (nb : Nat) (box : Nat → Option (List (List AV))) (tok : Nat → Bool) (nt : Nat) (i : Nat) : AState :=
  ⟨tl [(3, .ptr (nb + 3) 0 0), (4, .ptr (nb + 4) 0 0), (5, .ptr (nb + 5) 0 0), (42, .d (ints m.nodes)), (43, I m.nodes.length), (44, I i)],
    lb nb box [(3, [[.d (ints a.nodes), .d (AM.edges a.edges)]]), (4, [[.d (ints b.nodes), .d (AM.edges b.edges)]]), (5, [[.d (ints m.nodes), .d (ints m.edges)]])], tok, nt⟩

def st51b (a b : Gr) (m : Mo) (nb : Nat) (box : Nat → Option (List (List AV))) (tok : Nat → Bool) (nt : Nat) (i : Nat) : AState :=
  ⟨tl [(3, .ptr (nb + 3) 0 0), (4, .ptr (nb + 4) 0 0), (5, .ptr (nb + 5) 0 0), (71, .d (ints m.edges)), (72, I m.edges.length), (73, I i)],
    lb nb box [(3, [[.d (ints a.nodes), .d (AM.edges a.edges)]]), (4, [[.d (ints b.nodes), .d (AM.edges b.edges)]]), (5, [[.d (ints m.nodes), .d (ints m.edges)]])], tok, nt⟩

def boxAB (a b : Gr) (m : Mo) : List (List AV) × List (List AV) × List (List AV) := ([[.d (ints a.nodes), .d (AM.edges a.edges)]], [[.d (ints b.nodes), .d (AM.edges b.edges)]], [[.d (ints m.nodes), .d (ints m.edges)]])

theorem valid51_c (a b : Gr) (m : Mo) (ha : a.Fit) (hb : b.Fit) (tok : Nat → Bool) (nt : Nat) : DCall Try.prog 55 [a.av, b.av, m.av] tok nt (I (validM a b m)) tok nt := by
  intro box nb
  have han := ha.n
  have hae := ha.e
  have hbn := hb.n
  have hbe := hb.e
  refine ACalls.of_body Try.func55 rfl (by kernel_rfl) follows_Try (by kernel_rfl) (by simp [Try.ntmps55]) ?_
  intro hbox htok
  simp only at hbox htok
  apply AL.start
  repeat (first | refine AL.seq ?_ | refine AL.block ?_ | refine AL.skip ?_ | refine AL.blk ?_)
  refine AL.region follows_Try (Nat.le_refl _) (by kernel_rfl) ?_
  simp
  repeat (first | refine AL.seq ?_ | refine AL.block ?_ | refine AL.skip ?_ | refine AL.blk ?_)
  refine AL.region follows_Try (Nat.le_refl _) (by kernel_rfl) ?_
  simp
  refine Stop.of_d (graphValid_c a ha _ _) ?_
  simp
  by_cases hva : validG a = 0
  · repeat (first | refine AL.seq ?_ | refine AL.block ?_ | refine AL.skip ?_ | refine AL.blk ?_)
    refine AL.region follows_Try (Nat.le_refl _) (by kernel_rfl) ?_
    simp [hva]
    repeat (first | refine AL.seq ?_ | refine AL.block ?_ | refine AL.skip ?_ | refine AL.blk ?_)
    refine AL.cond ?_
    simp
    repeat (first | refine AL.seq ?_ | refine AL.block ?_ | refine AL.skip ?_ | refine AL.blk ?_)
    refine AL.region follows_Try (Nat.le_refl _) (by kernel_rfl) ?_
    simp
    refine Stop.of_d (graphValid_c b hb _ _) ?_
    simp
    by_cases hvb : validG b = 0
    · repeat (first | refine AL.seq ?_ | refine AL.block ?_ | refine AL.skip ?_ | refine AL.blk ?_)
      refine AL.region follows_Try (Nat.le_refl _) (by kernel_rfl) ?_
      simp [hvb]
      repeat (first | refine AL.seq ?_ | refine AL.block ?_ | refine AL.skip ?_ | refine AL.blk ?_)
      refine AL.cond ?_
      simp
      have hxa := validG_edges hva
      have hxb := validG_edges hvb
      repeat (first | refine AL.seq ?_ | refine AL.block ?_ | refine AL.skip ?_ | refine AL.blk ?_)
      refine AL.region follows_Try (Nat.le_refl _) (by kernel_rfl) ?_
      simp
      by_cases hl1 : m.nodes.length = a.nodes.length
      · simp [hl1]
        repeat (first | refine AL.seq ?_ | refine AL.block ?_ | refine AL.skip ?_ | refine AL.blk ?_)
        refine AL.cond ?_
        simp
        refine ⟨fun hl2 => ?_, fun hl2 => ?_⟩
        · repeat (first | refine AL.seq ?_ | refine AL.block ?_ | refine AL.skip ?_ | refine AL.blk ?_)
          refine AL.region follows_Try (Nat.le_refl _) (by kernel_rfl) ?_
          simp
          have hR : validM a b m = 20 := by
            have : ¬ m.edges.length = a.edges.length := by omega
            simp [validM, hva, hvb, this]
          repeat (first | refine AL.seq ?_ | refine AL.block ?_ | refine AL.skip ?_ | refine AL.blk ?_)
          refine AL.ret ?_
          try simp only [AU]
          refine ⟨by simp, Fin.data (by simp [resAs, resA]; rfl) hbox rfl htok (fun _ h => h) (Nat.le_refl _) ?_⟩
          simp [packA, hR]
        · repeat (first | refine AL.seq ?_ | refine AL.block ?_ | refine AL.skip ?_ | refine AL.blk ?_)
          refine AL.region follows_Try (Nat.le_refl _) (by kernel_rfl) ?_
          simp
          repeat (first | refine AL.seq ?_ | refine AL.block ?_ | refine AL.skip ?_ | refine AL.blk ?_)
          have hl2' : m.edges.length = a.edges.length := by omega
          have hRn : ∀ i, i < a.nodes.length → firstE (nodeE a b m) i = 0 → nodeE a b m i ≠ 0 → validM a b m = nodeE a b m i := fun i hi h0 hne => by
            have := firstE_stop h0 hne a.nodes.length hi
            simp [validM, hva, hvb, hl1, hl2', this, hne]
          refine AL.loopT (st51a a b m nb box tok nt) (fun i => i ≤ m.nodes.length ∧ firstE (nodeE a b m) i = 0) (fun i => m.nodes.length - i) 0 ⟨Nat.zero_le _, rfl⟩ (Weaks.mk (Nat.le_refl _) rfl (by simp [ToL, lk]) (by simp [BoxL, lk])) ?_
          rintro i S ⟨hi, hok⟩ hS
          simp only [st51a] at hS
          subst hS
          have hw : IntKind.i64.wrap (↑i + 1) = ((i + 1 : Nat) : Int) := by rw [wrap_in (by omega) (by omega)]; rfl
          repeat (first | refine AL.seq ?_ | refine AL.block ?_ | refine AL.skip ?_ | refine AL.blk ?_)
          refine AL.region follows_Try (Nat.le_refl _) (by kernel_rfl) ?_
          simp
          repeat (first | refine AL.seq ?_ | refine AL.block ?_ | refine AL.skip ?_ | refine AL.blk ?_)
          refine AL.cond ?_
          simp
          refine ⟨fun hlt => ?_, fun hge => ?_⟩
          · have hia : i < a.nodes.length := by omega
            have hgm : m.nodes.getD i 0 = m.nodes[i] := by simp [hlt]
            have hga : a.nodes.getD i 0 = a.nodes[i] := by simp [hia]
            repeat (first | refine AL.seq ?_ | refine AL.block ?_ | refine AL.skip ?_ | refine AL.blk ?_)
            refine AL.region follows_Try (Nat.le_refl _) (by kernel_rfl) ?_
            simp [hlt]
            by_cases hneg : m.nodes[i] < 0
            · repeat (first | refine AL.seq ?_ | refine AL.block ?_ | refine AL.skip ?_ | refine AL.blk ?_)
              refine AL.region follows_Try (Nat.le_refl _) (by kernel_rfl) ?_
              simp [hneg]
              repeat (first | refine AL.seq ?_ | refine AL.block ?_ | refine AL.skip ?_ | refine AL.blk ?_)
              refine AL.cond ?_
              simp
              repeat (first | refine AL.seq ?_ | refine AL.block ?_ | refine AL.skip ?_ | refine AL.blk ?_)
              refine AL.region follows_Try (Nat.le_refl _) (by kernel_rfl) ?_
              simp
              have hN : nodeE a b m i = 6 := by simp only [nodeE, hgm]; rw [if_pos (.inl hneg)]
              have hR := hRn i hia hok (by rw [hN]; decide)
              repeat (first | refine AL.seq ?_ | refine AL.block ?_ | refine AL.skip ?_ | refine AL.blk ?_)
              refine AL.ret ?_
              try simp only [AU]
              refine ⟨by simp, Fin.data (by simp [resAs, resA]; rfl) hbox rfl htok (fun _ h => h) (Nat.le_refl _) ?_⟩
              simp [packA, hR, hN]
            · repeat (first | refine AL.seq ?_ | refine AL.block ?_ | refine AL.skip ?_ | refine AL.blk ?_)
              refine AL.region follows_Try (Nat.le_refl _) (by kernel_rfl) ?_
              simp [hneg]
              repeat (first | refine AL.seq ?_ | refine AL.block ?_ | refine AL.skip ?_ | refine AL.blk ?_)
              refine AL.cond ?_
              simp
              refine ⟨fun hbig => ?_, fun hsm => ?_⟩
              · repeat (first | refine AL.seq ?_ | refine AL.block ?_ | refine AL.skip ?_ | refine AL.blk ?_)
                refine AL.region follows_Try (Nat.le_refl _) (by kernel_rfl) ?_
                simp
                have hN : nodeE a b m i = 6 := by simp only [nodeE, hgm]; rw [if_pos (.inr (by omega))]
                have hR := hRn i hia hok (by rw [hN]; decide)
                repeat (first | refine AL.seq ?_ | refine AL.block ?_ | refine AL.skip ?_ | refine AL.blk ?_)
                refine AL.ret ?_
                try simp only [AU]
                refine ⟨by simp, Fin.data (by simp [resAs, resA]; rfl) hbox rfl htok (fun _ h => h) (Nat.le_refl _) ?_⟩
                simp [packA, hR, hN]
              · have hkb : m.nodes[i].toNat < b.nodes.length := by omega
                have h0 : 0 ≤ m.nodes[i] := by omega
                have hgb : b.nodes.getD m.nodes[i].toNat 0 = b.nodes[m.nodes[i].toNat] := by simp [hkb]
                have hnb : ¬ (b.nodes.length : Int) ≤ m.nodes[i] := by omega
                repeat (first | refine AL.seq ?_ | refine AL.block ?_ | refine AL.skip ?_ | refine AL.blk ?_)
                refine AL.region follows_Try (Nat.le_refl _) (by kernel_rfl) ?_
                simp [hkb, h0, hsm, hia]
                repeat (first | refine AL.seq ?_ | refine AL.block ?_ | refine AL.skip ?_ | refine AL.blk ?_)
                refine AL.cond ?_
                simp
                refine ⟨fun hne => ?_, fun heq => ?_⟩
                · repeat (first | refine AL.seq ?_ | refine AL.block ?_ | refine AL.skip ?_ | refine AL.blk ?_)
                  refine AL.region follows_Try (Nat.le_refl _) (by kernel_rfl) ?_
                  simp
                  have hN : nodeE a b m i = 13 := by simp only [nodeE, hgm, hga, hgb]; rw [if_neg (by omega), if_neg hne]
                  have hR := hRn i hia hok (by rw [hN]; decide)
                  repeat (first | refine AL.seq ?_ | refine AL.block ?_ | refine AL.skip ?_ | refine AL.blk ?_)
                  refine AL.ret ?_
                  try simp only [AU]
                  refine ⟨by simp, Fin.data (by simp [resAs, resA]; rfl) hbox rfl htok (fun _ h => h) (Nat.le_refl _) ?_⟩
                  simp [packA, hR, hN]
                · repeat (first | refine AL.seq ?_ | refine AL.block ?_ | refine AL.skip ?_ | refine AL.blk ?_)
                  refine AL.region follows_Try (Nat.le_refl _) (by kernel_rfl) ?_
                  simp [hw]
                  repeat (first | refine AL.seq ?_ | refine AL.block ?_ | refine AL.skip ?_ | refine AL.blk ?_)
                  refine AL.nil ?_
                  refine ⟨i + 1, ⟨hlt, ?_⟩, by omega, Weaks.mk (Nat.le_refl _) rfl (by simp [ToL, lk]) (by simp [BoxL, lk])⟩
                  have hN : nodeE a b m i = 0 := by simp only [nodeE, hgm, hga, hgb]; rw [if_neg (by omega), if_pos heq]
                  simp only [firstE, hok, hN, ↓reduceIte]
          · repeat (first | refine AL.seq ?_ | refine AL.block ?_ | refine AL.skip ?_ | refine AL.blk ?_)
            refine AL.exit ?_
            simp only [AU, ↓reduceIte]
            have hin : i = a.nodes.length := by omega
            subst hin
            repeat (first | refine AL.seq ?_ | refine AL.block ?_ | refine AL.skip ?_ | refine AL.blk ?_)
            refine AL.region follows_Try (Nat.le_refl _) (by kernel_rfl) ?_
            simp
            repeat (first | refine AL.seq ?_ | refine AL.block ?_ | refine AL.skip ?_ | refine AL.blk ?_)
            have hRe : ∀ i, i < a.edges.length → firstE (edgeE a b m) i = 0 → edgeE a b m i ≠ 0 → validM a b m = edgeE a b m i := fun i hi h0 hne => by
              have := firstE_stop h0 hne a.edges.length hi
              simp [validM, hva, hvb, hl1, hl2', hok, this]
            refine AL.loopT (st51b a b m nb box tok nt) (fun i => i ≤ m.edges.length ∧ firstE (edgeE a b m) i = 0) (fun i => m.edges.length - i) 0 ⟨Nat.zero_le _, rfl⟩ (Weaks.mk (Nat.le_refl _) rfl (by simp [ToL, lk]) (by simp [BoxL, lk])) ?_
            rintro i S ⟨hi, hoke⟩ hS
            simp only [st51b] at hS
            subst hS
            have hw : IntKind.i64.wrap (↑i + 1) = ((i + 1 : Nat) : Int) := by rw [wrap_in (by omega) (by omega)]; rfl
            repeat (first | refine AL.seq ?_ | refine AL.block ?_ | refine AL.skip ?_ | refine AL.blk ?_)
            refine AL.region follows_Try (Nat.le_refl _) (by kernel_rfl) ?_
            simp
            repeat (first | refine AL.seq ?_ | refine AL.block ?_ | refine AL.skip ?_ | refine AL.blk ?_)
            refine AL.cond ?_
            simp
            refine ⟨fun hlt => ?_, fun hge => ?_⟩
            · have hia : i < a.edges.length := by omega
              have hgm : m.edges.getD i 0 = m.edges[i] := by simp [hlt]
              have hga : a.edges.getD i default = a.edges[i] := by simp [hia]
              obtain ⟨x1, x2, x3, x4⟩ := hxa _ (List.getElem_mem hia)
              rw [← hl1] at x2 x4
              have y1 : a.edges[i].fr.toNat < m.nodes.length := by omega
              have y2 : a.edges[i].to.toNat < m.nodes.length := by omega
              have hg1 : m.nodes.getD a.edges[i].fr.toNat 0 = m.nodes[a.edges[i].fr.toNat] := by simp [y1]
              have hg2 : m.nodes.getD a.edges[i].to.toNat 0 = m.nodes[a.edges[i].to.toNat] := by simp [y2]
              repeat (first | refine AL.seq ?_ | refine AL.block ?_ | refine AL.skip ?_ | refine AL.blk ?_)
              refine AL.region follows_Try (Nat.le_refl _) (by kernel_rfl) ?_
              simp [hlt]
              by_cases hneg : m.edges[i] < 0
              · repeat (first | refine AL.seq ?_ | refine AL.block ?_ | refine AL.skip ?_ | refine AL.blk ?_)
                refine AL.region follows_Try (Nat.le_refl _) (by kernel_rfl) ?_
                simp [hneg]
                repeat (first | refine AL.seq ?_ | refine AL.block ?_ | refine AL.skip ?_ | refine AL.blk ?_)
                refine AL.cond ?_
                simp
                repeat (first | refine AL.seq ?_ | refine AL.block ?_ | refine AL.skip ?_ | refine AL.blk ?_)
                refine AL.region follows_Try (Nat.le_refl _) (by kernel_rfl) ?_
                simp
                have hN : edgeE a b m i = 6 := by simp only [edgeE, hgm]; rw [if_pos (.inl hneg)]
                have hR := hRe i hia hoke (by rw [hN]; decide)
                repeat (first | refine AL.seq ?_ | refine AL.block ?_ | refine AL.skip ?_ | refine AL.blk ?_)
                refine AL.ret ?_
                try simp only [AU]
                refine ⟨by simp, Fin.data (by simp [resAs, resA]; rfl) hbox rfl htok (fun _ h => h) (Nat.le_refl _) ?_⟩
                simp [packA, hR, hN]
              · repeat (first | refine AL.seq ?_ | refine AL.block ?_ | refine AL.skip ?_ | refine AL.blk ?_)
                refine AL.region follows_Try (Nat.le_refl _) (by kernel_rfl) ?_
                simp [hneg]
                repeat (first | refine AL.seq ?_ | refine AL.block ?_ | refine AL.skip ?_ | refine AL.blk ?_)
                refine AL.cond ?_
                simp
                refine ⟨fun hbig => ?_, fun hsm => ?_⟩
                · repeat (first | refine AL.seq ?_ | refine AL.block ?_ | refine AL.skip ?_ | refine AL.blk ?_)
                  refine AL.region follows_Try (Nat.le_refl _) (by kernel_rfl) ?_
                  simp
                  have hN : edgeE a b m i = 6 := by simp only [edgeE, hgm]; rw [if_pos (.inr (by omega))]
                  have hR := hRe i hia hoke (by rw [hN]; decide)
                  repeat (first | refine AL.seq ?_ | refine AL.block ?_ | refine AL.skip ?_ | refine AL.blk ?_)
                  refine AL.ret ?_
                  try simp only [AU]
                  refine ⟨by simp, Fin.data (by simp [resAs, resA]; rfl) hbox rfl htok (fun _ h => h) (Nat.le_refl _) ?_⟩
                  simp [packA, hR, hN]
                · have hkb : m.edges[i].toNat < b.edges.length := by omega
                  have h0 : 0 ≤ m.edges[i] := by omega
                  have hgb : b.edges.getD m.edges[i].toNat default = b.edges[m.edges[i].toNat] := by simp [hkb]
                  have hnn : ¬ (m.edges[i] < 0 ∨ (b.edges.length : Int) ≤ m.edges[i]) := by omega
                  repeat (first | refine AL.seq ?_ | refine AL.block ?_ | refine AL.skip ?_ | refine AL.blk ?_)
                  refine AL.region2 follows_Try (Nat.le_refl _) (by kernel_rfl) (Side.of (by simp)) ?_
                  simp [hkb, h0, hsm, hia]
                  generalize hy : b.edges[m.edges[i].toNat] = y at *
                  repeat (first | refine AL.seq ?_ | refine AL.block ?_ | refine AL.skip ?_ | refine AL.blk ?_)
                  refine AL.region follows_Try (Nat.le_refl _) (by kernel_rfl) ?_
                  simp
                  repeat (first | refine AL.seq ?_ | refine AL.block ?_ | refine AL.skip ?_ | refine AL.blk ?_)
                  refine AL.cond ?_
                  simp
                  refine ⟨fun hty => ?_, fun hty => ?_⟩
                  · repeat (first | refine AL.seq ?_ | refine AL.block ?_ | refine AL.skip ?_ | refine AL.blk ?_)
                    refine AL.region follows_Try (Nat.le_refl _) (by kernel_rfl) ?_
                    simp
                    have hN : edgeE a b m i = 13 := by simp only [edgeE, hgm, hga, hgb]; rw [if_neg hnn, if_pos hty]
                    have hR := hRe i hia hoke (by rw [hN]; decide)
                    repeat (first | refine AL.seq ?_ | refine AL.block ?_ | refine AL.skip ?_ | refine AL.blk ?_)
                    refine AL.ret ?_
                    try simp only [AU]
                    refine ⟨by simp, Fin.data (by simp [resAs, resA]; rfl) hbox rfl htok (fun _ h => h) (Nat.le_refl _) ?_⟩
                    simp [packA, hR, hN]
                  · repeat (first | refine AL.seq ?_ | refine AL.block ?_ | refine AL.skip ?_ | refine AL.blk ?_)
                    refine AL.region follows_Try (Nat.le_refl _) (by kernel_rfl) ?_
                    simp [x1, x2, x3, x4, y1, y2]
                    by_cases hfr : m.nodes[a.edges[i].fr.toNat] = y.fr
                    · have hb1 : (m.nodes[a.edges[i].fr.toNat] != y.fr) = false := by simp [hfr]
                      simp only [hb1]
                      simp [x1, x2, x3, x4, y1, y2]
                      repeat (first | refine AL.seq ?_ | refine AL.block ?_ | refine AL.skip ?_ | refine AL.blk ?_)
                      refine AL.cond ?_
                      simp
                      refine ⟨fun hto => ?_, fun hto => ?_⟩
                      · repeat (first | refine AL.seq ?_ | refine AL.block ?_ | refine AL.skip ?_ | refine AL.blk ?_)
                        refine AL.region follows_Try (Nat.le_refl _) (by kernel_rfl) ?_
                        simp
                        have hN : edgeE a b m i = 11 := by simp only [edgeE, hgm, hga, hgb, hg1, hg2]; rw [if_neg hnn, if_neg (by simp [hty]), if_pos (.inr hto)]
                        have hR := hRe i hia hoke (by rw [hN]; decide)
                        repeat (first | refine AL.seq ?_ | refine AL.block ?_ | refine AL.skip ?_ | refine AL.blk ?_)
                        refine AL.ret ?_
                        try simp only [AU]
                        refine ⟨by simp, Fin.data (by simp [resAs, resA]; rfl) hbox rfl htok (fun _ h => h) (Nat.le_refl _) ?_⟩
                        simp [packA, hR, hN]
                      · repeat (first | refine AL.seq ?_ | refine AL.block ?_ | refine AL.skip ?_ | refine AL.blk ?_)
                        refine AL.region follows_Try (Nat.le_refl _) (by kernel_rfl) ?_
                        simp [hw]
                        repeat (first | refine AL.seq ?_ | refine AL.block ?_ | refine AL.skip ?_ | refine AL.blk ?_)
                        refine AL.nil ?_
                        refine ⟨i + 1, ⟨hlt, ?_⟩, by omega, Weaks.mk (Nat.le_refl _) rfl (by simp [ToL, lk]) (by simp [BoxL, lk])⟩
                        have hN : edgeE a b m i = 0 := by simp only [edgeE, hgm, hga, hgb, hg1, hg2]; rw [if_neg hnn, if_neg (by simp [hty]), if_neg (by simp [hfr, hto])]
                        simp only [firstE, hoke, hN, ↓reduceIte]
                    · have hb1 : (m.nodes[a.edges[i].fr.toNat] != y.fr) = true := by simp [hfr]
                      simp only [hb1]
                      simp
                      repeat (first | refine AL.seq ?_ | refine AL.block ?_ | refine AL.skip ?_ | refine AL.blk ?_)
                      refine AL.cond ?_
                      simp
                      repeat (first | refine AL.seq ?_ | refine AL.block ?_ | refine AL.skip ?_ | refine AL.blk ?_)
                      refine AL.region follows_Try (Nat.le_refl _) (by kernel_rfl) ?_
                      simp
                      have hN : edgeE a b m i = 11 := by simp only [edgeE, hgm, hga, hgb, hg1, hg2]; rw [if_neg hnn, if_neg (by simp [hty]), if_pos (.inl hfr)]
                      have hR := hRe i hia hoke (by rw [hN]; decide)
                      repeat (first | refine AL.seq ?_ | refine AL.block ?_ | refine AL.skip ?_ | refine AL.blk ?_)
                      refine AL.ret ?_
                      try simp only [AU]
                      refine ⟨by simp, Fin.data (by simp [resAs, resA]; rfl) hbox rfl htok (fun _ h => h) (Nat.le_refl _) ?_⟩
                      simp [packA, hR, hN]
            · repeat (first | refine AL.seq ?_ | refine AL.block ?_ | refine AL.skip ?_ | refine AL.blk ?_)
              refine AL.exit ?_
              simp only [AU, ↓reduceIte]
              have hin : i = a.edges.length := by omega
              subst hin
              repeat (first | refine AL.seq ?_ | refine AL.block ?_ | refine AL.skip ?_ | refine AL.blk ?_)
              refine AL.region follows_Try (Nat.le_refl _) (by kernel_rfl) ?_
              simp
              have hR : validM a b m = 0 := by simp [validM, hva, hvb, hl1, hl2', hok, hoke]
              repeat (first | refine AL.seq ?_ | refine AL.block ?_ | refine AL.skip ?_ | refine AL.blk ?_)
              refine AL.ret ?_
              try simp only [AU]
              refine ⟨by simp, Fin.data (by simp [resAs, resA]; rfl) hbox rfl htok (fun _ h => h) (Nat.le_refl _) ?_⟩
              simp [packA, hR]
      · have hb1 : ((m.nodes.length : Int) != (a.nodes.length : Int)) = true := by simp; omega
        simp only [hb1]
        simp
        repeat (first | refine AL.seq ?_ | refine AL.block ?_ | refine AL.skip ?_ | refine AL.blk ?_)
        refine AL.cond ?_
        simp
        repeat (first | refine AL.seq ?_ | refine AL.block ?_ | refine AL.skip ?_ | refine AL.blk ?_)
        refine AL.region follows_Try (Nat.le_refl _) (by kernel_rfl) ?_
        simp
        have hR : validM a b m = 20 := by simp [validM, hva, hvb, hl1]
        repeat (first | refine AL.seq ?_ | refine AL.block ?_ | refine AL.skip ?_ | refine AL.blk ?_)
        refine AL.ret ?_
        try simp only [AU]
        refine ⟨by simp, Fin.data (by simp [resAs, resA]; rfl) hbox rfl htok (fun _ h => h) (Nat.le_refl _) ?_⟩
        simp [packA, hR]
    · repeat (first | refine AL.seq ?_ | refine AL.block ?_ | refine AL.skip ?_ | refine AL.blk ?_)
      refine AL.region follows_Try (Nat.le_refl _) (by kernel_rfl) ?_
      simp
      repeat (first | refine AL.seq ?_ | refine AL.block ?_ | refine AL.skip ?_ | refine AL.blk ?_)
      refine AL.cond ?_
      simp [hvb]
      repeat (first | refine AL.seq ?_ | refine AL.block ?_ | refine AL.skip ?_ | refine AL.blk ?_)
      refine AL.region follows_Try (Nat.le_refl _) (by kernel_rfl) ?_
      simp
      repeat (first | refine AL.seq ?_ | refine AL.block ?_ | refine AL.skip ?_ | refine AL.blk ?_)
      refine AL.ret ?_
      try simp only [AU]
      refine ⟨by simp, Fin.data (by simp [resAs, resA]; rfl) hbox rfl htok (fun _ h => h) (Nat.le_refl _) ?_⟩
      simp [packA, validM, hva, hvb]
  · repeat (first | refine AL.seq ?_ | refine AL.block ?_ | refine AL.skip ?_ | refine AL.blk ?_)
    refine AL.region follows_Try (Nat.le_refl _) (by kernel_rfl) ?_
    simp
    repeat (first | refine AL.seq ?_ | refine AL.block ?_ | refine AL.skip ?_ | refine AL.blk ?_)
    refine AL.cond ?_
    simp [hva]
    repeat (first | refine AL.seq ?_ | refine AL.block ?_ | refine AL.skip ?_ | refine AL.blk ?_)
    refine AL.region follows_Try (Nat.le_refl _) (by kernel_rfl) ?_
    simp
    repeat (first | refine AL.seq ?_ | refine AL.block ?_ | refine AL.skip ?_ | refine AL.blk ?_)
    refine AL.ret ?_
    try simp only [AU]
    refine ⟨by simp, Fin.data (by simp [resAs, resA]; rfl) hbox rfl htok (fun _ h => h) (Nat.le_refl _) ?_⟩
    simp [packA, validM, hva]
end Go.AM
namespace Go.AM
open Go Go.Proofs
set_option linter.unusedSimpArgs false
set_option linter.unusedVariables false

def st53a (a b : Gr) (m : Mo) (nb : Nat) (box : Nat → Option (List (List AV))) (tok : Nat → Bool) (nt : Nat) (i : Nat) : AState :=
  ⟨tl [(3, .ptr (nb + 3) 0 0), (4, .ptr (nb + 4) 0 0), (5, .ptr (nb + 5) 0 0), (9, I i)],
    lb nb box [(3, [[.d (ints a.nodes), .d (AM.edges a.edges)]]), (4, [[.d (ints b.nodes), .d (AM.edges b.edges)]]), (5, [[.d (ints m.nodes), .d (ints m.edges)]])], tok, nt⟩

def st53b (a b : Gr) (m : Mo) (nb : Nat) (box : Nat → Option (List (List AV))) (tok : Nat → Bool) (nt : Nat) (i : Nat) : AState :=
  ⟨tl [(3, .ptr (nb + 3) 0 0), (4, .ptr (nb + 4) 0 0), (5, .ptr (nb + 5) 0 0), (10, I i)],
    lb nb box [(3, [[.d (ints a.nodes), .d (AM.edges a.edges)]]), (4, [[.d (ints b.nodes), .d (AM.edges b.edges)]]), (5, [[.d (ints m.nodes), .d (ints m.edges)]])], tok, nt⟩

theorem valid53_c (a b : Gr) (m : Mo) (ha : a.Fit) (hb : b.Fit) (tok : Nat → Bool) (nt : Nat) : DCall Try.prog 59 [a.av, b.av, m.av] tok nt (I (validM a b m)) tok nt := by
  intro box nb
  have han := ha.n
  have hae := ha.e
  have hbn := hb.n
  have hbe := hb.e
  refine ACalls.of_body Try.func59 rfl (by kernel_rfl) follows_Try (by kernel_rfl) (by simp [Try.ntmps59]) ?_
  intro hbox htok
  simp only at hbox htok
  apply AL.start
  repeat (first | refine AL.seq ?_ | refine AL.block ?_ | refine AL.skip ?_ | refine AL.blk ?_)
  refine AL.region follows_Try (Nat.le_refl _) (by kernel_rfl) ?_
  simp
  repeat (first | refine AL.seq ?_ | refine AL.block ?_ | refine AL.skip ?_ | refine AL.blk ?_)
  refine AL.region follows_Try (Nat.le_refl _) (by kernel_rfl) ?_
  simp
  refine Stop.of_d (valid05_c a ha _ _) ?_
  simp
  by_cases hva : validG a = 0
  · repeat (first | refine AL.seq ?_ | refine AL.block ?_ | refine AL.skip ?_ | refine AL.blk ?_)
    refine AL.region follows_Try (Nat.le_refl _) (by kernel_rfl) ?_
    simp [hva]
    repeat (first | refine AL.seq ?_ | refine AL.block ?_ | refine AL.skip ?_ | refine AL.blk ?_)
    refine AL.cond ?_
    simp
    repeat (first | refine AL.seq ?_ | refine AL.block ?_ | refine AL.skip ?_ | refine AL.blk ?_)
    refine AL.region follows_Try (Nat.le_refl _) (by kernel_rfl) ?_
    simp
    refine Stop.of_d (valid05_c b hb _ _) ?_
    simp
    by_cases hvb : validG b = 0
    · repeat (first | refine AL.seq ?_ | refine AL.block ?_ | refine AL.skip ?_ | refine AL.blk ?_)
      refine AL.region follows_Try (Nat.le_refl _) (by kernel_rfl) ?_
      simp [hvb]
      repeat (first | refine AL.seq ?_ | refine AL.block ?_ | refine AL.skip ?_ | refine AL.blk ?_)
      refine AL.cond ?_
      simp
      have hxa := validG_edges hva
      have hxb := validG_edges hvb
      repeat (first | refine AL.seq ?_ | refine AL.block ?_ | refine AL.skip ?_ | refine AL.blk ?_)
      refine AL.region follows_Try (Nat.le_refl _) (by kernel_rfl) ?_
      simp
      by_cases hl1 : m.nodes.length = a.nodes.length
      · simp [hl1]
        repeat (first | refine AL.seq ?_ | refine AL.block ?_ | refine AL.skip ?_ | refine AL.blk ?_)
        refine AL.cond ?_
        simp
        refine ⟨fun hl2 => ?_, fun hl2 => ?_⟩
        · repeat (first | refine AL.seq ?_ | refine AL.block ?_ | refine AL.skip ?_ | refine AL.blk ?_)
          refine AL.region follows_Try (Nat.le_refl _) (by kernel_rfl) ?_
          simp
          have hR : validM a b m = 20 := by
            have : ¬ m.edges.length = a.edges.length := by omega
            simp [validM, hva, hvb, this]
          repeat (first | refine AL.seq ?_ | refine AL.block ?_ | refine AL.skip ?_ | refine AL.blk ?_)
          refine AL.ret ?_
          try simp only [AU]
          refine ⟨by simp, Fin.data (by simp [resAs, resA]; rfl) hbox rfl htok (fun _ h => h) (Nat.le_refl _) ?_⟩
          simp [packA, hR]
        · repeat (first | refine AL.seq ?_ | refine AL.block ?_ | refine AL.skip ?_ | refine AL.blk ?_)
          refine AL.region follows_Try (Nat.le_refl _) (by kernel_rfl) ?_
          simp
          repeat (first | refine AL.seq ?_ | refine AL.block ?_ | refine AL.skip ?_ | refine AL.blk ?_)
          have hl2' : m.edges.length = a.edges.length := by omega
          have hRn : ∀ i, i < a.nodes.length → firstE (nodeE a b m) i = 0 → nodeE a b m i ≠ 0 → validM a b m = nodeE a b m i := fun i hi h0 hne => by
            have := firstE_stop h0 hne a.nodes.length hi
            simp [validM, hva, hvb, hl1, hl2', this, hne]
          refine AL.loopT (st53a a b m nb box tok nt) (fun i => i ≤ a.nodes.length ∧ firstE (nodeE a b m) i = 0) (fun i => a.nodes.length - i) 0 ⟨Nat.zero_le _, rfl⟩ (Weaks.mk (Nat.le_refl _) rfl (by simp [ToL, lk]) (by simp [BoxL, lk])) ?_
          rintro i S ⟨hi, hok⟩ hS
          simp only [st53a] at hS
          subst hS
          have hw : IntKind.i64.wrap (↑i + 1) = ((i + 1 : Nat) : Int) := by rw [wrap_in (by omega) (by omega)]; rfl
          repeat (first | refine AL.seq ?_ | refine AL.block ?_ | refine AL.skip ?_ | refine AL.blk ?_)
          refine AL.region follows_Try (Nat.le_refl _) (by kernel_rfl) ?_
          simp
          repeat (first | refine AL.seq ?_ | refine AL.block ?_ | refine AL.skip ?_ | refine AL.blk ?_)
          refine AL.cond ?_
          simp
          refine ⟨fun hlt => ?_, fun hge => ?_⟩
          · have hia : i < a.nodes.length := by omega
            have hlt : i < m.nodes.length := by omega
            have hgm : m.nodes.getD i 0 = m.nodes[i] := by simp [hlt]
            have hga : a.nodes.getD i 0 = a.nodes[i] := by simp [hia]
            repeat (first | refine AL.seq ?_ | refine AL.block ?_ | refine AL.skip ?_ | refine AL.blk ?_)
            refine AL.region follows_Try (Nat.le_refl _) (by kernel_rfl) ?_
            simp [hlt]
            by_cases hneg : m.nodes[i] < 0
            · simp [hneg, hlt]
              repeat (first | refine AL.seq ?_ | refine AL.block ?_ | refine AL.skip ?_ | refine AL.blk ?_)
              refine AL.cond ?_
              simp
              repeat (first | refine AL.seq ?_ | refine AL.block ?_ | refine AL.skip ?_ | refine AL.blk ?_)
              refine AL.region follows_Try (Nat.le_refl _) (by kernel_rfl) ?_
              simp
              have hN : nodeE a b m i = 6 := by simp only [nodeE, hgm]; rw [if_pos (.inl hneg)]
              have hR := hRn i hia hok (by rw [hN]; decide)
              repeat (first | refine AL.seq ?_ | refine AL.block ?_ | refine AL.skip ?_ | refine AL.blk ?_)
              refine AL.ret ?_
              try simp only [AU]
              refine ⟨by simp, Fin.data (by simp [resAs, resA]; rfl) hbox rfl htok (fun _ h => h) (Nat.le_refl _) ?_⟩
              simp [packA, hR, hN]
            · simp [hneg, hlt]
              repeat (first | refine AL.seq ?_ | refine AL.block ?_ | refine AL.skip ?_ | refine AL.blk ?_)
              refine AL.cond ?_
              simp
              refine ⟨fun hbig => ?_, fun hsm => ?_⟩
              · repeat (first | refine AL.seq ?_ | refine AL.block ?_ | refine AL.skip ?_ | refine AL.blk ?_)
                refine AL.region follows_Try (Nat.le_refl _) (by kernel_rfl) ?_
                simp
                have hN : nodeE a b m i = 6 := by simp only [nodeE, hgm]; rw [if_pos (.inr (by omega))]
                have hR := hRn i hia hok (by rw [hN]; decide)
                repeat (first | refine AL.seq ?_ | refine AL.block ?_ | refine AL.skip ?_ | refine AL.blk ?_)
                refine AL.ret ?_
                try simp only [AU]
                refine ⟨by simp, Fin.data (by simp [resAs, resA]; rfl) hbox rfl htok (fun _ h => h) (Nat.le_refl _) ?_⟩
                simp [packA, hR, hN]
              · have hkb : m.nodes[i].toNat < b.nodes.length := by omega
                have h0 : 0 ≤ m.nodes[i] := by omega
                have hgb : b.nodes.getD m.nodes[i].toNat 0 = b.nodes[m.nodes[i].toNat] := by simp [hkb]
                have hnb : ¬ (b.nodes.length : Int) ≤ m.nodes[i] := by omega
                repeat (first | refine AL.seq ?_ | refine AL.block ?_ | refine AL.skip ?_ | refine AL.blk ?_)
                refine AL.region follows_Try (Nat.le_refl _) (by kernel_rfl) ?_
                simp [hkb, h0, hsm, hia, hlt]
                repeat (first | refine AL.seq ?_ | refine AL.block ?_ | refine AL.skip ?_ | refine AL.blk ?_)
                refine AL.cond ?_
                simp
                refine ⟨fun hne => ?_, fun heq => ?_⟩
                · repeat (first | refine AL.seq ?_ | refine AL.block ?_ | refine AL.skip ?_ | refine AL.blk ?_)
                  refine AL.region follows_Try (Nat.le_refl _) (by kernel_rfl) ?_
                  simp
                  have hN : nodeE a b m i = 13 := by simp only [nodeE, hgm, hga, hgb]; rw [if_neg (by omega), if_neg hne]
                  have hR := hRn i hia hok (by rw [hN]; decide)
                  repeat (first | refine AL.seq ?_ | refine AL.block ?_ | refine AL.skip ?_ | refine AL.blk ?_)
                  refine AL.ret ?_
                  try simp only [AU]
                  refine ⟨by simp, Fin.data (by simp [resAs, resA]; rfl) hbox rfl htok (fun _ h => h) (Nat.le_refl _) ?_⟩
                  simp [packA, hR, hN]
                · repeat (first | refine AL.seq ?_ | refine AL.block ?_ | refine AL.skip ?_ | refine AL.blk ?_)
                  refine AL.region follows_Try (Nat.le_refl _) (by kernel_rfl) ?_
                  simp [hw]
                  repeat (first | refine AL.seq ?_ | refine AL.block ?_ | refine AL.skip ?_ | refine AL.blk ?_)
                  refine AL.nil ?_
                  refine ⟨i + 1, ⟨hia, ?_⟩, by omega, Weaks.mk (Nat.le_refl _) rfl (by simp [ToL, lk]) (by simp [BoxL, lk])⟩
                  have hN : nodeE a b m i = 0 := by simp only [nodeE, hgm, hga, hgb]; rw [if_neg (by omega), if_pos heq]
                  simp only [firstE, hok, hN, ↓reduceIte]
          · repeat (first | refine AL.seq ?_ | refine AL.block ?_ | refine AL.skip ?_ | refine AL.blk ?_)
            refine AL.exit ?_
            simp only [AU, ↓reduceIte]
            have hin : i = a.nodes.length := by omega
            subst hin
            repeat (first | refine AL.seq ?_ | refine AL.block ?_ | refine AL.skip ?_ | refine AL.blk ?_)
            refine AL.region follows_Try (Nat.le_refl _) (by kernel_rfl) ?_
            simp
            repeat (first | refine AL.seq ?_ | refine AL.block ?_ | refine AL.skip ?_ | refine AL.blk ?_)
            have hRe : ∀ i, i < a.edges.length → firstE (edgeE a b m) i = 0 → edgeE a b m i ≠ 0 → validM a b m = edgeE a b m i := fun i hi h0 hne => by
              have := firstE_stop h0 hne a.edges.length hi
              simp [validM, hva, hvb, hl1, hl2', hok, this]
            refine AL.loopT (st53b a b m nb box tok nt) (fun i => i ≤ a.edges.length ∧ firstE (edgeE a b m) i = 0) (fun i => a.edges.length - i) 0 ⟨Nat.zero_le _, rfl⟩ (Weaks.mk (Nat.le_refl _) rfl (by simp [ToL, lk]) (by simp [BoxL, lk])) ?_
            rintro i S ⟨hi, hoke⟩ hS
            simp only [st53b] at hS
            subst hS
            have hw : IntKind.i64.wrap (↑i + 1) = ((i + 1 : Nat) : Int) := by rw [wrap_in (by omega) (by omega)]; rfl
            repeat (first | refine AL.seq ?_ | refine AL.block ?_ | refine AL.skip ?_ | refine AL.blk ?_)
            refine AL.region follows_Try (Nat.le_refl _) (by kernel_rfl) ?_
            simp
            repeat (first | refine AL.seq ?_ | refine AL.block ?_ | refine AL.skip ?_ | refine AL.blk ?_)
            refine AL.cond ?_
            simp
            refine ⟨fun hlt => ?_, fun hge => ?_⟩
            · have hia : i < a.edges.length := by omega
              have hlt : i < m.edges.length := by omega
              have hgm : m.edges.getD i 0 = m.edges[i] := by simp [hlt]
              have hga : a.edges.getD i default = a.edges[i] := by simp [hia]
              obtain ⟨x1, x2, x3, x4⟩ := hxa _ (List.getElem_mem hia)
              rw [← hl1] at x2 x4
              have y1 : a.edges[i].fr.toNat < m.nodes.length := by omega
              have y2 : a.edges[i].to.toNat < m.nodes.length := by omega
              have hg1 : m.nodes.getD a.edges[i].fr.toNat 0 = m.nodes[a.edges[i].fr.toNat] := by simp [y1]
              have hg2 : m.nodes.getD a.edges[i].to.toNat 0 = m.nodes[a.edges[i].to.toNat] := by simp [y2]
              repeat (first | refine AL.seq ?_ | refine AL.block ?_ | refine AL.skip ?_ | refine AL.blk ?_)
              refine AL.region follows_Try (Nat.le_refl _) (by kernel_rfl) ?_
              simp [hlt]
              by_cases hneg : m.edges[i] < 0
              · simp [hneg, hlt]
                repeat (first | refine AL.seq ?_ | refine AL.block ?_ | refine AL.skip ?_ | refine AL.blk ?_)
                refine AL.cond ?_
                simp
                repeat (first | refine AL.seq ?_ | refine AL.block ?_ | refine AL.skip ?_ | refine AL.blk ?_)
                refine AL.region follows_Try (Nat.le_refl _) (by kernel_rfl) ?_
                simp
                have hN : edgeE a b m i = 6 := by simp only [edgeE, hgm]; rw [if_pos (.inl hneg)]
                have hR := hRe i hia hoke (by rw [hN]; decide)
                repeat (first | refine AL.seq ?_ | refine AL.block ?_ | refine AL.skip ?_ | refine AL.blk ?_)
                refine AL.ret ?_
                try simp only [AU]
                refine ⟨by simp, Fin.data (by simp [resAs, resA]; rfl) hbox rfl htok (fun _ h => h) (Nat.le_refl _) ?_⟩
                simp [packA, hR, hN]
              · simp [hneg, hlt]
                repeat (first | refine AL.seq ?_ | refine AL.block ?_ | refine AL.skip ?_ | refine AL.blk ?_)
                refine AL.cond ?_
                simp
                refine ⟨fun hbig => ?_, fun hsm => ?_⟩
                · repeat (first | refine AL.seq ?_ | refine AL.block ?_ | refine AL.skip ?_ | refine AL.blk ?_)
                  refine AL.region follows_Try (Nat.le_refl _) (by kernel_rfl) ?_
                  simp
                  have hN : edgeE a b m i = 6 := by simp only [edgeE, hgm]; rw [if_pos (.inr (by omega))]
                  have hR := hRe i hia hoke (by rw [hN]; decide)
                  repeat (first | refine AL.seq ?_ | refine AL.block ?_ | refine AL.skip ?_ | refine AL.blk ?_)
                  refine AL.ret ?_
                  try simp only [AU]
                  refine ⟨by simp, Fin.data (by simp [resAs, resA]; rfl) hbox rfl htok (fun _ h => h) (Nat.le_refl _) ?_⟩
                  simp [packA, hR, hN]
                · have hkb : m.edges[i].toNat < b.edges.length := by omega
                  have h0 : 0 ≤ m.edges[i] := by omega
                  have hgb : b.edges.getD m.edges[i].toNat default = b.edges[m.edges[i].toNat] := by simp [hkb]
                  have hnn : ¬ (m.edges[i] < 0 ∨ (b.edges.length : Int) ≤ m.edges[i]) := by omega
                  repeat (first | refine AL.seq ?_ | refine AL.block ?_ | refine AL.skip ?_ | refine AL.blk ?_)
                  refine AL.region2 follows_Try (Nat.le_refl _) (by kernel_rfl) (Side.of (by simp)) ?_
                  simp [hkb, h0, hsm, hia, hlt]
                  generalize hy : b.edges[m.edges[i].toNat] = y at *
                  repeat (first | refine AL.seq ?_ | refine AL.block ?_ | refine AL.skip ?_ | refine AL.blk ?_)
                  refine AL.region follows_Try (Nat.le_refl _) (by kernel_rfl) ?_
                  simp
                  repeat (first | refine AL.seq ?_ | refine AL.block ?_ | refine AL.skip ?_ | refine AL.blk ?_)
                  refine AL.cond ?_
                  simp
                  refine ⟨fun hty => ?_, fun hty => ?_⟩
                  · repeat (first | refine AL.seq ?_ | refine AL.block ?_ | refine AL.skip ?_ | refine AL.blk ?_)
                    refine AL.region follows_Try (Nat.le_refl _) (by kernel_rfl) ?_
                    simp
                    have hN : edgeE a b m i = 13 := by simp only [edgeE, hgm, hga, hgb]; rw [if_neg hnn, if_pos hty]
                    have hR := hRe i hia hoke (by rw [hN]; decide)
                    repeat (first | refine AL.seq ?_ | refine AL.block ?_ | refine AL.skip ?_ | refine AL.blk ?_)
                    refine AL.ret ?_
                    try simp only [AU]
                    refine ⟨by simp, Fin.data (by simp [resAs, resA]; rfl) hbox rfl htok (fun _ h => h) (Nat.le_refl _) ?_⟩
                    simp [packA, hR, hN]
                  · repeat (first | refine AL.seq ?_ | refine AL.block ?_ | refine AL.skip ?_ | refine AL.blk ?_)
                    refine AL.region follows_Try (Nat.le_refl _) (by kernel_rfl) ?_
                    simp [x1, x2, x3, x4, y1, y2]
                    by_cases hfr : m.nodes[a.edges[i].fr.toNat] = y.fr
                    · have hb1 : (m.nodes[a.edges[i].fr.toNat] != y.fr) = false := by simp [hfr]
                      simp only [hb1]
                      simp [x1, x2, x3, x4, y1, y2]
                      repeat (first | refine AL.seq ?_ | refine AL.block ?_ | refine AL.skip ?_ | refine AL.blk ?_)
                      refine AL.cond ?_
                      simp
                      refine ⟨fun hto => ?_, fun hto => ?_⟩
                      · repeat (first | refine AL.seq ?_ | refine AL.block ?_ | refine AL.skip ?_ | refine AL.blk ?_)
                        refine AL.region follows_Try (Nat.le_refl _) (by kernel_rfl) ?_
                        simp
                        have hN : edgeE a b m i = 11 := by simp only [edgeE, hgm, hga, hgb, hg1, hg2]; rw [if_neg hnn, if_neg (by simp [hty]), if_pos (.inr hto)]
                        have hR := hRe i hia hoke (by rw [hN]; decide)
                        repeat (first | refine AL.seq ?_ | refine AL.block ?_ | refine AL.skip ?_ | refine AL.blk ?_)
                        refine AL.ret ?_
                        try simp only [AU]
                        refine ⟨by simp, Fin.data (by simp [resAs, resA]; rfl) hbox rfl htok (fun _ h => h) (Nat.le_refl _) ?_⟩
                        simp [packA, hR, hN]
                      · repeat (first | refine AL.seq ?_ | refine AL.block ?_ | refine AL.skip ?_ | refine AL.blk ?_)
                        refine AL.region follows_Try (Nat.le_refl _) (by kernel_rfl) ?_
                        simp [hw]
                        repeat (first | refine AL.seq ?_ | refine AL.block ?_ | refine AL.skip ?_ | refine AL.blk ?_)
                        refine AL.nil ?_
                        refine ⟨i + 1, ⟨hia, ?_⟩, by omega, Weaks.mk (Nat.le_refl _) rfl (by simp [ToL, lk]) (by simp [BoxL, lk])⟩
                        have hN : edgeE a b m i = 0 := by simp only [edgeE, hgm, hga, hgb, hg1, hg2]; rw [if_neg hnn, if_neg (by simp [hty]), if_neg (by simp [hfr, hto])]
                        simp only [firstE, hoke, hN, ↓reduceIte]
                    · have hb1 : (m.nodes[a.edges[i].fr.toNat] != y.fr) = true := by simp [hfr]
                      simp only [hb1]
                      simp
                      repeat (first | refine AL.seq ?_ | refine AL.block ?_ | refine AL.skip ?_ | refine AL.blk ?_)
                      refine AL.cond ?_
                      simp
                      repeat (first | refine AL.seq ?_ | refine AL.block ?_ | refine AL.skip ?_ | refine AL.blk ?_)
                      refine AL.region follows_Try (Nat.le_refl _) (by kernel_rfl) ?_
                      simp
                      have hN : edgeE a b m i = 11 := by simp only [edgeE, hgm, hga, hgb, hg1, hg2]; rw [if_neg hnn, if_neg (by simp [hty]), if_pos (.inl hfr)]
                      have hR := hRe i hia hoke (by rw [hN]; decide)
                      repeat (first | refine AL.seq ?_ | refine AL.block ?_ | refine AL.skip ?_ | refine AL.blk ?_)
                      refine AL.ret ?_
                      try simp only [AU]
                      refine ⟨by simp, Fin.data (by simp [resAs, resA]; rfl) hbox rfl htok (fun _ h => h) (Nat.le_refl _) ?_⟩
                      simp [packA, hR, hN]
            · repeat (first | refine AL.seq ?_ | refine AL.block ?_ | refine AL.skip ?_ | refine AL.blk ?_)
              refine AL.exit ?_
              simp only [AU, ↓reduceIte]
              have hin : i = a.edges.length := by omega
              subst hin
              repeat (first | refine AL.seq ?_ | refine AL.block ?_ | refine AL.skip ?_ | refine AL.blk ?_)
              refine AL.region follows_Try (Nat.le_refl _) (by kernel_rfl) ?_
              simp
              have hR : validM a b m = 0 := by simp [validM, hva, hvb, hl1, hl2', hok, hoke]
              repeat (first | refine AL.seq ?_ | refine AL.block ?_ | refine AL.skip ?_ | refine AL.blk ?_)
              refine AL.ret ?_
              try simp only [AU]
              refine ⟨by simp, Fin.data (by simp [resAs, resA]; rfl) hbox rfl htok (fun _ h => h) (Nat.le_refl _) ?_⟩
              simp [packA, hR]
      · have hb1 : ((m.nodes.length : Int) != (a.nodes.length : Int)) = true := by simp; omega
        simp only [hb1]
        simp
        repeat (first | refine AL.seq ?_ | refine AL.block ?_ | refine AL.skip ?_ | refine AL.blk ?_)
        refine AL.cond ?_
        simp
        repeat (first | refine AL.seq ?_ | refine AL.block ?_ | refine AL.skip ?_ | refine AL.blk ?_)
        refine AL.region follows_Try (Nat.le_refl _) (by kernel_rfl) ?_
        simp
        have hR : validM a b m = 20 := by simp [validM, hva, hvb, hl1]
        repeat (first | refine AL.seq ?_ | refine AL.block ?_ | refine AL.skip ?_ | refine AL.blk ?_)
        refine AL.ret ?_
        try simp only [AU]
        refine ⟨by simp, Fin.data (by simp [resAs, resA]; rfl) hbox rfl htok (fun _ h => h) (Nat.le_refl _) ?_⟩
        simp [packA, hR]
    · repeat (first | refine AL.seq ?_ | refine AL.block ?_ | refine AL.skip ?_ | refine AL.blk ?_)
      refine AL.region follows_Try (Nat.le_refl _) (by kernel_rfl) ?_
      simp
      repeat (first | refine AL.seq ?_ | refine AL.block ?_ | refine AL.skip ?_ | refine AL.blk ?_)
      refine AL.cond ?_
      simp [hvb]
      repeat (first | refine AL.seq ?_ | refine AL.block ?_ | refine AL.skip ?_ | refine AL.blk ?_)
      refine AL.region follows_Try (Nat.le_refl _) (by kernel_rfl) ?_
      simp
      repeat (first | refine AL.seq ?_ | refine AL.block ?_ | refine AL.skip ?_ | refine AL.blk ?_)
      refine AL.ret ?_
      try simp only [AU]
      refine ⟨by simp, Fin.data (by simp [resAs, resA]; rfl) hbox rfl htok (fun _ h => h) (Nat.le_refl _) ?_⟩
      simp [packA, validM, hva, hvb]
  · repeat (first | refine AL.seq ?_ | refine AL.block ?_ | refine AL.skip ?_ | refine AL.blk ?_)
    refine AL.region follows_Try (Nat.le_refl _) (by kernel_rfl) ?_
    simp
    repeat (first | refine AL.seq ?_ | refine AL.block ?_ | refine AL.skip ?_ | refine AL.blk ?_)
    refine AL.cond ?_
    simp [hva]
    repeat (first | refine AL.seq ?_ | refine AL.block ?_ | refine AL.skip ?_ | refine AL.blk ?_)
    refine AL.region follows_Try (Nat.le_refl _) (by kernel_rfl) ?_
    simp
    repeat (first | refine AL.seq ?_ | refine AL.block ?_ | refine AL.skip ?_ | refine AL.blk ?_)
    refine AL.ret ?_
    try simp only [AU]
    refine ⟨by simp, Fin.data (by simp [resAs, resA]; rfl) hbox rfl htok (fun _ h => h) (Nat.le_refl _) ?_⟩
    simp [packA, validM, hva]
end Go.AM
namespace Go.AM
open Go Go.Proofs
set_option linter.unusedSimpArgs false
set_option linter.unusedVariables false

/-! ### covered, covers, Few, Jointly -/
def covK (l k : List Int) (i : Nat) : Bool := (List.range i).all fun j => decide ((j : Int) ∈ l) || decide ((j : Int) ∈ k)
theorem covK_succ (l k : List Int) (i : Nat) : covK l k (i + 1) = (covK l k i && (decide ((i : Int) ∈ l) || decide ((i : Int) ∈ k))) := by
  simp [covK, List.range_succ]
theorem covK_stop {l k : List Int} {i n : Nat} (hi : i < n) (h1 : ¬ (i : Int) ∈ l) (h2 : ¬ (i : Int) ∈ k) : covK l k n = false := by
  unfold covK
  rw [List.all_eq_false]
  exact ⟨i, by simp [hi], by simp [h1, h2]⟩

def st52 (l k : List Int) (n : Nat) (nb : Nat) (box : Nat → Option (List (List AV))) (tok : Nat → Bool) (nt : Nat) (i : Nat) : AState := ⟨tl [(1, .d (ints l)), (2, .d (ints k)), (8, I n), (9, I i)], lb nb box [], tok, nt⟩

def st54 (l k : List Int) (n : Nat) (nb : Nat) (box : Nat → Option (List (List AV))) (tok : Nat → Bool) (nt : Nat) (i : Nat) : AState := ⟨tl [(0, .d (ints l)), (1, .d (ints k)), (2, I n), (7, I i)], lb nb box [], tok, nt⟩

def fewM (m : Mo) (n : Int) : Bool := decide ((m.nodes.length : Int) + m.edges.length ≤ n)
def jointly (a b x : Gr) (h k : Mo) : Bool := decide (validM a x h = 0) && (decide (validM b x k = 0) && (covK h.nodes k.nodes x.nodes.length && covK h.edges k.edges x.edges.length))

structure Mo.Big (m : Mo) : Prop where
  n : m.nodes.length ≤ 281474976710656
  e : m.edges.length ≤ 281474976710656
theorem fewM_fit {m : Mo} (h : fewM m 200 = true) : m.Fit := by
  simp [fewM] at h
  exact ⟨by omega, by omega⟩

end Go.AM
/-
  The plain law of the standard overlaps: what is listed are the partial matchings, each once; turning one around matches the other way. No program in sight.
-/
namespace Go.AM
open Go
set_option linter.unusedSimpArgs false
set_option linter.unusedVariables false

/-! ### Partial matchings, listed -/
def choicesM (ok : Nat → Nat → Bool) (na : Nat) (l : List Int) : List Int := -1 :: ((List.range na).filter fun k => ok l.length k && !decide ((k : Int) ∈ l)).map fun (k : Nat) => (k : Int)
def dM (ok : Nat → Nat → Bool) (na : Nat) : Nat → List Int → List (List Int)
  | 0, l => [l]
  | n + 1, l => (choicesM ok na l).flatMap fun k => dM ok na n (l ++ [k])

def okAt (ok : Nat → Nat → Bool) (na : Nat) (x : List Int) (i : Nat) : Prop := x.getD i 0 = -1 ∨ ∃ k : Nat, x.getD i 0 = k ∧ k < na ∧ ok i k = true ∧ (k : Int) ∉ x.take i

theorem dM_mem (ok : Nat → Nat → Bool) (na : Nat) : ∀ (n : Nat) (l x : List Int), x ∈ dM ok na n l ↔ (x.take l.length = l ∧ x.length = l.length + n ∧ ∀ i, l.length ≤ i → i < x.length → okAt ok na x i)
  | 0, l, x => by
    simp only [dM, List.mem_singleton, Nat.add_zero]
    constructor
    · rintro rfl
      exact ⟨by simp, rfl, fun i h1 h2 => by omega⟩
    · rintro ⟨h1, h2, _⟩
      rw [← h1, List.take_of_length_le (by omega)]
  | n + 1, l, x => by
    simp only [dM, List.mem_flatMap]
    constructor
    · rintro ⟨k, hk, hx⟩
      rw [dM_mem ok na n (l ++ [k]) x] at hx
      obtain ⟨h1, h2, h3⟩ := hx
      simp only [List.length_append, List.length_cons, List.length_nil] at h1 h2 h3
      have hlt : l.length < x.length := by omega
      have h4 : x.take l.length = l := by
        have := congrArg (List.take l.length) h1
        rw [List.take_take, Nat.min_eq_left (by omega)] at this
        simpa using this
      have h5 : x.getD l.length 0 = k := by
        have := congrArg (fun y => y[l.length]?) h1
        simp only [List.getElem?_take] at this
        rw [if_pos (by omega)] at this
        rw [List.getD_eq_getElem?_getD, this]
        simp
      refine ⟨h4, by omega, fun i hi1 hi2 => ?_⟩
      by_cases e : i = l.length
      · subst e
        unfold okAt
        rw [h5, h4]
        simp only [choicesM, List.mem_cons, List.mem_map, List.mem_filter, List.mem_range, Bool.and_eq_true, Bool.not_eq_true', decide_eq_false_iff_not] at hk
        rcases hk with rfl | ⟨q, ⟨hq1, hq2, hq3⟩, rfl⟩
        · exact .inl rfl
        · exact .inr ⟨q, rfl, hq1, hq2, hq3⟩
      · exact h3 i (by omega) hi2
    · rintro ⟨h1, h2, h3⟩
      have hlt : l.length < x.length := by omega
      refine ⟨x.getD l.length 0, ?_, ?_⟩
      · have := h3 l.length (Nat.le_refl _) hlt
        unfold okAt at this
        rw [h1] at this
        simp only [choicesM, List.mem_cons, List.mem_map, List.mem_filter, List.mem_range, Bool.and_eq_true, Bool.not_eq_true', decide_eq_false_iff_not]
        rcases this with h | ⟨k, hk1, hk2, hk3, hk4⟩
        · exact .inl h
        · exact .inr ⟨k, ⟨hk2, hk3, hk4⟩, hk1.symm⟩
      · rw [dM_mem ok na n _ x]
        refine ⟨?_, by simp; omega, fun i hi1 hi2 => h3 i (by simp at hi1; omega) hi2⟩
        simp only [List.length_append, List.length_cons, List.length_nil, Nat.zero_add]
        rw [List.take_succ_eq_append_getElem hlt, h1]
        simp [hlt]

theorem nodup_flatMap {α β : Type} (f : α → List β) (key : β → α) : ∀ (l : List α), l.Nodup → (∀ x ∈ l, (f x).Nodup) → (∀ x ∈ l, ∀ y ∈ f x, key y = x) → (l.flatMap f).Nodup
  | [], _, _, _ => by simp
  | x :: l, hn, h1, h2 => by
    rw [List.flatMap_cons]
    have hn' := List.nodup_cons.1 hn
    refine List.nodup_append.2 ⟨h1 x (by simp), nodup_flatMap f key l hn'.2 (fun x hx => h1 x (by simp [hx])) (fun x hx => h2 x (by simp [hx])), ?_⟩
    intro y hy z hz e
    subst e
    obtain ⟨w, hw, hz⟩ := List.mem_flatMap.1 hz
    have e1 := h2 x (by simp) y hy
    have e2 := h2 w (by simp [hw]) y hz
    rw [e1] at e2
    exact hn'.1 (e2 ▸ hw)

theorem choicesM_nodup (ok : Nat → Nat → Bool) (na : Nat) (l : List Int) : (choicesM ok na l).Nodup := by
  unfold choicesM
  refine List.nodup_cons.2 ⟨?_, ?_⟩
  · intro h
    obtain ⟨k, _, hk⟩ := List.mem_map.1 h
    omega
  · refine List.Pairwise.map _ ?_ ((List.nodup_range).filter _)
    intro x y h e
    exact h (by omega)

theorem dM_nodup (ok : Nat → Nat → Bool) (na : Nat) : ∀ (n : Nat) (l : List Int), (dM ok na n l).Nodup
  | 0, l => by simp [dM]
  | n + 1, l => by
    unfold dM
    refine nodup_flatMap _ (fun x => x.getD l.length 0) _ (choicesM_nodup ok na l) (fun k _ => dM_nodup ok na n _) fun k _ x hx => ?_
    rw [dM_mem] at hx
    obtain ⟨h1, h2, _⟩ := hx
    have := congrArg (fun y => y[l.length]?) h1
    simp only [List.getElem?_take, List.length_append, List.length_cons, List.length_nil] at this
    rw [if_pos (by omega)] at this
    show x.getD l.length 0 = k
    rw [List.getD_eq_getElem?_getD, this]
    simp

/-- A partial matching. -/
def isM (ok : Nat → Nat → Bool) (na nb : Nat) (x : List Int) : Prop := x.length = nb ∧ ∀ i, i < nb → okAt ok na x i
theorem dM_isM (ok : Nat → Nat → Bool) (na nb : Nat) (x : List Int) : x ∈ dM ok na nb [] ↔ isM ok na nb x := by
  rw [dM_mem]
  simp only [List.length_nil, Nat.zero_add, Nat.zero_le, true_implies, List.take_zero, true_and, isM]
  constructor
  · rintro ⟨h1, h2⟩; exact ⟨h1, fun i hi => h2 i (by omega)⟩
  · rintro ⟨h1, h2⟩; exact ⟨h1, fun i hi => h2 i (by omega)⟩

/-! ### Turned around -/
theorem isM_inj {ok : Nat → Nat → Bool} {na nb : Nat} {x : List Int} (h : isM ok na nb x) {i j k : Nat} (hi : i < nb) (hj : j < nb) (h1 : x.getD i 0 = (k : Int)) (h2 : x.getD j 0 = (k : Int)) : i = j := by
  have key : ∀ i j : Nat, i < j → j < nb → x.getD i 0 = (k : Int) → x.getD j 0 = (k : Int) → False := by
    intro i j hij hj h1 h2
    rcases h.2 j hj with e | ⟨q, e, _, _, hq⟩
    · rw [e] at h2; omega
    · have : (q : Int) = k := e.symm.trans h2
      rw [this] at hq
      apply hq
      have hlen := h.1
      rw [List.mem_take_iff_getElem]
      refine ⟨i, by omega, ?_⟩
      have : x.getD i 0 = x[i]'(by omega) := by rw [List.getD_eq_getElem?_getD, List.getElem?_eq_getElem (by omega)]; rfl
      rw [← this]; exact h1
  rcases Nat.lt_trichotomy i j with h' | h' | h'
  · exact (key i j h' hj h1 h2).elim
  · exact h'
  · exact (key j i h' hi h2 h1).elim

def invM (x : List Int) (na : Nat) : List Int := (List.range na).map fun (k : Nat) => indexI x k

theorem invM_get {x : List Int} {na k : Nat} (hk : k < na) : (invM x na).getD k 0 = indexI x k := by
  unfold invM
  rw [List.getD_eq_getElem?_getD]
  simp [hk]

theorem indexI_spec (x : List Int) (k : Int) : (indexI x k = -1 ∧ k ∉ x) ∨ ∃ i : Nat, indexI x k = i ∧ i < x.length ∧ x.getD i 0 = k := by
  unfold indexI
  by_cases h : k ∈ x
  · right
    rw [if_pos h]
    have h1 := List.idxOf_lt_length_of_mem h
    refine ⟨x.idxOf k, rfl, h1, ?_⟩
    rw [List.getD_eq_getElem?_getD, List.getElem?_eq_getElem h1]
    simp
  · left
    rw [if_neg h]
    exact ⟨rfl, h⟩

/-- k stands at i exactly if i stands at k, turned around. -/
theorem invM_iff {ok : Nat → Nat → Bool} {na nb : Nat} {x : List Int} (h : isM ok na nb x) {i k : Nat} (hi : i < nb) (hk : k < na) : (invM x na).getD k 0 = (i : Int) ↔ x.getD i 0 = (k : Int) := by
  rw [invM_get hk]
  constructor
  · intro e
    rcases indexI_spec x k with ⟨e1, _⟩ | ⟨j, e1, hj, e2⟩
    · rw [e1] at e; omega
    · have : j = i := by rw [e1] at e; omega
      subst this
      exact e2
  · intro e
    rcases indexI_spec x k with ⟨_, e1⟩ | ⟨j, e1, hj, e2⟩
    · exfalso
      apply e1
      have hlen := h.1
      have h1 : i < x.length := by omega
      have : x.getD i 0 = x[i] := by rw [List.getD_eq_getElem?_getD, List.getElem?_eq_getElem h1]; rfl
      rw [← e, this]
      exact List.getElem_mem _
    · rw [e1]
      have hlen := h.1
      have := isM_inj h (by omega) hi e2 e
      omega

theorem invM_isM {ok : Nat → Nat → Bool} {na nb : Nat} {x : List Int} (h : isM ok na nb x) {ok' : Nat → Nat → Bool} (hok : ∀ i k, i < nb → k < na → ok i k = true → ok' k i = true) : isM ok' nb na (invM x na) := by
  have hlen : (invM x na).length = na := by simp [invM]
  refine ⟨hlen, fun k hk => ?_⟩
  unfold okAt
  rw [invM_get hk]
  rcases indexI_spec x k with ⟨e1, _⟩ | ⟨i, e1, hi, e2⟩
  · exact .inl e1
  · have hxl := h.1
    have hinb : i < nb := by omega
    refine .inr ⟨i, e1, hinb, ?_, ?_⟩
    · rcases h.2 i hinb with e | ⟨q, e, _, hq, _⟩
      · rw [e] at e2; omega
      · have : q = k := by rw [e] at e2; omega
        subst this
        exact hok i q hinb hk hq
    · intro hm
      rw [List.mem_take_iff_getElem] at hm
      obtain ⟨j, hj, e3⟩ := hm
      have hjn : j < na := by omega
      have e4 : (invM x na).getD j 0 = (i : Int) := by
        rw [List.getD_eq_getElem?_getD, List.getElem?_eq_getElem (by omega)]
        exact e3
      have e5 := (invM_iff h hinb hjn).1 e4
      rw [e5] at e2
      omega

theorem invM_invM {ok : Nat → Nat → Bool} {na nb : Nat} {x : List Int} (h : isM ok na nb x) : invM (invM x na) nb = x := by
  have hlen := h.1
  have h' : isM (fun _ _ => true) nb na (invM x na) := invM_isM h fun _ _ _ _ _ => rfl
  apply List.ext_getElem
  · simp [invM, hlen]
  · intro i h1 h2
    have hi : i < nb := by omega
    have e1 : (invM (invM x na) nb).getD i 0 = (invM (invM x na) nb)[i] := by rw [List.getD_eq_getElem?_getD, List.getElem?_eq_getElem h1]; rfl
    have e2 : x.getD i 0 = x[i] := by rw [List.getD_eq_getElem?_getD, List.getElem?_eq_getElem h2]; rfl
    rw [← e1, ← e2]
    rcases h.2 i hi with e | ⟨k, e, hk, _, _⟩
    · rw [e, invM_get hi]
      rcases indexI_spec (invM x na) i with ⟨e3, _⟩ | ⟨k, e3, hk, e4⟩
      · exact e3
      · have hkn : k < na := by simpa [invM] using hk
        have := (invM_iff h hi hkn).1 e4
        rw [e] at this
        omega
    · rw [e]
      exact (invM_iff h' hk hi).2 ((invM_iff h hi hk).2 e)

/-! ### Counting -/
theorem nodup_le {α : Type} [DecidableEq α] : ∀ (l m : List α), l.Nodup → (∀ x ∈ l, x ∈ m) → l.length ≤ m.length
  | [], m, _, _ => Nat.zero_le _
  | x :: l, m, hn, h => by
    have hn' := List.nodup_cons.1 hn
    have hx := h x (by simp)
    have := nodup_le l (m.erase x) hn'.2 fun y hy => (List.mem_erase_of_ne (show y ≠ x from fun e => hn'.1 (by rw [← e]; exact hy))).2 (h y (by simp [hy]))
    rw [List.length_erase_of_mem hx] at this
    have hp : 0 < m.length := List.length_pos_of_mem hx
    simp only [List.length_cons]
    omega

def okN (a b : Gr) (i k : Nat) : Bool := decide (a.nodes.getD k 0 = b.nodes.getD i 0)
def okE (a b : Gr) (x : List Int) (i k : Nat) : Bool := decide (a.edges.getD k default = ⟨(b.edges.getD i default).ty, x.getD (b.edges.getD i default).fr.toNat 0, x.getD (b.edges.getD i default).to.toNat 0⟩)

def pairsM (a b : Gr) : List (List Int × List Int) := (dM (okN a b) a.nodes.length b.nodes.length []).flatMap fun x => (dM (okE a b x) a.edges.length b.edges.length []).map fun es => (x, es)

def isPair (a b : Gr) (p : List Int × List Int) : Prop := isM (okN a b) a.nodes.length b.nodes.length p.1 ∧ isM (okE a b p.1) a.edges.length b.edges.length p.2

theorem pairsM_mem (a b : Gr) (p : List Int × List Int) : p ∈ pairsM a b ↔ isPair a b p := by
  simp only [pairsM, List.mem_flatMap, List.mem_map, dM_isM, isPair]
  constructor
  · rintro ⟨x, hx, es, hes, rfl⟩; exact ⟨hx, hes⟩
  · rintro ⟨h1, h2⟩; exact ⟨p.1, h1, p.2, h2, rfl⟩

theorem pairsM_nodup (a b : Gr) : (pairsM a b).Nodup := by
  unfold pairsM
  refine nodup_flatMap _ (fun p => p.1) _ (dM_nodup _ _ _ _) (fun x _ => ?_) fun x _ y hy => ?_
  · refine List.Pairwise.map _ ?_ (dM_nodup _ _ _ _)
    intro u v h e
    exact h (Prod.mk.inj e).2
  · obtain ⟨_, _, rfl⟩ := List.mem_map.1 hy
    rfl

def EOk (g : Gr) : Prop := ∀ e ∈ g.edges, 0 ≤ e.fr ∧ e.fr < g.nodes.length ∧ 0 ≤ e.to ∧ e.to < g.nodes.length

theorem okE_turn {a b : Gr} (ha : EOk a) (hb : EOk b) {x : List Int} (hx : isM (okN a b) a.nodes.length b.nodes.length x) (i k : Nat) (hi : i < b.edges.length) (hk : k < a.edges.length) (h : okE a b x i k = true) : okE b a (invM x a.nodes.length) k i = true := by
  unfold okE at h ⊢
  rw [decide_eq_true_eq] at h ⊢
  have g1 : a.edges.getD k default = a.edges[k] := by simp [hk]
  have g2 : b.edges.getD i default = b.edges[i] := by simp [hi]
  rw [g1, g2] at h ⊢
  obtain ⟨a1, a2, a3, a4⟩ := ha _ (List.getElem_mem hk)
  obtain ⟨b1, b2, b3, b4⟩ := hb _ (List.getElem_mem hi)
  have e1 : a.edges[k].ty = b.edges[i].ty := by rw [h]
  have e2 : x.getD b.edges[i].fr.toNat 0 = ((a.edges[k].fr.toNat : Nat) : Int) := by rw [Int.toNat_of_nonneg a1]; exact (congrArg E.fr h).symm
  have e3 : x.getD b.edges[i].to.toNat 0 = ((a.edges[k].to.toNat : Nat) : Int) := by rw [Int.toNat_of_nonneg a3]; exact (congrArg E.to h).symm
  have f2 := (invM_iff hx (by omega) (by omega)).2 e2
  have f3 := (invM_iff hx (by omega) (by omega)).2 e3
  rw [f2, f3, e1, Int.toNat_of_nonneg b1, Int.toNat_of_nonneg b3]

def turnP (a b : Gr) (p : List Int × List Int) : List Int × List Int := (invM p.1 a.nodes.length, invM p.2 a.edges.length)

theorem turnP_isPair {a b : Gr} (ha : EOk a) (hb : EOk b) {p : List Int × List Int} (h : isPair a b p) : isPair b a (turnP a b p) :=
  ⟨invM_isM h.1 fun i k _ _ hok => by unfold okN at hok ⊢; rw [decide_eq_true_eq] at hok ⊢; exact hok.symm, invM_isM h.2 fun i k hi hk hok => okE_turn ha hb h.1 i k hi hk hok⟩

theorem turnP_turnP {a b : Gr} {p : List Int × List Int} (h : isPair a b p) : turnP b a (turnP a b p) = p := by
  unfold turnP
  rw [invM_invM h.1, invM_invM h.2]

theorem pairsM_le {a b : Gr} (ha : EOk a) (hb : EOk b) : (pairsM a b).length ≤ (pairsM b a).length := by
  have h1 : ((pairsM a b).map (turnP a b)).Nodup := by
    have : (pairsM a b).Pairwise fun p q => turnP a b p ≠ turnP a b q := by
      refine List.Pairwise.imp_of_mem ?_ (pairsM_nodup a b)
      intro p q hp hq hne e
      apply hne
      rw [← turnP_turnP ((pairsM_mem a b p).1 hp), ← turnP_turnP ((pairsM_mem a b q).1 hq), e]
    exact List.Pairwise.map _ (fun _ _ h => h) this
  have h2 := nodup_le _ (pairsM b a) h1 fun y hy => by
    obtain ⟨p, hp, rfl⟩ := List.mem_map.1 hy
    exact (pairsM_mem b a _).2 (turnP_isPair ha hb ((pairsM_mem a b p).1 hp))
  simpa using h2

theorem pairsM_len {a b : Gr} (ha : EOk a) (hb : EOk b) : (pairsM a b).length = (pairsM b a).length := Nat.le_antisymm (pairsM_le ha hb) (pairsM_le hb ha)

/-! ### What the program lists -/
theorem foldl_lim' {α : Type} (c : Nat → Bool) (f : Nat → List α → List α) (g : Nat → List α) (ks : List Nat) (out : List α) (h : ∀ k ∈ ks, ∀ out, f k out = lim out (g k)) :
    ks.foldl (fun out k => if c k = true then f k out else out) out = lim out ((ks.filter c).flatMap g) := foldl_lim c f g ks out h

theorem ovE_lim (a b : Gr) (nodes : List Int) : ∀ (n : Nat) (es : List Int) (out : List Ov), ovE a b nodes n es out = lim out ((dM (okE a b nodes) a.edges.length n es).map (glue a b nodes))
  | 0, es, out => by
    unfold ovE
    split
    · rename_i h; rw [lim_full _ _ h]
    · rename_i h; simp only [dM, List.map_cons, List.map_nil]; rw [lim_one _ _ h]
  | n + 1, es, out => by
    unfold ovE
    split
    · rename_i h; rw [lim_full _ _ h]
    · have h1 : (fun (out : List Ov) (k : Nat) => if a.edges.getD k default = wantE b nodes es ∧ (k : Int) ∉ es then ovE a b nodes n (es ++ [(k : Int)]) out else out) =
          fun out k => if (okE a b nodes es.length k && !decide ((k : Int) ∈ es)) = true then ovE a b nodes n (es ++ [(k : Int)]) out else out := by
        funext out k
        have ic : ∀ {p q : Prop} [Decidable p] [Decidable q] {x y : List Ov}, (p ↔ q) → (if p then x else y) = if q then x else y := by
          intro p q _ _ x y h
          by_cases hp : p
          · rw [if_pos hp, if_pos (h.1 hp)]
          · rw [if_neg hp, if_neg fun hq => hp (h.2 hq)]
        refine ic ?_
        simp only [okE, wantE, Bool.and_eq_true, decide_eq_true_eq, Bool.not_eq_true', decide_eq_false_iff_not]
      rw [h1, foldl_lim' _ (fun (k : Nat) out => ovE a b nodes n (es ++ [(k : Int)]) out) (fun (k : Nat) => (dM (okE a b nodes) a.edges.length n (es ++ [(k : Int)])).map (glue a b nodes)) _ _ (fun k _ out => ovE_lim a b nodes n _ out), ovE_lim a b nodes n, lim_append]
      congr 1
      simp only [dM, choicesM, List.flatMap_cons, List.map_append, List.map_flatMap, List.flatMap_map]

theorem ovN_lim (a b : Gr) : ∀ (n : Nat) (l : List Int) (out : List Ov), ovN a b n l out = lim out ((dM (okN a b) a.nodes.length n l).flatMap fun x => (dM (okE a b x) a.edges.length b.edges.length []).map (glue a b x))
  | 0, l, out => by
    unfold ovN
    split
    · rename_i h; rw [lim_full _ _ h]
    · simp only [dM, List.flatMap_cons, List.flatMap_nil, List.append_nil]; rw [ovE_lim]
  | n + 1, l, out => by
    unfold ovN
    split
    · rename_i h; rw [lim_full _ _ h]
    · have h1 : (ovStepN a b (ovN a b n) l) = fun out k => if (okN a b l.length k && !decide ((k : Int) ∈ l)) = true then ovN a b n (l ++ [(k : Int)]) out else out := by
        funext out k
        unfold ovStepN
        have ic : ∀ {p q : Prop} [Decidable p] [Decidable q] {x y : List Ov}, (p ↔ q) → (if p then x else y) = if q then x else y := by
          intro p q _ _ x y h
          by_cases hp : p
          · rw [if_pos hp, if_pos (h.1 hp)]
          · rw [if_neg hp, if_neg fun hq => hp (h.2 hq)]
        refine ic ?_
        simp only [okN, Bool.and_eq_true, decide_eq_true_eq, Bool.not_eq_true', decide_eq_false_iff_not]
      rw [h1, foldl_lim' _ (fun (k : Nat) out => ovN a b n (l ++ [(k : Int)]) out) (fun (k : Nat) => (dM (okN a b) a.nodes.length n (l ++ [(k : Int)])).flatMap fun x => (dM (okE a b x) a.edges.length b.edges.length []).map (glue a b x)) _ _ (fun k _ out => ovN_lim a b n _ out), ovN_lim a b n, lim_append]
      congr 1
      simp only [dM, choicesM, List.flatMap_cons, List.flatMap_append, List.flatMap_assoc, List.flatMap_map]

def listO (a b : Gr) : List Ov := (pairsM a b).map fun p => glue a b p.1 p.2

theorem ovN_list (a b : Gr) : ovN a b b.nodes.length [] [] = (listO a b).take 2001 := by
  rw [ovN_lim]
  have : ((dM (okN a b) a.nodes.length b.nodes.length []).flatMap fun x => (dM (okE a b x) a.edges.length b.edges.length []).map (glue a b x)) = listO a b := by
    unfold listO pairsM
    rw [List.map_flatMap]
    congr 1
    funext x
    rw [List.map_map]
    rfl
  rw [this]
  simp [lim]

theorem overlapsR_list (a b : Gr) (ha : validG a = 0) (hb : validG b = 0) (hs : ¬ (40 < a.nodes.length + b.nodes.length ∨ 80 < a.edges.length + b.edges.length)) : overlapsR a b = if 2000 < (pairsM a b).length then ([], 3) else (listO a b, 0) := by
  have hl : (listO a b).length = (pairsM a b).length := by simp [listO]
  unfold overlapsR
  simp only [ha, hb, hs, ovN_list, ne_eq, not_true_eq_false, ↓reduceIte]
  by_cases hb : 2000 < (pairsM a b).length
  · have : 2000 < ((listO a b).take 2001).length := by simp; omega
    rw [if_pos this, if_pos hb]
  · have : (listO a b).take 2001 = listO a b := List.take_of_length_le (by omega)
    rw [this, if_neg (by omega), if_neg hb]
end Go.AM
namespace Go.AM
open Go Go.Proofs
set_option linter.unusedSimpArgs false
set_option linter.unusedVariables false

/-! ### Distinct, Injective; small, Made -/
structure Dr where
  nodes : List Int
  edges : List (Int × Int × Int)
abbrev u8 (n : Int) : D := .raw (.int .u8 n)
abbrev Dr.av (x : Dr) : AV := .agg [.d (.sl 1 (x.nodes.map fun n => [u8 n])), .d (.sl 3 (x.edges.map fun e => [u8 e.1, u8 e.2.1, u8 e.2.2]))]

def smallD (x : Dr) (n m : Int) : Bool := decide ((x.nodes.length : Int) ≤ n) && decide ((x.edges.length : Int) ≤ m)
/-- The first i elements of a list differ. -/
def distK (l : List Int) (i : Nat) : Bool := (List.range i).all fun j => (List.range j).all fun k => decide (l.getD j 0 ≠ l.getD k 0)
def distJ (l : List Int) (i k : Nat) : Bool := (List.range k).all fun k => decide (l.getD i 0 ≠ l.getD k 0)
theorem distK_succ (l : List Int) (i : Nat) : distK l (i + 1) = (distK l i && distJ l i i) := by simp [distK, distJ, List.range_succ]
theorem distJ_succ (l : List Int) (i k : Nat) : distJ l i (k + 1) = (distJ l i k && decide (l.getD i 0 ≠ l.getD k 0)) := by simp only [distJ, List.range_succ, List.all_append, List.all_cons, List.all_nil, Bool.and_true]
theorem distK_stop {l : List Int} {n i k : Nat} (hi : i < n) (hk : k < i) (h : l.getD i 0 = l.getD k 0) : distK l n = false := by
  rw [Bool.eq_false_iff]
  intro ha
  simp only [distK, List.all_eq_true, List.mem_range, decide_eq_true_eq] at ha
  exact ha i hi k hk h

def st55a (l : List Int) (nb : Nat) (box : Nat → Option (List (List AV))) (tok : Nat → Bool) (nt : Nat) (i : Nat) : AState := ⟨tl [(0, .d (ints l)), (3, I i)], lb nb box [], tok, nt⟩
def st55b (l : List Int) (i : Nat) (nb : Nat) (box : Nat → Option (List (List AV))) (tok : Nat → Bool) (nt : Nat) (k : Nat) : AState := ⟨tl [(0, .d (ints l)), (3, I i), (4, I k)], lb nb box [], tok, nt⟩

theorem distinct55_c (l : List Int) (hl : l.length ≤ 1000000) (tok : Nat → Bool) (nt : Nat) : DCall Try.prog 80 [.d (ints l)] tok nt (B (distK l l.length)) tok nt := by
  intro box nb
  refine ACalls.of_body Try.func80 rfl (by kernel_rfl) follows_Try (by kernel_rfl) (by simp [Try.ntmps80]) ?_
  intro hbox htok
  simp only at hbox htok
  apply AL.start
  repeat (first | refine AL.seq ?_ | refine AL.block ?_ | refine AL.skip ?_ | refine AL.blk ?_)
  refine AL.region follows_Try (Nat.le_refl _) (by kernel_rfl) ?_
  simp
  repeat (first | refine AL.seq ?_ | refine AL.block ?_ | refine AL.skip ?_ | refine AL.blk ?_)
  refine AL.region follows_Try (Nat.le_refl _) (by kernel_rfl) ?_
  simp
  repeat (first | refine AL.seq ?_ | refine AL.block ?_ | refine AL.skip ?_ | refine AL.blk ?_)
  refine AL.loopT (st55a l nb box tok nt) (fun i => i ≤ l.length ∧ distK l i = true) (fun i => l.length - i) 0 ⟨Nat.zero_le _, rfl⟩ (Weaks.mk (Nat.le_refl _) rfl (by simp [ToL]) trivial) ?_
  rintro i S ⟨hi, hok⟩ hS
  simp only [st55a] at hS
  subst hS
  have hw : IntKind.i64.wrap (↑i + 1) = ((i + 1 : Nat) : Int) := by rw [wrap_in (by omega) (by omega)]; rfl
  repeat (first | refine AL.seq ?_ | refine AL.block ?_ | refine AL.skip ?_ | refine AL.blk ?_)
  refine AL.region follows_Try (Nat.le_refl _) (by kernel_rfl) ?_
  simp
  repeat (first | refine AL.seq ?_ | refine AL.block ?_ | refine AL.skip ?_ | refine AL.blk ?_)
  refine AL.cond ?_
  simp
  refine ⟨fun hlt => ?_, fun hge => ?_⟩
  · repeat (first | refine AL.seq ?_ | refine AL.block ?_ | refine AL.skip ?_ | refine AL.blk ?_)
    refine AL.region follows_Try (Nat.le_refl _) (by kernel_rfl) ?_
    simp
    repeat (first | refine AL.seq ?_ | refine AL.block ?_ | refine AL.skip ?_ | refine AL.blk ?_)
    refine AL.loopT (st55b l i nb box tok nt) (fun k => k ≤ i ∧ distJ l i k = true) (fun k => i - k) 0 ⟨Nat.zero_le _, rfl⟩ (Weaks.mk (Nat.le_refl _) rfl (by simp [ToL]) trivial) ?_
    rintro k S ⟨hk, hokk⟩ hS
    simp only [st55b] at hS
    subst hS
    have hwk : IntKind.i64.wrap (↑k + 1) = ((k + 1 : Nat) : Int) := by rw [wrap_in (by omega) (by omega)]; rfl
    have gi : l.getD i 0 = l[i] := by simp [hlt]
    repeat (first | refine AL.seq ?_ | refine AL.block ?_ | refine AL.skip ?_ | refine AL.blk ?_)
    refine AL.region follows_Try (Nat.le_refl _) (by kernel_rfl) ?_
    simp
    repeat (first | refine AL.seq ?_ | refine AL.block ?_ | refine AL.skip ?_ | refine AL.blk ?_)
    refine AL.cond ?_
    simp
    refine ⟨fun hki => ?_, fun hki => ?_⟩
    · have hkl : k < l.length := by omega
      have gk : l.getD k 0 = l[k] := by simp [hkl]
      repeat (first | refine AL.seq ?_ | refine AL.block ?_ | refine AL.skip ?_ | refine AL.blk ?_)
      refine AL.region follows_Try (Nat.le_refl _) (by kernel_rfl) ?_
      simp [hlt, hkl]
      repeat (first | refine AL.seq ?_ | refine AL.block ?_ | refine AL.skip ?_ | refine AL.blk ?_)
      refine AL.cond ?_
      simp
      refine ⟨fun heq => ?_, fun hne => ?_⟩
      · repeat (first | refine AL.seq ?_ | refine AL.block ?_ | refine AL.skip ?_ | refine AL.blk ?_)
        refine AL.region follows_Try (Nat.le_refl _) (by kernel_rfl) ?_
        simp
        have hR := distK_stop hlt hki (by rw [gi, gk]; exact heq)
        repeat (first | refine AL.seq ?_ | refine AL.block ?_ | refine AL.skip ?_ | refine AL.blk ?_)
        refine AL.ret ?_
        try simp only [AU]
        refine ⟨by simp, Fin.data (by simp [resAs, resA]; rfl) hbox rfl htok (fun _ h => h) (Nat.le_refl _) ?_⟩
        simp [packA, hR]
      · repeat (first | refine AL.seq ?_ | refine AL.block ?_ | refine AL.skip ?_ | refine AL.blk ?_)
        refine AL.region follows_Try (Nat.le_refl _) (by kernel_rfl) ?_
        simp [hwk]
        repeat (first | refine AL.seq ?_ | refine AL.block ?_ | refine AL.skip ?_ | refine AL.blk ?_)
        refine AL.nil ?_
        refine ⟨k + 1, ⟨hki, ?_⟩, by omega, Weaks.mk (Nat.le_refl _) rfl (by simp [ToL]) trivial⟩
        rw [distJ_succ, hokk, gi, gk]; simp [hne]
    · repeat (first | refine AL.seq ?_ | refine AL.block ?_ | refine AL.skip ?_ | refine AL.blk ?_)
      refine AL.exit ?_
      simp only [AU, ↓reduceIte]
      have : k = i := by omega
      subst this
      repeat (first | refine AL.seq ?_ | refine AL.block ?_ | refine AL.skip ?_ | refine AL.blk ?_)
      refine AL.region follows_Try (Nat.le_refl _) (by kernel_rfl) ?_
      simp [hw]
      repeat (first | refine AL.seq ?_ | refine AL.block ?_ | refine AL.skip ?_ | refine AL.blk ?_)
      refine AL.nil ?_
      refine ⟨k + 1, ⟨hlt, ?_⟩, by omega, Weaks.mk (Nat.le_refl _) rfl (by simp [ToL]) trivial⟩
      rw [distK_succ, hok, hokk]; rfl
  · repeat (first | refine AL.seq ?_ | refine AL.block ?_ | refine AL.skip ?_ | refine AL.blk ?_)
    refine AL.exit ?_
    simp only [AU, ↓reduceIte]
    have : i = l.length := by omega
    subst this
    repeat (first | refine AL.seq ?_ | refine AL.block ?_ | refine AL.skip ?_ | refine AL.blk ?_)
    refine AL.region follows_Try (Nat.le_refl _) (by kernel_rfl) ?_
    simp
    repeat (first | refine AL.seq ?_ | refine AL.block ?_ | refine AL.skip ?_ | refine AL.blk ?_)
    refine AL.ret ?_
    try simp only [AU]
    refine ⟨by simp, Fin.data (by simp [resAs, resA]; rfl) hbox rfl htok (fun _ h => h) (Nat.le_refl _) ?_⟩
    simp [packA, hok]

def injM (a b : Gr) (m : Mo) : Bool := decide (validM a b m = 0) && (distK m.nodes m.nodes.length && distK m.edges m.edges.length)
theorem injective26_c (a b : Gr) (m : Mo) (ha : a.Fit) (hb : b.Fit) (hm : m.Fit) (tok : Nat → Bool) (nt : Nat) : DCall Try.prog 60 [a.av, b.av, m.av] tok nt (B (injM a b m)) tok nt := by
  intro box nb
  refine ACalls.of_body Try.func60 rfl (by kernel_rfl) follows_Try (by kernel_rfl) (by simp [Try.ntmps60]) ?_
  intro hbox htok
  simp only at hbox htok
  apply AL.start
  repeat (first | refine AL.seq ?_ | refine AL.block ?_ | refine AL.skip ?_ | refine AL.blk ?_)
  refine AL.region follows_Try (Nat.le_refl _) (by kernel_rfl) ?_
  simp
  repeat (first | refine AL.seq ?_ | refine AL.block ?_ | refine AL.skip ?_ | refine AL.blk ?_)
  refine AL.region follows_Try (Nat.le_refl _) (by kernel_rfl) ?_
  simp
  refine Stop.of_d (valid53_c a b m ha hb _ _) ?_
  simp
  by_cases h1 : validM a b m = 0
  · simp [h1]
    refine Stop.of_d (distinct55_c m.nodes hm.n _ _) ?_
    simp [h1]
    by_cases h2 : distK m.nodes m.nodes.length = true
    · simp [h1, h2]
      refine Stop.of_d (distinct55_c m.edges hm.e _ _) ?_
      simp [h1, h2]
      repeat (first | refine AL.seq ?_ | refine AL.block ?_ | refine AL.skip ?_ | refine AL.blk ?_)
      refine AL.ret ?_
      try simp only [AU]
      refine ⟨by simp, Fin.data (by simp [resAs, resA]; rfl) hbox rfl htok (fun _ h => h) (Nat.le_refl _) ?_⟩
      simp [packA, injM, h1, h2]
    · have h3 : distK m.nodes m.nodes.length = false := by simpa using h2
      simp only [h3]
      simp
      repeat (first | refine AL.seq ?_ | refine AL.block ?_ | refine AL.skip ?_ | refine AL.blk ?_)
      refine AL.ret ?_
      try simp only [AU]
      refine ⟨by simp, Fin.data (by simp [resAs, resA]; rfl) hbox rfl htok (fun _ h => h) (Nat.le_refl _) ?_⟩
      simp [packA, injM, h1, h3]
  · have hb1 : (validM a b m == 0) = false := by simp [h1]
    simp only [hb1]
    try simp
    repeat (first | refine AL.seq ?_ | refine AL.block ?_ | refine AL.skip ?_ | refine AL.blk ?_)
    refine AL.ret ?_
    try simp only [AU]
    refine ⟨by simp, Fin.data (by simp [resAs, resA]; rfl) hbox rfl htok (fun _ h => h) (Nat.le_refl _) ?_⟩
    simp [packA, injM, h1]

structure Dr.U8 (x : Dr) : Prop where
  n : ∀ k ∈ x.nodes, 0 ≤ k ∧ k < 256
  e : ∀ k ∈ x.edges, (0 ≤ k.1 ∧ k.1 < 256) ∧ (0 ≤ k.2.1 ∧ k.2.1 < 256) ∧ (0 ≤ k.2.2 ∧ k.2.2 < 256)

def mN (x : Dr) (i : Nat) : List Int := (x.nodes.take i).map fun n => n % 3
theorem mN_zero (x : Dr) : mN x 0 = [] := by simp [mN]
@[simp] theorem mN_len (x : Dr) (i : Nat) : (mN x i).length = min i x.nodes.length := by simp [mN]
theorem mN_succ (x : Dr) {i : Nat} (h : i < x.nodes.length) : mN x (i + 1) = mN x i ++ [x.nodes[i] % 3] := by simp only [mN, List.take_add_one, List.getElem?_eq_getElem h, Option.toList, List.map_append, List.map_cons, List.map_nil]
def mE (x : Dr) (n : Int) (i : Nat) : List E := (x.edges.take i).map fun e => ⟨e.1 % 2, e.2.1 % n, e.2.2 % n⟩
theorem mE_zero (x : Dr) (n : Int) : mE x n 0 = [] := by simp [mE]
@[simp] theorem mE_len (x : Dr) (n : Int) (i : Nat) : (mE x n i).length = min i x.edges.length := by simp [mE]
theorem mE_succ (x : Dr) (n : Int) {i : Nat} (h : i < x.edges.length) : mE x n (i + 1) = mE x n i ++ [⟨x.edges[i].1 % 2, x.edges[i].2.1 % n, x.edges[i].2.2 % n⟩] := by simp only [mE, List.take_add_one, List.getElem?_eq_getElem h, Option.toList, List.map_append, List.map_cons, List.map_nil]

/-- The graph of a draft. -/
def madeG (x : Dr) : Gr := ⟨mN x 8, if x.nodes.length = 0 then [] else mE x (mN x 8).length 10⟩

def dN (x : Dr) : D := .sl 1 (x.nodes.map fun n => [u8 n])
def dE (x : Dr) : D := .sl 3 (x.edges.map fun e => [u8 e.1, u8 e.2.1, u8 e.2.2])

def st25a (x : Dr) (nb : Nat) (box : Nat → Option (List (List AV))) (a : Acc) : AState :=
  ⟨tl [(4, I a.i), (3, AV.ptr (nb + 3) 0 0), (2, AV.ptr (nb + 2) 0 0), (1, AV.ptr (nb + 1) 0 0)],
    lb nb box [(3, [[.osl 1 (rI (mN x a.i)) a.own, .osl 3 [] Own.full]]),
            (1, [[AV.d (D.sl 1 (List.map (fun n => [u8 n]) x.nodes)), AV.d (D.sl 3 (List.map (fun e => [u8 e.fst, u8 e.snd.fst, u8 e.snd.snd]) x.edges))]]), (2, [[.bot, .bot]])], a.tok, a.nt⟩

theorem madeG_eq (x : Dr) (i k : Nat) (hi : i = min 8 x.nodes.length) (hk : k = min 10 x.edges.length ∨ i = 0) (hk0 : i = 0 → k = 0) : madeG x = ⟨mN x i, mE x i k⟩ := by
  have h1 : mN x 8 = mN x i := by rw [hi]; unfold mN; rw [List.take_eq_take_min]
  unfold madeG
  rw [h1]
  by_cases h0 : x.nodes.length = 0
  · have : i = 0 := by omega
    rw [if_pos h0, hk0 this, mE_zero]
  · have hi0 : ¬ i = 0 := by omega
    have hk' : k = min 10 x.edges.length := by rcases hk with h | h; exact h; exact absurd h hi0
    have h2 : (mN x i).length = i := by rw [mN_len]; omega
    rw [if_neg h0, h2]
    congr 1
    rw [hk']; unfold mE; rw [List.take_eq_take_min]

def st25b (x : Dr) (n : Nat) (nb : Nat) (box : Nat → Option (List (List AV))) (a : Acc) : AState :=
  ⟨tl [(5, I n), (6, I a.i), (3, AV.ptr (nb + 3) 0 0), (2, AV.ptr (nb + 2) 0 0), (1, AV.ptr (nb + 1) 0 0)],
    lb nb box [(3, [[.d (ints (mN x n)), .osl 3 (rE (mE x n a.i)) a.own]]),
            (1, [[AV.d (D.sl 1 (List.map (fun n => [u8 n]) x.nodes)), AV.d (D.sl 3 (List.map (fun e => [u8 e.fst, u8 e.snd.fst, u8 e.snd.snd]) x.edges))]]), (2, [[.bot, .bot]])], a.tok, a.nt⟩

theorem made25_c (x : Dr) (hx : x.U8) (tok : Nat → Bool) (nt : Nat) : DCall Try.prog 37 [x.av] tok nt (madeG x).av tok nt := by
  intro box nb
  refine ACalls.of_body Try.func37 rfl (by kernel_rfl) follows_Try (by kernel_rfl) (by simp [Try.ntmps37]) ?_
  intro hbox htok
  simp only at hbox htok
  apply AL.start
  repeat (first | refine AL.seq ?_ | refine AL.block ?_ | refine AL.skip ?_ | refine AL.blk ?_)
  refine AL.region follows_Try (Nat.le_refl _) (by kernel_rfl) ?_
  simp
  repeat (first | refine AL.seq ?_ | refine AL.block ?_ | refine AL.skip ?_ | refine AL.blk ?_)
  refine AL.region follows_Try (Nat.le_refl _) (by kernel_rfl) ?_
  simp
  repeat (first | refine AL.seq ?_ | refine AL.block ?_ | refine AL.skip ?_ | refine AL.blk ?_)
  refine AL.region follows_Try (Nat.le_refl _) (by kernel_rfl) ?_
  simp
  repeat (first | refine AL.seq ?_ | refine AL.block ?_ | refine AL.skip ?_ | refine AL.blk ?_)
  refine AL.loopT (st25a x nb box) (fun a => a.i ≤ x.nodes.length ∧ a.i ≤ 8 ∧ TK tok nt a.tok a.nt [a.own]) (fun a => x.nodes.length - a.i) ⟨0, .full, tok, nt⟩ ⟨Nat.zero_le _, Nat.zero_le _, (TK.start htok).full⟩ ?_ ?_
  · simp only [st25a]
    exact Weaks.mk (Nat.le_refl _) rfl (by simp [ToL, lk]) (by simp [BoxL, lk, mN_zero])
  rintro ⟨i, own, tok', nt'⟩ S ⟨hi, hi8, htk⟩ hS
  simp only [st25a] at hS hi hi8 htk
  subst hS
  have hw : IntKind.i64.wrap (↑i + 1) = ((i + 1 : Nat) : Int) := by rw [wrap_in (by omega) (by omega)]; rfl
  repeat (first | refine AL.seq ?_ | refine AL.block ?_ | refine AL.skip ?_ | refine AL.blk ?_)
  refine AL.region follows_Try (Nat.le_refl _) (by kernel_rfl) ?_
  simp
  by_cases h1 : i < x.nodes.length
  case' neg =>
    simp [h1]
    repeat (first | refine AL.seq ?_ | refine AL.block ?_ | refine AL.skip ?_ | refine AL.blk ?_)
    refine AL.cond ?_
    simp
    repeat (first | refine AL.seq ?_ | refine AL.block ?_ | refine AL.skip ?_ | refine AL.blk ?_)
    refine AL.exit ?_
    simp only [AU, ↓reduceIte]
    have hex : i = min 8 x.nodes.length := by omega
  case' pos =>
    simp [h1]
    repeat (first | refine AL.seq ?_ | refine AL.block ?_ | refine AL.skip ?_ | refine AL.blk ?_)
    refine AL.cond ?_
    simp
    refine ⟨fun hlt => ?stepg, fun hge => ?exg⟩
    case' exg =>
      repeat (first | refine AL.seq ?_ | refine AL.block ?_ | refine AL.skip ?_ | refine AL.blk ?_)
      refine AL.exit ?_
      simp only [AU, ↓reduceIte]
      have hex : i = min 8 x.nodes.length := by omega
    case stepg =>
      have hu := hx.n _ (List.getElem_mem h1)
      have hm : x.nodes[i].tmod 3 = x.nodes[i] % 3 := Int.tmod_eq_emod_of_nonneg hu.1
      have hwm : IntKind.i64.wrap (x.nodes[i] % 3) = x.nodes[i] % 3 := wrap_in (by omega) (by omega)
      repeat (first | refine AL.seq ?_ | refine AL.block ?_ | refine AL.skip ?_ | refine AL.blk ?_)
      refine AL.region follows_Try (Nat.le_refl _) (by kernel_rfl) ?_
      simp [h1]
      refine ⟨⟨by omega, htk.live⟩, ?_⟩
      repeat (first | refine AL.seq ?_ | refine AL.block ?_ | refine AL.skip ?_ | refine AL.blk ?_)
      refine AL.region follows_Try (Nat.le_refl _) (by kernel_rfl) ?_
      simp [hw]
      repeat (first | refine AL.seq ?_ | refine AL.block ?_ | refine AL.skip ?_ | refine AL.blk ?_)
      refine AL.nil ?_
      exact ⟨⟨i + 1, _, _, _⟩, ⟨h1, by simp only; omega, htk.app⟩, by simp; omega, Weaks.mk htk.app.le rfl (by simp [ToL, lk]) (by simp [BoxL, lk, mN_succ x h1, hm, hwm])⟩
  all_goals
    have hmin : min i x.nodes.length = i := by omega
    repeat (first | refine AL.seq ?_ | refine AL.block ?_ | refine AL.skip ?_ | refine AL.blk ?_)
    refine AL.region follows_Try (Nat.le_refl _) (by kernel_rfl) ?_
    simp [hmin]
    repeat (first | refine AL.seq ?_ | refine AL.block ?_ | refine AL.skip ?_ | refine AL.blk ?_)
    refine AL.region follows_Try (Nat.le_refl _) (by kernel_rfl) ?_
    simp
    repeat (first | refine AL.seq ?_ | refine AL.block ?_ | refine AL.skip ?_ | refine AL.blk ?_)
    refine AL.loopT (st25b x i nb box) (fun a => a.i ≤ x.edges.length ∧ a.i ≤ 10 ∧ (i = 0 → a.i = 0) ∧ TK tok nt a.tok a.nt [a.own]) (fun a => x.edges.length - a.i) ⟨0, .full, tok', nt'⟩ ⟨Nat.zero_le _, Nat.zero_le _, fun _ => rfl, htk.tail.full⟩ (Weaks.mk htk.le rfl (by simp [ToL, lk]) (by simp [BoxL, lk, mE_zero])) ?_
    rintro ⟨k, own2, tok2, nt2⟩ S ⟨hk, hk10, hk0, htk2⟩ hS
    simp only [st25b] at hS hk hk10 hk0 htk2
    subst hS
    have hw : IntKind.i64.wrap (↑k + 1) = ((k + 1 : Nat) : Int) := by rw [wrap_in (by omega) (by omega)]; rfl
    repeat (first | refine AL.seq ?_ | refine AL.block ?_ | refine AL.skip ?_ | refine AL.blk ?_)
    refine AL.region follows_Try (Nat.le_refl _) (by kernel_rfl) ?_
    simp
    have hzero : i = 0 → x.nodes.length = 0 := by omega
    by_cases g1 : k < x.edges.length
    case' neg =>
      simp [g1]
      repeat (first | refine AL.seq ?_ | refine AL.block ?_ | refine AL.skip ?_ | refine AL.blk ?_)
      refine AL.cond ?_
      simp
      repeat (first | refine AL.seq ?_ | refine AL.block ?_ | refine AL.skip ?_ | refine AL.blk ?_)
      refine AL.exit ?_
      simp only [AU, ↓reduceIte]
      have hR := madeG_eq x i k hex (by omega) hk0
    case' pos =>
      by_cases g2 : (k : Int) < 10
      case' neg =>
        simp [g1, g2]
        repeat (first | refine AL.seq ?_ | refine AL.block ?_ | refine AL.skip ?_ | refine AL.blk ?_)
        refine AL.cond ?_
        simp
        repeat (first | refine AL.seq ?_ | refine AL.block ?_ | refine AL.skip ?_ | refine AL.blk ?_)
        refine AL.exit ?_
        simp only [AU, ↓reduceIte]
        have hR := madeG_eq x i k hex (by omega) hk0
      case' pos =>
        by_cases g3 : 0 < i
        case' neg =>
          simp [g1, g2, g3]
          repeat (first | refine AL.seq ?_ | refine AL.block ?_ | refine AL.skip ?_ | refine AL.blk ?_)
          refine AL.cond ?_
          simp
          repeat (first | refine AL.seq ?_ | refine AL.block ?_ | refine AL.skip ?_ | refine AL.blk ?_)
          refine AL.exit ?_
          simp only [AU, ↓reduceIte]
          have hR := madeG_eq x i k hex (by omega) hk0
        case' pos =>
          obtain ⟨⟨u1, u2⟩, ⟨v1, v2⟩, ⟨w1, w2⟩⟩ := hx.e _ (List.getElem_mem g1)
          simp [g1, g2, g3]
          repeat (first | refine AL.seq ?_ | refine AL.block ?_ | refine AL.skip ?_ | refine AL.blk ?_)
          refine AL.cond ?_
          simp
          have hi0 : ¬ i = 0 := by omega
          repeat (first | refine AL.seq ?_ | refine AL.block ?_ | refine AL.skip ?_ | refine AL.blk ?_)
          refine AL.region follows_Try (Nat.le_refl _) (by kernel_rfl) ?_
          simp [g1, g3, hi0]
          refine ⟨⟨by omega, htk2.live⟩, ?_⟩
          repeat (first | refine AL.seq ?_ | refine AL.block ?_ | refine AL.skip ?_ | refine AL.blk ?_)
          refine AL.region follows_Try (Nat.le_refl _) (by kernel_rfl) ?_
          simp [hw]
          repeat (first | refine AL.seq ?_ | refine AL.block ?_ | refine AL.skip ?_ | refine AL.blk ?_)
          refine AL.nil ?_
          have q1 : IntKind.i64.wrap (x.edges[k].1.tmod 2) = x.edges[k].1 % 2 := by rw [Int.tmod_eq_emod_of_nonneg u1]; exact wrap_in (by omega) (by omega)
          have q2 : (IntKind.i64.wrap x.edges[k].2.1).tmod (i : Int) = x.edges[k].2.1 % (i : Int) := by rw [wrap_in (by omega) (by omega), Int.tmod_eq_emod_of_nonneg v1]
          have q3 : (IntKind.i64.wrap x.edges[k].2.2).tmod (i : Int) = x.edges[k].2.2 % (i : Int) := by rw [wrap_in (by omega) (by omega), Int.tmod_eq_emod_of_nonneg w1]
          exact ⟨⟨k + 1, _, _, _⟩, ⟨g1, by simp only; omega, htk2.app⟩, by simp; omega, Weaks.mk htk2.app.le rfl (by simp [ToL, lk]) (by simp [BoxL, lk, mE_succ x i g1, q1, q2, q3])⟩
    all_goals
      repeat (first | refine AL.seq ?_ | refine AL.block ?_ | refine AL.skip ?_ | refine AL.blk ?_)
      refine AL.region follows_Try (Nat.le_refl _) (by kernel_rfl) ?_
      simp
      repeat (first | refine AL.seq ?_ | refine AL.block ?_ | refine AL.skip ?_ | refine AL.blk ?_)
      refine AL.ret ?_
      try simp only [AU]
      refine ⟨by simp, Fin.data (by simp [resAs, resA]; rfl) hbox rfl htok htk2.old htk2.le ?_⟩
      simp [packA, hR]
end Go.AM
/-
  The plain law of the standard overlaps, second part: each gluing along partial matchings is a valid graph with two injective, jointly surjective morphisms, and it tells its matchings. No program in sight.
-/
namespace Go.AM
open Go
set_option linter.unusedSimpArgs false
set_option linter.unusedVariables false

theorem getD_lt {α : Type} {r : List α} {v d : α} {j : Nat} (h : j < r.length) : (r ++ [v]).getD j d = r.getD j d := by
  simp [List.getD_eq_getElem?_getD, List.getElem?_append_left h]
theorem getD_at {α : Type} {r : List α} {v d : α} : (r ++ [v]).getD r.length d = v := by
  simp [List.getD_eq_getElem?_getD]
theorem getD_pre {α : Type} {r t : List α} {d : α} {j : Nat} (h : j < r.length) : (r ++ t).getD j d = r.getD j d := by
  simp [List.getD_eq_getElem?_getD, List.getElem?_append_left h]
theorem getD_mem {α : Type} {r : List α} {d : α} {j : Nat} (h : j < r.length) : r.getD j d ∈ r := by
  simp [List.getD_eq_getElem?_getD, List.getElem?_eq_getElem h]
theorem iota_getD {n j : Nat} (h : j < n) : (iota n).getD j 0 = j := by
  simp [iota, List.getD_eq_getElem?_getD, h]

/-! ### A gluing, generally -/
def glueG {α : Type} [Inhabited α] (an bn : List α) (x : List Int) : Nat → List α × List Int
  | 0 => (an, [])
  | i + 1 => if x.getD i 0 < 0 then ((glueG an bn x i).1 ++ [bn.getD i default], (glueG an bn x i).2 ++ [((glueG an bn x i).1.length : Int)]) else ((glueG an bn x i).1, (glueG an bn x i).2 ++ [x.getD i 0])

theorem glueN_G (an bn l : List Int) : ∀ i, glueN an bn l i = glueG an bn l i
  | 0 => rfl
  | i + 1 => by
    simp only [glueN, glueG, glueN_G an bn l i]
    rfl

def mapE (rn : List Int) (e : E) : E := ⟨e.ty, rn.getD e.fr.toNat 0, rn.getD e.to.toNat 0⟩
theorem glueE_G (ae be : List E) (rn l : List Int) : ∀ i, i ≤ be.length → glueE ae be rn l i = glueG ae (be.map (mapE rn)) l i
  | 0, _ => rfl
  | i + 1, h => by
    have e : (be.map (mapE rn)).getD i default = mapE rn (be.getD i default) := by
      have : i < be.length := by omega
      simp [List.getD_eq_getElem?_getD, this]
    simp only [glueE, glueG, glueE_G ae be rn l i (by omega), e]
    rfl

structure GI {α : Type} [Inhabited α] (an bn : List α) (x : List Int) (i : Nat) (rn : List α) (r : List Int) : Prop where
  len : r.length = i
  pre : ∃ t, rn = an ++ t ∧ ∀ y ∈ t, y ∈ bn
  rng : ∀ j, j < i → 0 ≤ r.getD j 0 ∧ r.getD j 0 < rn.length
  val : ∀ j, j < i → rn.getD (r.getD j 0).toNat default = bn.getD j default
  neg : ∀ j, j < i → x.getD j 0 < 0 → (an.length : Int) ≤ r.getD j 0
  pos : ∀ j, j < i → ¬ x.getD j 0 < 0 → r.getD j 0 = x.getD j 0
  dist : ∀ j k, j < k → k < i → r.getD j 0 ≠ r.getD k 0
  cov : ∀ v : Nat, an.length ≤ v → v < rn.length → (v : Int) ∈ r

theorem glue_gi {α : Type} [Inhabited α] {an bn : List α} {x : List Int} {ok : Nat → Nat → Bool} (h : isM ok an.length bn.length x) (hok : ∀ i k, i < bn.length → k < an.length → ok i k = true → an.getD k default = bn.getD i default) :
    ∀ i, i ≤ bn.length → GI an bn x i (glueG an bn x i).1 (glueG an bn x i).2
  | 0, _ => ⟨rfl, ⟨[], by simp [glueG], by simp⟩, fun j hj => absurd hj (Nat.not_lt_zero _), fun j hj => absurd hj (Nat.not_lt_zero _), fun j hj => absurd hj (Nat.not_lt_zero _), fun j hj => absurd hj (Nat.not_lt_zero _), fun j k _ hj => absurd hj (Nat.not_lt_zero _), fun v h1 h2 => by simp only [glueG] at h2; omega⟩
  | i + 1, hi => by
    have g := glue_gi h hok i (by omega)
    simp only [glueG]
    generalize hrn : (glueG an bn x i).1 = rn at g ⊢
    generalize hr : (glueG an bn x i).2 = r at g ⊢
    obtain ⟨t, ht, htb⟩ := g.pre
    have hlen := g.len
    have hal : an.length ≤ rn.length := by rw [ht]; simp
    have hib : i < bn.length := by omega
    rcases h.2 i hib with hx | ⟨k, hx, hk, hkok, hnot⟩
    · rw [if_pos (by omega)]
      have old : ∀ j, j < i → (r ++ [(rn.length : Int)]).getD j 0 = r.getD j 0 := fun j hj => getD_lt (by omega)
      have new : (r ++ [(rn.length : Int)]).getD i 0 = rn.length := by rw [← hlen]; exact getD_at
      refine ⟨by simp [hlen], ⟨t ++ [bn.getD i default], by rw [ht, List.append_assoc], ?_⟩, fun j hj => ?_, fun j hj => ?_, fun j hj => ?_, fun j hj => ?_, fun j k hjk hk => ?_, fun v h1 h2 => ?_⟩
      · intro y hy
        rcases List.mem_append.1 hy with hy | hy
        · exact htb y hy
        · simp only [List.mem_singleton] at hy
          subst hy
          exact getD_mem hib
      · simp only [List.length_append, List.length_cons, List.length_nil]
        by_cases e : j = i
        · subst e; rw [new]; omega
        · rw [old j (by omega)]; have := g.rng j (by omega); omega
      · by_cases e : j = i
        · subst e; rw [new, Int.toNat_natCast]; exact getD_at
        · rw [old j (by omega), getD_lt (by have := g.rng j (by omega); omega)]; exact g.val j (by omega)
      · by_cases e : j = i
        · subst e; intro _; rw [new]; omega
        · rw [old j (by omega)]; exact g.neg j (by omega)
      · by_cases e : j = i
        · subst e; intro hn; omega
        · rw [old j (by omega)]; exact g.pos j (by omega)
      · by_cases e : k = i
        · subst e; rw [new, old j hjk]; have := g.rng j hjk; omega
        · rw [old j (by omega), old k (by omega)]; exact g.dist j k hjk (by omega)
      · simp only [List.length_append, List.length_cons, List.length_nil] at h2
        by_cases e : v = rn.length
        · subst e; simp
        · exact List.mem_append.2 (.inl (g.cov v h1 (by omega)))
    · rw [if_neg (by omega)]
      have old : ∀ j, j < i → (r ++ [x.getD i 0]).getD j 0 = r.getD j 0 := fun j hj => getD_lt (by omega)
      have new : (r ++ [x.getD i 0]).getD i 0 = x.getD i 0 := by
        have : (r ++ [x.getD i 0]).getD r.length 0 = x.getD i 0 := getD_at
        rw [hlen] at this; exact this
      refine ⟨by simp [hlen], ⟨t, ht, htb⟩, fun j hj => ?_, fun j hj => ?_, fun j hj => ?_, fun j hj => ?_, fun j k' hjk hk' => ?_, fun v h1 h2 => ?_⟩
      · by_cases e : j = i
        · subst e; have hkr : ((k : Nat) : Int) < rn.length := by omega
          rw [new, hx]; exact ⟨by omega, hkr⟩
        · rw [old j (by omega)]; exact g.rng j (by omega)
      · by_cases e : j = i
        · subst e; rw [new, hx, Int.toNat_natCast, ht, getD_pre hk]; exact hok j k hib hk hkok
        · rw [old j (by omega)]; exact g.val j (by omega)
      · by_cases e : j = i
        · subst e; intro hn; omega
        · rw [old j (by omega)]; exact g.neg j (by omega)
      · by_cases e : j = i
        · subst e; intro hn; exact new
        · rw [old j (by omega)]; exact g.pos j (by omega)
      · by_cases e : k' = i
        · subst e
          rw [new, old j hjk]
          by_cases hn : x.getD j 0 < 0
          · have := g.neg j hjk hn
            omega
          · rw [g.pos j hjk hn]
            intro e2
            have := isM_inj h (show j < bn.length by omega) hib (by rw [e2]; exact hx) hx
            omega
        · rw [old j (by omega), old k' (by omega)]; exact g.dist j k' hjk (by omega)
      · exact List.mem_append.2 (.inl (g.cov v h1 h2))

theorem gi_inj {α : Type} [Inhabited α] {an bn : List α} {ok ok' : Nat → Nat → Bool} {x x' : List Int} (h : isM ok an.length bn.length x) (h' : isM ok' an.length bn.length x') {rn rn' : List α} {r : List Int} {bn' : List α}
    (g : GI an bn x bn.length rn r) (g' : GI an bn' x' bn.length rn' r) : x = x' := by
  apply List.ext_getElem
  · rw [h.1, h'.1]
  · intro i h1 h2
    have hi : i < bn.length := by rw [← h.1]; exact h1
    have e1 : x.getD i 0 = x[i] := by simp [h1]
    have e2 : x'.getD i 0 = x'[i] := by simp [h2]
    rw [← e1, ← e2]
    rcases h.2 i hi with a | ⟨k, a, ak, _⟩ <;> rcases h'.2 i hi with b | ⟨k', b, bk, _⟩
    · omega
    · have := g.neg i hi (by omega); have := g'.pos i hi (by omega); omega
    · have := g'.neg i hi (by omega); have := g.pos i hi (by omega); omega
    · have := g'.pos i hi (by omega); have := g.pos i hi (by omega); omega

/-! ### The parts of the law -/
theorem firstE_zero {f : Nat → Int} : ∀ n, (∀ i, i < n → f i = 0) → firstE f n = 0
  | 0, _ => rfl
  | n + 1, h => by
    simp only [firstE, firstE_zero n fun i hi => h i (by omega), ↓reduceIte]
    exact h n (by omega)

theorem distK_of {l : List Int} {n : Nat} (h : ∀ j k, j < k → k < n → l.getD j 0 ≠ l.getD k 0) : distK l n = true := by
  simp only [distK, List.all_eq_true, List.mem_range, decide_eq_true_eq]
  exact fun j hj k hk e => h k j hk hj e.symm

theorem validG_types {g : Gr} (h : validG g = 0) : (g.nodes.length ≤ 40 ∧ g.edges.length ≤ 80) ∧ (∀ n ∈ g.nodes, withinB n 99 = true) ∧ ∀ e ∈ g.edges, fitsB e g.nodes.length = true := by
  unfold validG at h
  split at h
  · cases h
  · rename_i h0
    split at h
    · cases h
    · rename_i h1
      split at h
      · cases h
      · rename_i h2
        simp only [anyB, List.any_eq_true, not_exists, not_and, Bool.not_eq_true', Bool.not_eq_false] at h1 h2
        exact ⟨by omega, h1, h2⟩

theorem validG_of {g : Gr} (h0 : g.nodes.length ≤ 40 ∧ g.edges.length ≤ 80) (h1 : ∀ n ∈ g.nodes, withinB n 99 = true) (h2 : ∀ e ∈ g.edges, fitsB e g.nodes.length = true) : validG g = 0 := by
  unfold validG
  rw [if_neg (by omega), if_neg, if_neg]
  · simp only [anyB, List.any_eq_true, not_exists, not_and, Bool.not_eq_true', Bool.not_eq_false]; exact h2
  · simp only [anyB, List.any_eq_true, not_exists, not_and, Bool.not_eq_true', Bool.not_eq_false]; exact h1

theorem fitsB_iff (e : E) (n : Int) : fitsB e n = true ↔ withinB e.ty 99 = true ∧ (0 ≤ e.fr ∧ e.fr < n) ∧ (0 ≤ e.to ∧ e.to < n) := by
  simp only [fitsB, withinB, Bool.and_eq_true, decide_eq_true_eq]
  omega


/-- The parts of a gluing along two matchings. -/
structure Glued (a b : Gr) (x es : List Int) : Prop where
  n : GI a.nodes b.nodes x b.nodes.length (glue a b x es).g.nodes (glue a b x es).r.nodes
  e : GI a.edges (b.edges.map (mapE (glue a b x es).r.nodes)) es b.edges.length (glue a b x es).g.edges (glue a b x es).r.edges

theorem glued_of {a b : Gr} (ha : EOk a) (hb : EOk b) {x es : List Int} (h : isPair a b (x, es)) : Glued a b x es := by
  obtain ⟨h1, h2⟩ := h
  simp only at h1 h2
  have hxl : x.length = b.nodes.length := h1.1
  have hel : es.length = b.edges.length := h2.1
  have gn : GI a.nodes b.nodes x b.nodes.length (glue a b x es).g.nodes (glue a b x es).r.nodes := by
    simp only [glue, glueN_G, hxl]
    refine glue_gi h1 (fun i k hi hk hok => ?_) _ (Nat.le_refl _)
    unfold okN at hok
    rw [decide_eq_true_eq] at hok
    exact hok
  refine ⟨gn, ?_⟩
  have key : isM (okE a b x) a.edges.length (b.edges.map (mapE (glue a b x es).r.nodes)).length es := by rw [List.length_map]; exact h2
  have := glue_gi (an := a.edges) (bn := b.edges.map (mapE (glue a b x es).r.nodes)) (x := es) (ok := okE a b x) key (fun i k hi hk hok => ?_) b.edges.length (by simp)
  · have e0 : (glue a b x es).r.nodes = (glueN a.nodes b.nodes x x.length).2 := rfl
    have e1 : (glue a b x es).g.edges = (glueE a.edges b.edges (glueN a.nodes b.nodes x x.length).2 es es.length).1 := rfl
    have e2 : (glue a b x es).r.edges = (glueE a.edges b.edges (glueN a.nodes b.nodes x x.length).2 es es.length).2 := rfl
    rw [e1, e2, ← e0, hel, glueE_G _ _ _ _ _ (Nat.le_refl _)]
    exact this
  · have hib : i < b.edges.length := by simpa using hi
    unfold okE at hok
    rw [decide_eq_true_eq] at hok
    have g1 : a.edges.getD k default = a.edges[k] := by simp [hk]
    have g2 : b.edges.getD i default = b.edges[i] := by simp [hib]
    have g3 : (b.edges.map (mapE (glue a b x es).r.nodes)).getD i default = mapE (glue a b x es).r.nodes b.edges[i] := by simp [hib]
    rw [g1, g2] at hok
    rw [g1, g3]
    obtain ⟨a1, a2, a3, a4⟩ := ha _ (List.getElem_mem hk)
    obtain ⟨b1, b2, b3, b4⟩ := hb _ (List.getElem_mem hib)
    have f1 : a.edges[k].fr = x.getD b.edges[i].fr.toNat 0 := congrArg E.fr hok
    have f2 : a.edges[k].to = x.getD b.edges[i].to.toNat 0 := congrArg E.to hok
    have p1 := gn.pos b.edges[i].fr.toNat (by omega) (by omega)
    have p2 := gn.pos b.edges[i].to.toNat (by omega) (by omega)
    unfold mapE
    rw [p1, p2]
    exact hok

theorem glue_law0 {a b : Gr} (hva : validG a = 0) (hvb : validG b = 0) {x es : List Int} (h : isPair a b (x, es)) (hs : (glue a b x es).g.nodes.length ≤ 40 ∧ (glue a b x es).g.edges.length ≤ 80) :
    validG (glue a b x es).g = 0 ∧ validM a (glue a b x es).g (glue a b x es).l = 0 ∧ validM b (glue a b x es).g (glue a b x es).r = 0 := by
  have ha := validG_edges hva
  have hb := validG_edges hvb
  obtain ⟨_, ta, tea⟩ := validG_types hva
  obtain ⟨_, tb, teb⟩ := validG_types hvb
  obtain ⟨gn, ge⟩ := glued_of ha hb h
  have hl : (glue a b x es).l = idM a := rfl
  rw [hl]
  generalize glue a b x es = o at *
  obtain ⟨tn, htn, htnb⟩ := gn.pre
  obtain ⟨te, hte, hteb⟩ := ge.pre
  have nl : a.nodes.length ≤ o.g.nodes.length := by rw [htn]; simp
  have el : a.edges.length ≤ o.g.edges.length := by rw [hte]; simp
  have hv : validG o.g = 0 := by
    refine validG_of (by omega) (fun n hn => ?_) fun e he => ?_
    · rw [htn] at hn
      rcases List.mem_append.1 hn with hn | hn
      · exact ta n hn
      · exact tb n (htnb n hn)
    · rw [hte] at he
      rw [fitsB_iff]
      rcases List.mem_append.1 he with he | he
      · have := (fitsB_iff _ _).1 (tea e he)
        exact ⟨this.1, by omega, by omega⟩
      · obtain ⟨y, hy, rfl⟩ := List.mem_map.1 (hteb e he)
        have := (fitsB_iff _ _).1 (teb y hy)
        obtain ⟨y1, y2, y3, y4⟩ := hb y hy
        have r1 := gn.rng y.fr.toNat (by omega)
        have r2 := gn.rng y.to.toNat (by omega)
        exact ⟨this.1, r1, r2⟩
  refine ⟨hv, ?_, ?_⟩
  · unfold validM
    have z1 : firstE (nodeE a o.g (idM a)) a.nodes.length = 0 := firstE_zero _ fun i hi => by
      have e1 : (idM a).nodes.getD i 0 = i := iota_getD hi
      unfold nodeE
      rw [e1, if_neg (by omega), Int.toNat_natCast, if_pos]
      rw [htn, getD_pre hi]
    have z2 : firstE (edgeE a o.g (idM a)) a.edges.length = 0 := firstE_zero _ fun i hi => by
      have e1 : (idM a).edges.getD i 0 = i := iota_getD hi
      obtain ⟨a1, a2, a3, a4⟩ := ha _ (getD_mem (d := default) hi)
      have e2 : (idM a).nodes.getD (a.edges.getD i default).fr.toNat 0 = (a.edges.getD i default).fr.toNat := iota_getD (by omega)
      have e3 : (idM a).nodes.getD (a.edges.getD i default).to.toNat 0 = (a.edges.getD i default).to.toNat := iota_getD (by omega)
      unfold edgeE
      rw [e1, if_neg (by omega), Int.toNat_natCast]
      have e4 : o.g.edges.getD i default = a.edges.getD i default := by rw [hte, getD_pre hi]
      simp only [e4, e2, e3, ne_eq, not_true_eq_false, ↓reduceIte]
      rw [if_neg (by omega)]
    rw [if_neg (by simp [hva]), if_neg (by simp [hv]), if_neg (by simp [idM]), if_neg (by simp [z1]), z2]
  · unfold validM
    have ln := gn.len
    have le := ge.len
    have z1 : firstE (nodeE b o.g o.r) b.nodes.length = 0 := firstE_zero _ fun i hi => by
      have r1 := gn.rng i hi
      unfold nodeE
      rw [if_neg (by omega), if_pos]
      exact gn.val i hi
    have z2 : firstE (edgeE b o.g o.r) b.edges.length = 0 := firstE_zero _ fun i hi => by
      have r1 := ge.rng i hi
      have v1 := ge.val i hi
      have g3 : (b.edges.map (mapE o.r.nodes)).getD i default = mapE o.r.nodes (b.edges.getD i default) := by simp [hi]
      rw [g3] at v1
      unfold edgeE
      rw [if_neg (by omega)]
      simp only [v1, mapE, ne_eq, not_true_eq_false, or_self, ↓reduceIte]
    rw [if_neg (by simp [hvb]), if_neg (by simp [hv]), if_neg (by omega), if_neg (by simp [z1]), z2]

theorem glue_law {a b : Gr} (hva : validG a = 0) (hvb : validG b = 0) (hs : a.nodes.length + b.nodes.length ≤ 40 ∧ a.edges.length + b.edges.length ≤ 80) {x es : List Int} (h : isPair a b (x, es)) :
    validG (glue a b x es).g = 0 ∧ validM a (glue a b x es).g (glue a b x es).l = 0 ∧ validM b (glue a b x es).g (glue a b x es).r = 0 := by
  have hxl : x.length = b.nodes.length := h.1.1
  have hel : es.length = b.edges.length := h.2.1
  have l1 := (glueN_len a.nodes b.nodes x x.length).1
  have l2 := (glueE_len a.edges b.edges (glueN a.nodes b.nodes x x.length).2 es es.length).1
  have m1 : (glue a b x es).g.nodes.length ≤ a.nodes.length + x.length := l1
  have m2 : (glue a b x es).g.edges.length ≤ a.edges.length + es.length := l2
  exact glue_law0 hva hvb h (by omega)

theorem glue_law2 {a b : Gr} (hva : validG a = 0) (hvb : validG b = 0) (hs : a.nodes.length + b.nodes.length ≤ 40 ∧ a.edges.length + b.edges.length ≤ 80) {x es : List Int} (h : isPair a b (x, es)) :
    injM a (glue a b x es).g (glue a b x es).l = true ∧ injM b (glue a b x es).g (glue a b x es).r = true ∧ jointly a b (glue a b x es).g (glue a b x es).l (glue a b x es).r = true := by
  obtain ⟨hv, h1, h2⟩ := glue_law hva hvb hs h
  obtain ⟨gn, ge⟩ := glued_of (validG_edges hva) (validG_edges hvb) h
  have i1 : ∀ n, distK (iota n) n = true := fun n => distK_of fun j k hjk hk => by
    rw [iota_getD hk, iota_getD (by omega)]; omega
  have i2 : ∀ l : List Int, ∀ n m : Nat, (∀ v : Nat, n ≤ v → v < m → (v : Int) ∈ l) → covK (iota n) l m = true := fun l n m hc => by
    simp only [covK, List.all_eq_true, List.mem_range, Bool.or_eq_true, decide_eq_true_eq]
    intro v hv
    by_cases hvn : v < n
    · left; simp only [iota, List.mem_map, List.mem_range]; exact ⟨v, hvn, rfl⟩
    · right; exact hc v (by omega) hv
  refine ⟨?_, ?_, ?_⟩
  · have e1 : (glue a b x es).l = idM a := rfl
    unfold injM
    rw [h1, e1]
    simp [idM, i1]
  · unfold injM
    rw [h2, gn.len, ge.len, distK_of gn.dist, distK_of ge.dist]
    rfl
  · unfold jointly
    rw [h1, h2]
    have c1 := i2 _ _ _ gn.cov
    have c2 := i2 _ _ _ ge.cov
    have e1 : (glue a b x es).l.nodes = iota a.nodes.length := rfl
    have e2 : (glue a b x es).l.edges = iota a.edges.length := rfl
    rw [e1, e2, c1, c2]
    rfl

/-! ### The list of overlaps -/
theorem listO_nodup {a b : Gr} (hva : validG a = 0) (hvb : validG b = 0) : (listO a b).Nodup := by
  unfold listO
  refine List.Pairwise.map _ (fun _ _ h => h) ?_
  refine List.Pairwise.imp_of_mem ?_ (pairsM_nodup a b)
  rintro ⟨x, es⟩ ⟨x', es'⟩ hp hq hne e
  have p1 := (pairsM_mem a b _).1 hp
  have p2 := (pairsM_mem a b _).1 hq
  have g1 := glued_of (validG_edges hva) (validG_edges hvb) p1
  have g2 := glued_of (validG_edges hva) (validG_edges hvb) p2
  simp only at e
  have e1 : x = x' := by
    have := g2.n
    rw [← e] at this
    exact gi_inj p1.1 p2.1 g1.n this
  have e2 : es = es' := by
    have := g2.e
    rw [← e] at this
    have q1 : isM (okE a b x) a.edges.length (b.edges.map (mapE (glue a b x es).r.nodes)).length es := by rw [List.length_map]; exact p1.2
    have q2 : isM (okE a b x') a.edges.length (b.edges.map (mapE (glue a b x es).r.nodes)).length es' := by rw [List.length_map]; exact p2.2
    have w1 := g1.e
    have w2 := this
    have hlm : (b.edges.map (mapE (glue a b x es).r.nodes)).length = b.edges.length := by simp
    rw [← hlm] at w1 w2
    exact gi_inj q1 q2 w1 w2
  exact hne (by rw [e1, e2])

theorem dM_head (ok : Nat → Nat → Bool) (na : Nat) : ∀ (n : Nat) (l : List Int), ∃ t, dM ok na n l = (l ++ List.replicate n (-1)) :: t
  | 0, l => ⟨[], by simp [dM]⟩
  | n + 1, l => by
    obtain ⟨t, ht⟩ := dM_head ok na n (l ++ [-1])
    simp only [dM, choicesM, List.flatMap_cons, ht, List.cons_append]
    exact ⟨_, by rw [List.append_assoc, List.replicate_succ]; rfl⟩

theorem glueN_neg (an bn : List Int) (n : Nat) : ∀ i, i ≤ n → (glueN an bn (List.replicate n (-1)) i).1.length = an.length + i
  | 0, _ => by simp [glueN]
  | i + 1, h => by
    have e : (List.replicate n (-1 : Int)).getD i 0 = -1 := by
      have : i < n := by omega
      simp [List.getD_eq_getElem?_getD, this]
    simp only [glueN, e]
    rw [if_pos (by decide)]
    simp [glueN_neg an bn n i (by omega)]
    omega

theorem listO_head (a b : Gr) : ∃ o t, listO a b = o :: t ∧ o.g.nodes.length = a.nodes.length + b.nodes.length := by
  obtain ⟨t1, h1⟩ := dM_head (okN a b) a.nodes.length b.nodes.length []
  obtain ⟨t2, h2⟩ := dM_head (okE a b (List.replicate b.nodes.length (-1))) a.edges.length b.edges.length []
  have key : ∃ t, listO a b = glue a b (List.replicate b.nodes.length (-1)) (List.replicate b.edges.length (-1)) :: t := by
    unfold listO pairsM
    rw [h1]
    simp only [List.nil_append, List.flatMap_cons]
    rw [h2]
    simp only [List.nil_append, List.map_cons, List.cons_append]
    exact ⟨_, rfl⟩
  obtain ⟨t, ht⟩ := key
  refine ⟨_, t, ht, ?_⟩
  simp only [glue, List.length_replicate]
  exact glueN_neg _ _ _ _ (Nat.le_refl _)

/-! ### The graph of a draft -/
theorem madeG_small {x : Dr} (h : smallD x 4 3 = true) : (madeG x).nodes.length ≤ 4 ∧ (madeG x).edges.length ≤ 3 := by
  simp only [smallD, Bool.and_eq_true, decide_eq_true_eq] at h
  refine ⟨by simp only [madeG, mN_len]; omega, ?_⟩
  simp only [madeG]
  split
  · simp
  · simp only [mE_len]; omega
theorem madeG_len (x : Dr) : (madeG x).nodes.length ≤ 8 ∧ (madeG x).edges.length ≤ 10 := by
  refine ⟨by simp only [madeG, mN_len]; omega, ?_⟩
  simp only [madeG]
  split
  · simp
  · simp only [mE_len]; omega
theorem madeG_fit (x : Dr) : (madeG x).Fit := by
  have := madeG_len x
  exact ⟨by omega, by omega⟩
theorem madeG_valid {x : Dr} (hx : x.U8) : validG (madeG x) = 0 := by
  have hl := madeG_len x
  refine validG_of (by omega) (fun n hn => ?_) fun e he => ?_
  · simp only [madeG, mN, List.mem_map] at hn
    obtain ⟨k, hk, rfl⟩ := hn
    have := hx.n k (List.mem_of_mem_take hk)
    simp only [withinB, Bool.and_eq_true, decide_eq_true_eq]
    omega
  · simp only [madeG] at he
    split at he
    · simp at he
    · rename_i h0
      simp only [mE, List.mem_map] at he
      obtain ⟨k, hk, rfl⟩ := he
      have := hx.e k (List.mem_of_mem_take hk)
      have hp : 0 < ((mN x 8).length : Int) := by rw [mN_len]; omega
      rw [fitsB_iff]
      simp only [withinB, Bool.and_eq_true, decide_eq_true_eq, madeG]
      have m1 := Int.emod_nonneg k.2.1 (show ((mN x 8).length : Int) ≠ 0 by omega)
      have m2 := Int.emod_lt_of_pos k.2.1 hp
      have m3 := Int.emod_nonneg k.2.2 (show ((mN x 8).length : Int) ≠ 0 by omega)
      have m4 := Int.emod_lt_of_pos k.2.2 hp
      exact ⟨by omega, ⟨m1, m2⟩, m3, m4⟩
end Go.AM
