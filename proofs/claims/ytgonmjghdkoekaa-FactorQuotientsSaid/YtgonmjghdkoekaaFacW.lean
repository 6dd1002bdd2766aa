/-
  The plain law of the standard quotients: listing all partitions and choosing those that fit is going on from the least elements, class by class. No program in sight.
-/
import Derived.Test.YtgonmjghdkoekaaFacV
namespace Go.AM
open Go
set_option linter.unusedSimpArgs false
set_option linter.unusedVariables false

/-! ### Lists that grow up to 2001 -/
def lim {α : Type} (out L : List α) : List α := out ++ L.take (2001 - out.length)
theorem lim_nil {α : Type} (out : List α) : lim out [] = out := by simp [lim]
theorem lim_append {α : Type} (out A B : List α) : lim (lim out A) B = lim out (A ++ B) := by
  unfold lim
  rw [List.take_append, List.append_assoc]
  congr 2
  simp only [List.length_append, List.length_take]
  congr 1
  omega
theorem lim_full {α : Type} (out L : List α) (h : 2000 < out.length) : lim out L = out := by
  unfold lim
  have : 2001 - out.length = 0 := by omega
  simp [this]
theorem lim_one {α : Type} (out : List α) (x : α) (h : ¬ 2000 < out.length) : lim out [x] = out ++ [x] := by
  unfold lim
  have : 2001 - out.length = (2001 - out.length - 1) + 1 := by omega
  rw [this]
  simp
theorem foldl_lim {α : Type} (c : Nat → Bool) (f : Nat → List α → List α) (g : Nat → List α) : ∀ (ks : List Nat) (out : List α), (∀ k ∈ ks, ∀ out, f k out = lim out (g k)) →
    ks.foldl (fun out k => if c k = true then f k out else out) out = lim out ((ks.filter c).flatMap g)
  | [], out, _ => by simp [lim_nil]
  | k :: ks, out, h => by
    rw [List.foldl_cons, foldl_lim c f g ks _ (fun k hk => h k (by simp [hk]))]
    by_cases hk : c k = true
    · rw [List.filter_cons_of_pos hk, List.flatMap_cons, if_pos hk, h k (by simp), lim_append]
    · rw [List.filter_cons_of_neg hk, if_neg hk]

/-! ### One element after the other -/
def nextsG (g : Nat → Int → Bool) (l : List Int) : List (List Int) := ((List.range (l.length + 1)).filter fun x => decide (x = l.length ∨ (l.getD x 0 = x ∧ g l.length x = true))).map fun (x : Nat) => l ++ [(x : Int)]
def dfsG (g : Nat → Int → Bool) : Nat → List Int → List (List Int)
  | 0, l => [l]
  | n + 1, l => (nextsG g l).flatMap (dfsG g n)
def reachG (g : Nat → Int → Bool) : Nat → List Int → List (List Int)
  | 0, l => [l]
  | n + 1, l => (reachG g n l).flatMap (nextsG g)

theorem reach_comm (g : Nat → Int → Bool) : ∀ (n : Nat) (l : List Int), (nextsG g l).flatMap (reachG g n) = reachG g (n + 1) l
  | 0, l => by simp [reachG]
  | n + 1, l => by
    have : (fun l => reachG g (n + 1) l) = fun l => (reachG g n l).flatMap (nextsG g) := rfl
    show (nextsG g l).flatMap (fun l => (reachG g n l).flatMap (nextsG g)) = (reachG g (n + 1) l).flatMap (nextsG g)
    rw [← reach_comm g n l, List.flatMap_assoc]
theorem dfs_reach (g : Nat → Int → Bool) : ∀ (n : Nat) (l : List Int), dfsG g n l = reachG g n l
  | 0, l => rfl
  | n + 1, l => by
    have : dfsG g n = reachG g n := funext fun l => dfs_reach g n l
    rw [dfsG, this, reach_comm]

theorem alikeB_snoc (g : Nat → Int → Bool) (l : List Int) (x : Int) : alikeB g (l ++ [x]) = (alikeB g l && g l.length x) := by
  unfold alikeB
  simp only [List.length_append, List.length_cons, List.length_nil, Nat.zero_add]
  rw [alikeK_succ]
  congr 1
  · unfold alikeK
    rw [Bool.eq_iff_iff, List.all_eq_true, List.all_eq_true]
    constructor <;> intro h j hj <;> have := h j hj <;> have hj' : j < l.length := by simpa using hj
    · rw [List.getD_eq_getElem?_getD, List.getElem?_append_left hj', ← List.getD_eq_getElem?_getD] at this
      exact this
    · rw [List.getD_eq_getElem?_getD, List.getElem?_append_left hj', ← List.getD_eq_getElem?_getD]
      exact this
  · simp

theorem reach_filter (g : Nat → Int → Bool) (hg : ∀ i : Nat, g i i = true) : ∀ n, reachG g n [] = (partsN n).filter (alikeB g)
  | 0 => by simp [reachG, partsN, alikeB, alikeK]
  | n + 1 => by
    rw [reachG, reach_filter g hg n, partsN, List.filter_flatMap]
    have key : ∀ L : List (List Int), (∀ l ∈ L, l.length = n) → (L.filter (alikeB g)).flatMap (nextsG g) = L.flatMap fun l => (nextsK l (n + 1)).filter (alikeB g) := by
      intro L
      induction L with
      | nil => intro _; rfl
      | cons l L ih =>
        intro hL
        have hl := hL l (by simp)
        have hone : (nextsK l (n + 1)).filter (alikeB g) = if alikeB g l = true then nextsG g l else [] := by
          unfold nextsK nextsG
          rw [List.filter_map, List.filter_filter, hl]
          by_cases ha : alikeB g l = true
          · rw [if_pos ha]
            congr 1
            apply List.filter_congr
            intro x hx
            simp only [Function.comp, alikeB_snoc, ha, Bool.true_and, hl]
            rw [Bool.eq_iff_iff]
            simp only [Bool.and_eq_true, Bool.or_eq_true, decide_eq_true_eq]
            constructor
            · rintro ⟨h1, h2 | h2⟩
              · exact .inl h2
              · exact .inr ⟨h2, h1⟩
            · rintro (h1 | ⟨h1, h2⟩)
              · subst h1; exact ⟨hg _, .inl rfl⟩
              · exact ⟨h2, .inr h1⟩
          · rw [if_neg ha]
            have : ((List.range (n + 1)).filter fun a => ((alikeB g) ∘ fun (x : Nat) => l ++ [(x : Int)]) a && (decide (a = n) || decide (l.getD a 0 = ↑a))) = [] := by
              rw [List.filter_eq_nil_iff]
              intro x hx
              simp only [Function.comp, alikeB_snoc]
              simp [ha]
            rw [this]
            rfl
        rw [List.flatMap_cons, hone]
        by_cases ha : alikeB g l = true
        · rw [List.filter_cons_of_pos ha, List.flatMap_cons, if_pos ha, ih fun l hl => hL l (by simp [hl])]
        · rw [List.filter_cons_of_neg ha, if_neg ha, ih fun l hl => hL l (by simp [hl])]
          rfl
    exact key _ (partsN_len n)

/-! ### The reference's lists -/
def gE (a : Gr) (p : List Int) (i : Nat) (k : Int) : Bool := decide (likeE a p i k.toNat)
def gN (a : Gr) (i : Nat) (k : Int) : Bool := decide (a.nodes.getD i 0 = a.nodes.getD k.toNat 0)

theorem quE_lim (a : Gr) (p : List Int) : ∀ (n : Nat) (es : List Int) (out : List Qu), quE a p n es out = lim out ((dfsG (gE a p) n es).map (quot a p))
  | 0, es, out => by
    unfold quE
    split
    · rename_i h; rw [lim_full _ _ h]
    · rename_i h; simp only [dfsG, List.map_cons, List.map_nil]; rw [lim_one _ _ h]
  | n + 1, es, out => by
    unfold quE
    split
    · rename_i h; rw [lim_full _ _ h]
    · have h1 : (quStepE a p (quE a p n) es) = fun out k => if (decide (k = es.length ∨ (es.getD k 0 = k ∧ gE a p es.length k = true))) = true then quE a p n (es ++ [(k : Int)]) out else out := by
        funext out k
        simp only [quStepE, gE, decide_eq_true_eq, Int.toNat_natCast]
      rw [h1, foldl_lim _ (fun (k : Nat) out => quE a p n (es ++ [(k : Int)]) out) (fun (k : Nat) => (dfsG (gE a p) n (es ++ [(k : Int)])).map (quot a p)) _ _ (fun k _ out => quE_lim a p n _ out)]
      congr 1
      simp only [dfsG, nextsG, List.map_flatMap, List.flatMap_map]

theorem quN_lim (a : Gr) : ∀ (n : Nat) (l : List Int) (out : List Qu), quN a n l out = lim out ((dfsG (gN a) n l).flatMap fun p => (dfsG (gE a p) a.edges.length []).map (quot a p))
  | 0, l, out => by
    unfold quN
    split
    · rename_i h; rw [lim_full _ _ h]
    · simp only [dfsG, List.flatMap_cons, List.flatMap_nil, List.append_nil]; rw [quE_lim]
  | n + 1, l, out => by
    unfold quN
    split
    · rename_i h; rw [lim_full _ _ h]
    · have h1 : (quStepN a (quN a n) l) = fun out k => if (decide (k = l.length ∨ (l.getD k 0 = k ∧ gN a l.length k = true))) = true then quN a n (l ++ [(k : Int)]) out else out := by
        funext out k
        simp only [quStepN, gN, decide_eq_true_eq, Int.toNat_natCast]
        congr 1
        rw [eq_comm (a := a.nodes.getD k 0)]
      rw [h1, foldl_lim _ (fun (k : Nat) out => quN a n (l ++ [(k : Int)]) out) (fun (k : Nat) => (dfsG (gN a) n (l ++ [(k : Int)])).flatMap fun p => (dfsG (gE a p) a.edges.length []).map (quot a p)) _ _ (fun k _ out => quN_lim a n _ out)]
      congr 1
      simp only [dfsG, nextsG, List.flatMap_assoc, List.flatMap_map]

/-- All standard quotients, as the program lists them. -/
def listQ (a : Gr) : List Qu := ((partsN a.nodes.length).filter (alikeB (gN a))).flatMap fun p => ((partsN a.edges.length).filter (alikeB (gE a p))).map (quF a p)

/-! ### Numbers by least elements -/
section
variable {α : Type}
def repG (f : Nat → α) (l : List Int) : Nat → List α
  | 0 => []
  | i + 1 => if l.getD i 0 = i then repG f l i ++ [f i] else repG f l i
def fillG (p : List Int) (f : Nat → α) (n : Nat) (d : α) : Nat → List α
  | 0 => List.replicate n d
  | i + 1 => (fillG p f n d i).set (p.getD i 0).toNat (f i)

theorem numN_pre (l : List Int) : ∀ (i j k : Nat), j ≤ i → k < j → (numN l i).1.getD k 0 = (numN l j).1.getD k 0 := by
  intro i j k hji hkj
  induction i with
  | zero => have : j = 0 := by omega
            subst this; rfl
  | succ i ih =>
    by_cases h : j = i + 1
    · subst h; rfl
    · rw [← ih (by omega)]
      have hl := (numN_len l i).1
      simp only [numN]
      split <;> simp only [List.getD_eq_getElem?_getD] <;> rw [List.getElem?_append_left (by omega)]

theorem numN_rep (f : Nat → α) (l : List Int) : ∀ i, (repG f l i).length = (numN l i).2.toNat
  | 0 => rfl
  | i + 1 => by
    have ih := numN_rep f l i
    have h := numN_len l i
    simp only [repG, numN]
    split
    · simp only [List.length_append, List.length_cons, List.length_nil]; omega
    · exact ih

theorem numN_get {l : List Int} (hp : PartL l) (f : Nat → α) (hf : ∀ i (h : i < l.length), f l[i].toNat = f i) : ∀ i, i ≤ l.length → ∀ j, j < i → (repG f l i)[((numN l i).1.getD j 0).toNat]? = some (f j)
  | 0, _ => by intro j h; omega
  | i + 1, hi => by
    intro j hj
    have ih := numN_get hp f hf i (by omega)
    have hlen := numN_len l i
    have hil : i < l.length := by omega
    have hg : l.getD i 0 = l[i] := by simp [hil]
    obtain ⟨p1, p2, p3⟩ := hp i hil
    have hrep := numN_rep f l i
    by_cases hji : j < i
    · rw [numN_pre l (i + 1) i j (by omega) hji]
      have h1 := ih j hji
      simp only [repG]
      split
      · have hlt : ((numN l i).1.getD j 0).toNat < (repG f l i).length := (List.getElem?_eq_some_iff.1 h1).1
        rw [List.getElem?_append_left hlt]
        exact h1
      · exact h1
    · have hji2 : j = i := by omega
      subst hji2
      simp only [repG, numN, hg]
      split
      · rename_i he
        have : ((numN l j).1 ++ [(numN l j).2]).getD j 0 = (numN l j).2 := by
          rw [List.getD_eq_getElem?_getD, List.getElem?_append_right (by omega)]
          simp [hlen.1]
        rw [this, ← hrep]
        simp
      · rename_i he
        have : ((numN l j).1 ++ [(numN l j).1.getD l[j].toNat 0]).getD j 0 = (numN l j).1.getD l[j].toNat 0 := by
          rw [List.getD_eq_getElem?_getD, List.getElem?_append_right (by omega)]
          simp [hlen.1]
        rw [this, ih l[j].toNat (by omega), hf j hil]

theorem numN_mono (l : List Int) : ∀ i j, i ≤ j → (numN l i).2 ≤ (numN l j).2 := by
  intro i j h
  induction j with
  | zero => have : i = 0 := by omega
            subst this; exact Int.le_refl _
  | succ j ih =>
    by_cases e : i = j + 1
    · subst e; exact Int.le_refl _
    · have := ih (by omega)
      simp only [numN]
      split <;> simp only <;> omega

theorem fill_rep {l : List Int} (hp : PartL l) (f : Nat → α) (d : α) (hf : ∀ i (h : i < l.length), f l[i].toNat = f i) : ∀ i, i ≤ l.length →
    fillG (numN l l.length).1 f (numN l l.length).2.toNat d i = repG f l i ++ List.replicate ((numN l l.length).2.toNat - (numN l i).2.toNat) d
  | 0, _ => by simp [fillG, repG, numN]
  | i + 1, hi => by
    have ih := fill_rep hp f d hf i (by omega)
    have hil : i < l.length := by omega
    have hg : l.getD i 0 = l[i] := by simp [hil]
    have hlen := numN_len l i
    have hrep := numN_rep f l i
    rw [fillG, ih, numN_pre l l.length (i + 1) i hi (by omega)]
    have hm := numN_mono l (i + 1) l.length hi
    simp only [repG, numN, hg] at hm ⊢
    split
    · rename_i he
      simp only [he, ↓reduceIte] at hm
      have e1 : ((numN l i).1 ++ [(numN l i).2]).getD i 0 = (numN l i).2 := by
        rw [List.getD_eq_getElem?_getD, List.getElem?_append_right (by omega)]
        simp [hlen.1]
      rw [e1, List.set_append, ← hrep]
      simp only [Nat.lt_irrefl, ↓reduceIte, Nat.sub_self]
      have e2 : (numN l l.length).2.toNat - (repG f l i).length = ((numN l l.length).2.toNat - ((numN l i).2 + 1).toNat) + 1 := by omega
      rw [e2, List.replicate_succ, List.set_cons_zero, List.append_assoc]
      rfl
    · rename_i he
      have e1 : ((numN l i).1 ++ [(numN l i).1.getD l[i].toNat 0]).getD i 0 = (numN l i).1.getD l[i].toNat 0 := by
        rw [List.getD_eq_getElem?_getD, List.getElem?_append_right (by omega)]
        simp [hlen.1]
      obtain ⟨p1, p2, p3⟩ := hp i hil
      have h3 := numN_get hp f hf i (by omega) l[i].toNat (by omega)
      rw [hf i hil] at h3
      obtain ⟨h4, h5⟩ := List.getElem?_eq_some_iff.1 h3
      rw [e1, List.set_append, if_pos h4, ← h5, List.set_getElem_self]

theorem fill_rep_all {l : List Int} (hp : PartL l) (f : Nat → α) (d : α) (hf : ∀ i (h : i < l.length), f l[i].toNat = f i) :
    fillG (numN l l.length).1 f (numN l l.length).2.toNat d l.length = repG f l l.length := by
  rw [fill_rep hp f d hf l.length (Nat.le_refl _), Nat.sub_self]
  simp
end

theorem fillN_eq (p an : List Int) (n : Nat) : ∀ i, fillN p an n i = fillG p (fun j => an.getD j 0) n 0 i
  | 0 => rfl
  | i + 1 => by rw [fillN, fillG, fillN_eq p an n i]
theorem repN_eq (an l : List Int) : ∀ i, repN an l i = repG (fun j => an.getD j 0) l i
  | 0 => rfl
  | i + 1 => by rw [repN, repG, repN_eq an l i]
def edgeAt (ae : List E) (p : List Int) (j : Nat) : E := ⟨(ae.getD j default).ty, p.getD (ae.getD j default).fr.toNat 0, p.getD (ae.getD j default).to.toNat 0⟩
theorem fillE_eq (q p : List Int) (ae : List E) (n : Nat) : ∀ i, fillE q p ae n i = fillG q (edgeAt ae p) n ⟨0, 0, 0⟩ i
  | 0 => rfl
  | i + 1 => by rw [fillE, fillG, fillE_eq q p ae n i]; rfl
theorem repE_eq (ae : List E) (p l : List Int) : ∀ i, repE ae p l i = repG (edgeAt ae p) l i
  | 0 => rfl
  | i + 1 => by rw [repE, repG, repE_eq ae p l i]; rfl

/-- What one class has is one number. -/
theorem numN_class {l : List Int} (hp : PartL l) (x : Nat) (hx : x < l.length) : (numN l l.length).1.getD x 0 = (numN l l.length).1.getD l[x].toNat 0 := by
  obtain ⟨p1, p2, p3⟩ := hp x hx
  by_cases he : l[x] = x
  · rw [he]; rfl
  · rw [numN_pre l l.length (x + 1) x (by omega) (by omega), numN_pre l l.length x l[x].toNat (by omega) (by omega)]
    have hlen := numN_len l x
    have hg : l.getD x 0 = l[x] := by simp [hx]
    simp only [numN, hg, he, ↓reduceIte]
    rw [List.getD_eq_getElem?_getD, List.getElem?_append_right (by omega)]
    simp [hlen.1]

theorem alikeB_all {g : Nat → Int → Bool} {l : List Int} (h : alikeB g l = true) (i : Nat) (hi : i < l.length) : g i l[i] = true := by
  unfold alikeB alikeK at h
  have := List.all_eq_true.1 h i (by simpa using hi)
  simpa [hi] using this

theorem quF_quot (a : Gr) (l k : List Int) (hl : l.length = a.nodes.length) (hk : k.length = a.edges.length) (hpl : PartL l) (hpk : PartL k) (hx : ∀ e ∈ a.edges, 0 ≤ e.fr ∧ e.fr < a.nodes.length ∧ 0 ≤ e.to ∧ e.to < a.nodes.length)
    (h1 : alikeB (gN a) l = true) (h2 : alikeB (gE a l) k = true) : quF a l k = quot a l k := by
  unfold quF quot
  simp only
  congr 1
  congr 1
  · rw [← hl, fillN_eq, repN_eq]
    refine fill_rep_all hpl _ _ fun i hi => ?_
    have := alikeB_all h1 i hi
    simp only [gN, decide_eq_true_eq] at this
    exact this.symm
  · rw [← hk, fillE_eq, repE_eq]
    refine fill_rep_all hpk _ _ fun i hi => ?_
    have := alikeB_all h2 i hi
    simp only [gE, decide_eq_true_eq] at this
    obtain ⟨t1, t2, t3⟩ := this
    have hia : i < a.edges.length := by omega
    obtain ⟨q1, q2, q3⟩ := hpk i hi
    have hka : k[i].toNat < a.edges.length := by omega
    have g1 : a.edges.getD i default = a.edges[i] := by simp [hia]
    have g2 : a.edges.getD k[i].toNat default = a.edges[k[i].toNat] := by simp [hka]
    obtain ⟨x1, x2, x3, x4⟩ := hx _ (List.getElem_mem hia)
    obtain ⟨z1, z2, z3, z4⟩ := hx _ (List.getElem_mem hka)
    have cls : ∀ x y : Nat, x < l.length → y < l.length → l.getD x 0 = l.getD y 0 → (numN l l.length).1.getD x 0 = (numN l l.length).1.getD y 0 := by
      intro x y hx hy he
      have e1 : l.getD x 0 = l[x] := by simp [hx]
      have e2 : l.getD y 0 = l[y] := by simp [hy]
      rw [numN_class hpl x hx, numN_class hpl y hy, ← e1, ← e2, he]
    rw [g1, g2] at t1 t2 t3
    simp only [edgeAt, g1, g2, E.mk.injEq]
    exact ⟨t1.symm, (cls _ _ (by omega) (by omega) t2).symm, (cls _ _ (by omega) (by omega) t3).symm⟩

theorem quN_list (a : Gr) (hx : ∀ e ∈ a.edges, 0 ≤ e.fr ∧ e.fr < a.nodes.length ∧ 0 ≤ e.to ∧ e.to < a.nodes.length) : quN a a.nodes.length [] [] = (listQ a).take 2001 := by
  rw [quN_lim, dfs_reach, reach_filter _ (fun i => by simp [gN])]
  have e : (((partsN a.nodes.length).filter (alikeB (gN a))).flatMap fun p => (dfsG (gE a p) a.edges.length []).map (quot a p)) = listQ a := by
    unfold listQ
    have key : ∀ L : List (List Int), (∀ p ∈ L, p ∈ partsN a.nodes.length ∧ alikeB (gN a) p = true) → (L.flatMap fun p => (dfsG (gE a p) a.edges.length []).map (quot a p)) = L.flatMap fun p => ((partsN a.edges.length).filter (alikeB (gE a p))).map (quF a p) := by
      intro L
      induction L with
      | nil => intro _; rfl
      | cons p L ih =>
        intro hL
        obtain ⟨hp, ha⟩ := hL p (by simp)
        rw [List.flatMap_cons, List.flatMap_cons, ih fun p hp => hL p (by simp [hp]), dfs_reach, reach_filter _ (fun i => by simp [gE, likeE])]
        congr 1
        apply List.map_congr_left
        intro q hq
        rw [List.mem_filter] at hq
        exact (quF_quot a p q (partsN_len _ p hp) (partsN_len _ q hq.1) (partsN_partL _ p hp) (partsN_partL _ q hq.1) hx ha hq.2).symm
    exact key _ fun p hp => by simpa using List.mem_filter.1 hp
  rw [e]
  simp [lim]
end Go.AM
